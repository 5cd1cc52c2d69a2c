/-
  The compiled bodies of the functions of this seat, as the kernel reckons them (written by a program of this place).
-/
import Derived.Test.YtejifalflkbekaaDoorA31
import Derived.Test.YtejifalflkbekaaDoorProg
import Derived.KernelRfl
set_option maxRecDepth 100000
namespace Go.Proofs.YtejifalflkbekaaDoor
open Go Go.Abs
def F_law18_DualLess : Nat:=7
def F_law18_lacks : Nat:=8
def F_law18_sets : Nat:=9
def F_dual_Prices : Nat:=10
def F_law18_same : Nat:=12
def F_law18_wakes : Nat:=13
def F_dual_Bound : Nat:=14
def F_dual_Greedy : Nat:=16
def F_bitset_Set_Without : Nat:=18
def F_bitset_Set_Count : Nat:=19
def F_dual_Needless : Nat:=20
def F_dual_Essential : Nat:=21
def F_bitset_New : Nat:=22
def F_bitset_Set_With : Nat:=23
def F_dual_may : Nat:=24
def F_bitset_Set_Size : Nat:=25
def F_bitset_Set_List : Nat:=26
def F_dual_has : Nat:=27
def F_slices_MinFunc_Lint_int : Nat:=28
def F_dual_Prices_1 : Nat:=29
def F_num_Cross : Nat:=30
def F_bitset_Full : Nat:=34
def F_bitset_Set_Has : Nat:=35
def F_dual_fair : Nat:=36
def F_num_Sum : Nat:=37
def F_dual_cheapest : Nat:=38
def F_slices_Sort_Lint_int : Nat:=39
def F_bitset_Set_within : Nat:=40
def F_bitset_Set_copied : Nat:=41
def F_bits_OnesCount64 : Nat:=42
def F_dual_lacking : Nat:=43
def F_dual_stands : Nat:=44
def F_bitset_Set_Less : Nat:=45
def F_bitset_Set_Or : Nat:=46
def F_bitset_Set_And : Nat:=47
def F_inst_Inst_Check : Nat:=48
def F_bitset_Set_Next : Nat:=49
def F_slices_BinarySearch_Lint_int : Nat:=50
def F_num_times : Nat:=51
def F_num_distance : Nat:=52
def F_num_short : Nat:=54
def F_num_total : Nat:=55
def F_dual_fresh : Nat:=56
def F_slices_pdqsortOrdered_int : Nat:=57
def F_bits_Len : Nat:=58
def F_slices_Clone_Luint64_uint64 : Nat:=59
def F_bitset_Set_Within : Nat:=60
def F_bitset_Set_each : Nat:=61
def F_bitset_Set_Less_1 : Nat:=62
def F_bitset_Set_Or_1 : Nat:=63
def F_bitset_Set_And_1 : Nat:=64
def F_inst_Kind_is : Nat:=65
def F_inst_Inst_lean : Nat:=66
def F_inst_Inst_few : Nat:=67
def F_inst_Inst_shaped : Nat:=68
def F_inst_Inst_small : Nat:=69
def F_inst_Inst_bare : Nat:=70
def F_bits_TrailingZeros64 : Nat:=71
def F_cmp_Less_int : Nat:=72
def F_slices_isNaN_int : Nat:=73
def F_bits_Mul64 : Nat:=74
def F_num_size : Nat:=75
def F_cmp_Or_int : Nat:=76
def F_cmp_Compare_uint64 : Nat:=77
def F_num_add : Nat:=79
def F_num_of : Nat:=80
def F_slices_insertionSortOrdered_int : Nat:=81
def F_slices_heapSortOrdered_int : Nat:=82
def F_slices_breakPatternsOrdered_int : Nat:=83
def F_slices_choosePivotOrdered_int : Nat:=84
def F_slices_reverseRangeOrdered_int : Nat:=85
def F_slices_partialInsertionSortOrdered_int : Nat:=86
def F_slices_partitionEqualOrdered_int : Nat:=87
def F_slices_partitionOrdered_int : Nat:=88
def F_bits_Len32 : Nat:=89
def F_bits_Len64 : Nat:=90
def F_bitset_Set_word : Nat:=91
def F_inst_Kind_square : Nat:=92
def F_inst_from : Nat:=93
def F_cmp_isNaN_int : Nat:=94
def F_cmp_isNaN_uint64 : Nat:=95
def F_num_plus : Nat:=97
def F_num_normal : Nat:=98
def F_num_less : Nat:=99
def F_slices_siftDownOrdered_int : Nat:=100
def F_slices_nextPowerOfTwo : Nat:=101
def F_slices_xorshift_Next : Nat:=102
def F_slices_medianAdjacentOrdered_int : Nat:=103
def F_slices_medianOrdered_int : Nat:=104
def F_bits_Add64 : Nat:=105
def F_bits_Sub64 : Nat:=106
def F_slices_order2Ordered_int : Nat:=107
def T_int64 : Nat:=2
def T_int : Nat:=3
def T_uint8 : Nat:=5
def T_string : Nat:=9
def T_bitset_Set : Nat:=26
def T_Lint64 : Nat:=34
def T_inst_Set : Nat:=50
def T_secateurlaw18_Set : Nat:=57
def T_secateurref09_Set : Nat:=58
def T_uint64 : Nat:=74
def T_inst_Inst : Nat:=83
def T_num_wide : Nat:=89
def T_inst_Item : Nat:=127
def T_64_uint8 : Nat:=128
def T_slices_xorshift : Nat:=133
def str_0 : ByteArray:=⟨#[115,108,105,99,101,115,46,77,105,110,70,117,110,99,58,32,101,109,112,116,121,32,108,105,115,116]⟩
def str_1 : ByteArray:=⟨#[0,1,2,2,3,3,3,3,4,4,4,4,4,4,4,4,5,5,5,5,5,5,5,5,5,5,5,5,5,5,5,5,6,6,6,6,6,6,6,6,6,6,6,6,6,6,6,6,6,6,6,6,6,6,6,6,6,6,6,6,6,6,6,6,7,7,7,7,7,7,7,7,7,7,7,7,7,7,7,7,7,7,7,7,7,7,7,7,7,7,7,7,7,7,7,7,7,7,7,7,7,7,7,7,7,7,7,7,7,7,7,7,7,7,7,7,7,7,7,7,7,7,7,7,7,7,7,7,8,8,8,8,8,8,8,8,8,8,8,8,8,8,8,8,8,8,8,8,8,8,8,8,8,8,8,8,8,8,8,8,8,8,8,8,8,8,8,8,8,8,8,8,8,8,8,8,8,8,8,8,8,8,8,8,8,8,8,8,8,8,8,8,8,8,8,8,8,8,8,8,8,8,8,8,8,8,8,8,8,8,8,8,8,8,8,8,8,8,8,8,8,8,8,8,8,8,8,8,8,8,8,8,8,8,8,8,8,8,8,8,8,8,8,8,8,8,8,8,8,8,8,8,8,8,8,8]⟩
def ir_bitset_Set_Without : AFunc :=
 ⟨25,[(.cellN 2 4)],(.seq (.region [⟨some 2,.box T_bitset_Set (.tmp 0),none⟩,⟨some 4,.new T_bitset_Set [(.int .i64 0),(.slice none 0 0)],none⟩] false) (.seq (.seq (.region [⟨some 6,.loadN 2 (.tmp 2),none⟩,⟨some 7,.mv (.tmp 1),none⟩,⟨some 8,.call (.func F_bitset_Set_within) [(.tmp 6),(.tmp 7)],none⟩,⟨some 9,.un .not (.tmp 8),none⟩] false) (.cond (.tmp 9) (.seq (.region [⟨some 10,.loadN 2 (.tmp 2),none⟩,⟨none,.storeN 2 (.tmp 4) (.tmp 10),none⟩] false) .ret) .skip)) (.seq (.region [⟨some 11,.loadN 2 (.tmp 2),none⟩,⟨some 12,.call (.func F_bitset_Set_copied) [(.tmp 11)],none⟩,⟨some 5,.new T_bitset_Set [(.int .i64 0),(.slice none 0 0)],none⟩,⟨none,.storeN 2 (.tmp 5) (.tmp 12),none⟩] false) (.seq (.region [⟨some 13,.faddr 1 (.tmp 5),none⟩,⟨some 14,.load1 (.tmp 13),none⟩,⟨some 15,.mv (.tmp 1),none⟩,⟨some 16,.bin .quo (.tmp 15) (.const (.int .i64 64)),none⟩,⟨some 17,.idxS 1 (.tmp 14) (.tmp 16),none⟩,⟨some 18,.load1 (.tmp 17),none⟩,⟨some 19,.mv (.tmp 1),none⟩,⟨some 20,.bin .rem (.tmp 19) (.const (.int .i64 64)),none⟩,⟨some 21,.bin .shl (.const (uv 1)) (.tmp 20),none⟩,⟨some 22,.bin .andNot (.tmp 18) (.tmp 21),none⟩,⟨some 23,.idxS 1 (.tmp 14) (.tmp 16),none⟩,⟨none,.store1 (.tmp 23) (.tmp 22),none⟩] true) (.seq (.region [⟨some 24,.loadN 2 (.tmp 5),none⟩,⟨none,.storeN 2 (.tmp 4) (.tmp 24),none⟩] false) .ret)))))⟩
theorem ir_bitset_Set_Without_eq : compF Tryd.prog F_bitset_Set_Without = some ir_bitset_Set_Without:=by kernel_rfl
theorem good_bitset_Set_Without : goodFunc Tryd.prog F_bitset_Set_Without = true:=by kernel_rfl
variable {vs : List Value} {H : AH} {Q : Value → AH → Prop}
@[simp] theorem call_bitset_Set_Without : ACall Tryd.prog (.func (.func F_bitset_Set_Without) #[] #[]) vs H Q = AFn Tryd.prog F_bitset_Set_Without vs H Q:=ACall_fn good_bitset_Set_Without
def ir_bitset_Set_Count_l0 : ACode :=
 (.seq (.region [⟨some 10,.bin .lss (.tmp 9) (.tmp 8),none⟩] false) (.seq (.cond (.tmp 10) .skip (.exit 0)) (.seq (.block 1 (.seq (.region [⟨some 11,.idxS 1 (.tmp 7) (.tmp 9),none⟩,⟨some 12,.load1 (.tmp 11),none⟩,⟨some 5,.mv (.tmp 12),none⟩] false) (.region [⟨some 13,.mv (.tmp 3),none⟩,⟨some 14,.mv (.tmp 5),none⟩,⟨some 15,.call (.func F_bits_OnesCount64) [(.tmp 14)],none⟩,⟨some 16,.bin .add (.tmp 13) (.tmp 15),none⟩,⟨some 3,.mv (.tmp 16),none⟩] false))) (.region [⟨some 17,.bin .add (.tmp 9) (.const (.int .i64 1)),none⟩,⟨some 9,.mv (.tmp 17),none⟩] false))))
def ir_bitset_Set_Count : AFunc :=
 ⟨19,[(.tmp 2)],(.seq (.region [⟨some 1,.box T_bitset_Set (.tmp 0),none⟩,⟨some 2,.mv (.const (.int .i64 0)),none⟩] false) (.seq (.region [⟨some 3,.mv (.const (.int .i64 0)),none⟩] false) (.seq (.seq (.region [⟨some 6,.faddr 1 (.tmp 1),none⟩,⟨some 7,.load1 (.tmp 6),none⟩,⟨some 8,.len (.tmp 7),none⟩,⟨some 9,.mv (.const (.int .i64 0)),none⟩] false) (.block 0 (ACode.loop ir_bitset_Set_Count_l0))) (.seq (.region [⟨some 18,.mv (.tmp 3),none⟩,⟨some 2,.mv (.tmp 18),none⟩] false) .ret))))⟩
theorem ir_bitset_Set_Count_eq : compF Tryd.prog F_bitset_Set_Count = some ir_bitset_Set_Count:=by kernel_rfl
theorem good_bitset_Set_Count : goodFunc Tryd.prog F_bitset_Set_Count = true:=by kernel_rfl
@[simp] theorem call_bitset_Set_Count : ACall Tryd.prog (.func (.func F_bitset_Set_Count) #[] #[]) vs H Q = AFn Tryd.prog F_bitset_Set_Count vs H Q:=ACall_fn good_bitset_Set_Count
@[simp] theorem callD_bitset_Set_Count : ACallD Tryd.prog (.func (.func F_bitset_Set_Count) #[] #[]) vs H Q = AFnD Tryd.prog F_bitset_Set_Count vs H Q:=ACallD_fn good_bitset_Set_Count
def ir_bitset_New : AFunc :=
 ⟨18,[(.cellN 2 2),(.tmp 3)],(.seq (.region [⟨some 2,.new T_bitset_Set [(.int .i64 0),(.slice none 0 0)],none⟩,⟨some 3,.mv (.const (.int .i64 0)),none⟩] false) (.seq (.seq (.region [⟨some 4,.mv (.tmp 0),none⟩,⟨some 5,.bin .lss (.tmp 4) (.const (.int .i64 0)),none⟩,⟨some 6,.mv (.tmp 5),none⟩,⟨some 7,.mv (.tmp 0),some (6,false)⟩,⟨some 8,.bin .gtr (.tmp 7) (.const (.int .i64 4096)),some (6,false)⟩,⟨some 9,.pick (.tmp 6) (.const (.bool true)) (.tmp 8),none⟩] false) (.cond (.tmp 9) (.seq (.region [⟨some 10,.build [(.int .i64 0),(.slice none 0 0)] [],none⟩,⟨none,.storeN 2 (.tmp 2) (.tmp 10),none⟩,⟨some 3,.mv (.const (.int .i64 2)),none⟩] false) .ret) .skip)) (.seq (.region [⟨some 11,.mv (.tmp 0),none⟩,⟨some 12,.mv (.tmp 0),none⟩,⟨some 13,.bin .add (.tmp 12) (.const (.int .i64 64)),none⟩,⟨some 14,.bin .sub (.tmp 13) (.const (.int .i64 1)),none⟩,⟨some 15,.bin .quo (.tmp 14) (.const (.int .i64 64)),none⟩,⟨some 16,.mks T_uint64 8 [(uv 0)] (.tmp 15) (.tmp 15),none⟩,⟨some 17,.build [(.int .i64 0),(.slice none 0 0)] [(0,(1,(.tmp 11))),(1,(1,(.tmp 16)))],none⟩,⟨none,.storeN 2 (.tmp 2) (.tmp 17),none⟩,⟨some 3,.mv (.const (.int .i64 0)),none⟩] false) .ret)))⟩
theorem ir_bitset_New_eq : compF Tryd.prog F_bitset_New = some ir_bitset_New:=by kernel_rfl
theorem good_bitset_New : goodFunc Tryd.prog F_bitset_New = true:=by kernel_rfl
@[simp] theorem call_bitset_New : ACall Tryd.prog (.func (.func F_bitset_New) #[] #[]) vs H Q = AFn Tryd.prog F_bitset_New vs H Q:=ACall_fn good_bitset_New
def ir_bitset_Set_With : AFunc :=
 ⟨25,[(.cellN 2 4)],(.seq (.region [⟨some 2,.box T_bitset_Set (.tmp 0),none⟩,⟨some 4,.new T_bitset_Set [(.int .i64 0),(.slice none 0 0)],none⟩] false) (.seq (.seq (.region [⟨some 6,.loadN 2 (.tmp 2),none⟩,⟨some 7,.mv (.tmp 1),none⟩,⟨some 8,.call (.func F_bitset_Set_within) [(.tmp 6),(.tmp 7)],none⟩,⟨some 9,.un .not (.tmp 8),none⟩] false) (.cond (.tmp 9) (.seq (.region [⟨some 10,.loadN 2 (.tmp 2),none⟩,⟨none,.storeN 2 (.tmp 4) (.tmp 10),none⟩] false) .ret) .skip)) (.seq (.region [⟨some 11,.loadN 2 (.tmp 2),none⟩,⟨some 12,.call (.func F_bitset_Set_copied) [(.tmp 11)],none⟩,⟨some 5,.new T_bitset_Set [(.int .i64 0),(.slice none 0 0)],none⟩,⟨none,.storeN 2 (.tmp 5) (.tmp 12),none⟩] false) (.seq (.region [⟨some 13,.faddr 1 (.tmp 5),none⟩,⟨some 14,.load1 (.tmp 13),none⟩,⟨some 15,.mv (.tmp 1),none⟩,⟨some 16,.bin .quo (.tmp 15) (.const (.int .i64 64)),none⟩,⟨some 17,.idxS 1 (.tmp 14) (.tmp 16),none⟩,⟨some 18,.load1 (.tmp 17),none⟩,⟨some 19,.mv (.tmp 1),none⟩,⟨some 20,.bin .rem (.tmp 19) (.const (.int .i64 64)),none⟩,⟨some 21,.bin .shl (.const (uv 1)) (.tmp 20),none⟩,⟨some 22,.bin .or (.tmp 18) (.tmp 21),none⟩,⟨some 23,.idxS 1 (.tmp 14) (.tmp 16),none⟩,⟨none,.store1 (.tmp 23) (.tmp 22),none⟩] true) (.seq (.region [⟨some 24,.loadN 2 (.tmp 5),none⟩,⟨none,.storeN 2 (.tmp 4) (.tmp 24),none⟩] false) .ret)))))⟩
theorem ir_bitset_Set_With_eq : compF Tryd.prog F_bitset_Set_With = some ir_bitset_Set_With:=by kernel_rfl
theorem good_bitset_Set_With : goodFunc Tryd.prog F_bitset_Set_With = true:=by kernel_rfl
@[simp] theorem call_bitset_Set_With : ACall Tryd.prog (.func (.func F_bitset_Set_With) #[] #[]) vs H Q = AFn Tryd.prog F_bitset_Set_With vs H Q:=ACall_fn good_bitset_Set_With
def ir_bitset_Set_Size : AFunc :=
 ⟨5,[(.tmp 2)],(.seq (.region [⟨some 1,.box T_bitset_Set (.tmp 0),none⟩,⟨some 2,.mv (.const (.int .i64 0)),none⟩] false) (.seq (.region [⟨some 3,.faddr 0 (.tmp 1),none⟩,⟨some 4,.load1 (.tmp 3),none⟩,⟨some 2,.mv (.tmp 4),none⟩] false) .ret))⟩
theorem ir_bitset_Set_Size_eq : compF Tryd.prog F_bitset_Set_Size = some ir_bitset_Set_Size:=by kernel_rfl
theorem good_bitset_Set_Size : goodFunc Tryd.prog F_bitset_Set_Size = true:=by kernel_rfl
@[simp] theorem call_bitset_Set_Size : ACall Tryd.prog (.func (.func F_bitset_Set_Size) #[] #[]) vs H Q = AFn Tryd.prog F_bitset_Set_Size vs H Q:=ACall_fn good_bitset_Set_Size
def ir_bitset_Set_List_l0 : ACode :=
 (.seq (.seq (.region [⟨some 7,.mv (.tmp 4),none⟩,⟨some 8,.bin .geq (.tmp 7) (.const (.int .i64 0)),none⟩] false) (.cond (.tmp 8) .skip (.exit 0))) (.seq (.block 1 (.region [⟨some 13,.mv (.tmp 3),none⟩,⟨some 14,.mv (.tmp 4),none⟩,⟨some 15,.bslice T_int 1 [(.int .i64 0)] [(0,(1,(.tmp 14)))],none⟩,⟨some 16,.app T_int 1 8 (.tmp 13) (.tmp 15),none⟩,⟨some 3,.mv (.tmp 16),none⟩] false)) (.region [⟨some 9,.loadN 2 (.tmp 1),none⟩,⟨some 10,.mv (.tmp 4),none⟩,⟨some 11,.bin .add (.tmp 10) (.const (.int .i64 1)),none⟩,⟨some 12,.call (.func F_bitset_Set_Next) [(.tmp 9),(.tmp 11)],none⟩,⟨some 4,.mv (.tmp 12),none⟩] false)))
def ir_bitset_Set_List : AFunc :=
 ⟨18,[(.tmp 2)],(.seq (.region [⟨some 1,.box T_bitset_Set (.tmp 0),none⟩,⟨some 2,.mv (.const (.slice none 0 0)),none⟩] false) (.seq (.region [⟨some 3,.mv (.const (.slice none 0 0)),none⟩] false) (.seq (.seq (.region [⟨some 5,.loadN 2 (.tmp 1),none⟩,⟨some 6,.call (.func F_bitset_Set_Next) [(.tmp 5),(.const (.int .i64 0))],none⟩,⟨some 4,.mv (.tmp 6),none⟩] false) (.block 0 (ACode.loop ir_bitset_Set_List_l0))) (.seq (.region [⟨some 17,.mv (.tmp 3),none⟩,⟨some 2,.mv (.tmp 17),none⟩] false) .ret))))⟩
theorem ir_bitset_Set_List_eq : compF Tryd.prog F_bitset_Set_List = some ir_bitset_Set_List:=by kernel_rfl
theorem good_bitset_Set_List : goodFunc Tryd.prog F_bitset_Set_List = true:=by kernel_rfl
def ir_bitset_Full_l0 : ACode :=
 (.seq (.region [⟨some 17,.bin .lss (.tmp 16) (.tmp 15),none⟩] false) (.seq (.cond (.tmp 17) .skip (.exit 0)) (.seq (.block 1 (.seq (.region [⟨some 18,.mv (.tmp 16),none⟩,⟨some 6,.mv (.tmp 18),none⟩] false) (.region [⟨some 19,.faddr 1 (.tmp 4),none⟩,⟨some 20,.load1 (.tmp 19),none⟩,⟨some 21,.mv (.tmp 6),none⟩,⟨some 22,.idxS 1 (.tmp 20) (.tmp 21),none⟩,⟨none,.store1 (.tmp 22) (.const (uv 18446744073709551615)),none⟩] false))) (.region [⟨some 23,.bin .add (.tmp 16) (.const (.int .i64 1)),none⟩,⟨some 16,.mv (.tmp 23),none⟩] false))))
def ir_bitset_Full : AFunc :=
 ⟨44,[(.cellN 2 2),(.tmp 3)],(.seq (.region [⟨some 2,.new T_bitset_Set [(.int .i64 0),(.slice none 0 0)],none⟩,⟨some 3,.mv (.const (.int .i64 0)),none⟩] false) (.seq (.region [⟨some 9,.mv (.tmp 0),none⟩,⟨some 10,.call (.func F_bitset_New) [(.tmp 9)],none⟩,⟨some 8,.mv (.tmp 10),none⟩,⟨some 11,.ext (.tmp 8) 0,none⟩,⟨some 12,.ext (.tmp 8) 1,none⟩,⟨some 4,.new T_bitset_Set [(.int .i64 0),(.slice none 0 0)],none⟩,⟨none,.storeN 2 (.tmp 4) (.tmp 11),none⟩,⟨some 5,.mv (.tmp 12),none⟩] false) (.seq (.seq (.region [⟨some 13,.faddr 1 (.tmp 4),none⟩,⟨some 14,.load1 (.tmp 13),none⟩,⟨some 15,.len (.tmp 14),none⟩,⟨some 16,.mv (.const (.int .i64 0)),none⟩] false) (.block 0 (ACode.loop ir_bitset_Full_l0))) (.seq (.seq (.region [⟨some 24,.mv (.tmp 0),none⟩,⟨some 25,.bin .rem (.tmp 24) (.const (.int .i64 64)),none⟩,⟨some 7,.mv (.tmp 25),none⟩] false) (.seq (.region [⟨some 26,.mv (.tmp 7),none⟩,⟨some 27,.bin .gtr (.tmp 26) (.const (.int .i64 0)),none⟩,⟨some 28,.mv (.tmp 27),none⟩,⟨some 29,.mv (.tmp 5),some (28,true)⟩,⟨some 30,.bin .eql (.tmp 29) (.const (.int .i64 0)),some (28,true)⟩,⟨some 31,.pick (.tmp 28) (.tmp 30) (.const (.bool false)),none⟩] false) (.cond (.tmp 31) (.region [⟨some 32,.faddr 1 (.tmp 4),none⟩,⟨some 33,.load1 (.tmp 32),none⟩,⟨some 34,.faddr 1 (.tmp 4),none⟩,⟨some 35,.load1 (.tmp 34),none⟩,⟨some 36,.len (.tmp 35),none⟩,⟨some 37,.bin .sub (.tmp 36) (.const (.int .i64 1)),none⟩,⟨some 38,.mv (.tmp 7),none⟩,⟨some 39,.bin .shl (.const (uv 1)) (.tmp 38),none⟩,⟨some 40,.bin .sub (.tmp 39) (.const (uv 1)),none⟩,⟨some 41,.idxS 1 (.tmp 33) (.tmp 37),none⟩,⟨none,.store1 (.tmp 41) (.tmp 40),none⟩] true) .skip))) (.seq (.region [⟨some 42,.loadN 2 (.tmp 4),none⟩,⟨some 43,.mv (.tmp 5),none⟩,⟨none,.storeN 2 (.tmp 2) (.tmp 42),none⟩,⟨some 3,.mv (.tmp 43),none⟩] false) .ret)))))⟩
theorem ir_bitset_Full_eq : compF Tryd.prog F_bitset_Full = some ir_bitset_Full:=by kernel_rfl
theorem good_bitset_Full : goodFunc Tryd.prog F_bitset_Full = true:=by kernel_rfl
def ir_bitset_Set_Has : AFunc :=
 ⟨21,[(.tmp 4)],(.seq (.region [⟨some 2,.box T_bitset_Set (.tmp 0),none⟩,⟨some 4,.mv (.const (.bool false)),none⟩] false) (.seq (.region [⟨some 5,.loadN 2 (.tmp 2),none⟩,⟨some 6,.mv (.tmp 1),none⟩,⟨some 7,.call (.func F_bitset_Set_within) [(.tmp 5),(.tmp 6)],none⟩,⟨some 8,.mv (.tmp 7),none⟩,⟨some 9,.faddr 1 (.tmp 2),some (8,true)⟩,⟨some 10,.load1 (.tmp 9),some (8,true)⟩,⟨some 11,.mv (.tmp 1),some (8,true)⟩,⟨some 12,.bin .quo (.tmp 11) (.const (.int .i64 64)),some (8,true)⟩,⟨some 13,.idxS 1 (.tmp 10) (.tmp 12),some (8,true)⟩,⟨some 14,.load1 (.tmp 13),some (8,true)⟩,⟨some 15,.mv (.tmp 1),some (8,true)⟩,⟨some 16,.bin .rem (.tmp 15) (.const (.int .i64 64)),some (8,true)⟩,⟨some 17,.bin .shr (.tmp 14) (.tmp 16),some (8,true)⟩,⟨some 18,.bin .and (.tmp 17) (.const (uv 1)),some (8,true)⟩,⟨some 19,.bin .eql (.tmp 18) (.const (uv 1)),some (8,true)⟩,⟨some 20,.pick (.tmp 8) (.tmp 19) (.const (.bool false)),none⟩,⟨some 4,.mv (.tmp 20),none⟩] false) .ret))⟩
theorem ir_bitset_Set_Has_eq : compF Tryd.prog F_bitset_Set_Has = some ir_bitset_Set_Has:=by kernel_rfl
theorem good_bitset_Set_Has : goodFunc Tryd.prog F_bitset_Set_Has = true:=by kernel_rfl
@[simp] theorem call_bitset_Set_Has : ACall Tryd.prog (.func (.func F_bitset_Set_Has) #[] #[]) vs H Q = AFn Tryd.prog F_bitset_Set_Has vs H Q:=ACall_fn good_bitset_Set_Has
def ir_bitset_Set_within : AFunc :=
 ⟨13,[(.tmp 4)],(.seq (.region [⟨some 2,.box T_bitset_Set (.tmp 0),none⟩,⟨some 4,.mv (.const (.bool false)),none⟩] false) (.seq (.region [⟨some 5,.mv (.tmp 1),none⟩,⟨some 6,.bin .geq (.tmp 5) (.const (.int .i64 0)),none⟩,⟨some 7,.mv (.tmp 6),none⟩,⟨some 8,.mv (.tmp 1),some (7,true)⟩,⟨some 9,.faddr 0 (.tmp 2),some (7,true)⟩,⟨some 10,.load1 (.tmp 9),some (7,true)⟩,⟨some 11,.bin .lss (.tmp 8) (.tmp 10),some (7,true)⟩,⟨some 12,.pick (.tmp 7) (.tmp 11) (.const (.bool false)),none⟩,⟨some 4,.mv (.tmp 12),none⟩] false) .ret))⟩
theorem ir_bitset_Set_within_eq : compF Tryd.prog F_bitset_Set_within = some ir_bitset_Set_within:=by kernel_rfl
theorem good_bitset_Set_within : goodFunc Tryd.prog F_bitset_Set_within = true:=by kernel_rfl
@[simp] theorem call_bitset_Set_within : ACall Tryd.prog (.func (.func F_bitset_Set_within) #[] #[]) vs H Q = AFn Tryd.prog F_bitset_Set_within vs H Q:=ACall_fn good_bitset_Set_within
def ir_bitset_Set_copied : AFunc :=
 ⟨9,[(.cellN 2 2)],(.seq (.region [⟨some 1,.box T_bitset_Set (.tmp 0),none⟩,⟨some 2,.new T_bitset_Set [(.int .i64 0),(.slice none 0 0)],none⟩] false) (.seq (.region [⟨some 3,.faddr 0 (.tmp 1),none⟩,⟨some 4,.load1 (.tmp 3),none⟩,⟨some 5,.faddr 1 (.tmp 1),none⟩,⟨some 6,.load1 (.tmp 5),none⟩,⟨some 7,.call (.func F_slices_Clone_Luint64_uint64) [(.tmp 6)],none⟩,⟨some 8,.build [(.int .i64 0),(.slice none 0 0)] [(0,(1,(.tmp 4))),(1,(1,(.tmp 7)))],none⟩,⟨none,.storeN 2 (.tmp 2) (.tmp 8),none⟩] true) .ret))⟩
theorem ir_bitset_Set_copied_eq : compF Tryd.prog F_bitset_Set_copied = some ir_bitset_Set_copied:=by kernel_rfl
theorem good_bitset_Set_copied : goodFunc Tryd.prog F_bitset_Set_copied = true:=by kernel_rfl
@[simp] theorem call_bitset_Set_copied : ACall Tryd.prog (.func (.func F_bitset_Set_copied) #[] #[]) vs H Q = AFn Tryd.prog F_bitset_Set_copied vs H Q:=ACall_fn good_bitset_Set_copied
def ir_bits_OnesCount64 : AFunc :=
 ⟨35,[(.tmp 2)],(.seq (.region [⟨some 2,.mv (.const (.int .i64 0)),none⟩] false) (.seq (.region [⟨some 3,.mv (.tmp 0),none⟩,⟨some 4,.bin .shr (.tmp 3) (.const (uv 1)),none⟩,⟨some 5,.bin .and (.tmp 4) (.const (uv 6148914691236517205)),none⟩,⟨some 6,.mv (.tmp 0),none⟩,⟨some 7,.bin .and (.tmp 6) (.const (uv 6148914691236517205)),none⟩,⟨some 8,.bin .add (.tmp 5) (.tmp 7),none⟩,⟨some 0,.mv (.tmp 8),none⟩] false) (.seq (.region [⟨some 9,.mv (.tmp 0),none⟩,⟨some 10,.bin .shr (.tmp 9) (.const (uv 2)),none⟩,⟨some 11,.bin .and (.tmp 10) (.const (uv 3689348814741910323)),none⟩,⟨some 12,.mv (.tmp 0),none⟩,⟨some 13,.bin .and (.tmp 12) (.const (uv 3689348814741910323)),none⟩,⟨some 14,.bin .add (.tmp 11) (.tmp 13),none⟩,⟨some 0,.mv (.tmp 14),none⟩] false) (.seq (.region [⟨some 15,.mv (.tmp 0),none⟩,⟨some 16,.bin .shr (.tmp 15) (.const (uv 4)),none⟩,⟨some 17,.mv (.tmp 0),none⟩,⟨some 18,.bin .add (.tmp 16) (.tmp 17),none⟩,⟨some 19,.bin .and (.tmp 18) (.const (uv 1085102592571150095)),none⟩,⟨some 0,.mv (.tmp 19),none⟩] false) (.seq (.region [⟨some 20,.mv (.tmp 0),none⟩,⟨some 21,.mv (.tmp 0),none⟩,⟨some 22,.bin .shr (.tmp 21) (.const (uv 8)),none⟩,⟨some 23,.bin .add (.tmp 20) (.tmp 22),none⟩,⟨some 0,.mv (.tmp 23),none⟩] false) (.seq (.region [⟨some 24,.mv (.tmp 0),none⟩,⟨some 25,.mv (.tmp 0),none⟩,⟨some 26,.bin .shr (.tmp 25) (.const (uv 16)),none⟩,⟨some 27,.bin .add (.tmp 24) (.tmp 26),none⟩,⟨some 0,.mv (.tmp 27),none⟩] false) (.seq (.region [⟨some 28,.mv (.tmp 0),none⟩,⟨some 29,.mv (.tmp 0),none⟩,⟨some 30,.bin .shr (.tmp 29) (.const (uv 32)),none⟩,⟨some 31,.bin .add (.tmp 28) (.tmp 30),none⟩,⟨some 0,.mv (.tmp 31),none⟩] false) (.seq (.region [⟨some 32,.mv (.tmp 0),none⟩,⟨some 33,.conv .i64 (.tmp 32),none⟩,⟨some 34,.bin .and (.tmp 33) (.const (.int .i64 127)),none⟩,⟨some 2,.mv (.tmp 34),none⟩] false) .ret))))))))⟩
theorem ir_bits_OnesCount64_eq : compF Tryd.prog F_bits_OnesCount64 = some ir_bits_OnesCount64:=by kernel_rfl
theorem good_bits_OnesCount64 : goodFunc Tryd.prog F_bits_OnesCount64 = true:=by kernel_rfl
@[simp] theorem call_bits_OnesCount64 : ACall Tryd.prog (.func (.func F_bits_OnesCount64) #[] #[]) vs H Q = AFn Tryd.prog F_bits_OnesCount64 vs H Q:=ACall_fn good_bits_OnesCount64
def ir_bitset_Set_Less : AFunc :=
 ⟨8,[(.cellN 2 4)],(.seq (.region [⟨some 2,.box T_bitset_Set (.tmp 0),none⟩,⟨some 3,.box T_bitset_Set (.tmp 1),none⟩,⟨some 4,.new T_bitset_Set [(.int .i64 0),(.slice none 0 0)],none⟩] false) (.seq (.region [⟨some 5,.loadN 2 (.tmp 2),none⟩,⟨some 6,.loadN 2 (.tmp 3),none⟩,⟨some 7,.call (.func F_bitset_Set_each) [(.tmp 5),(.tmp 6),(.func F_bitset_Set_Less_1)],none⟩,⟨none,.storeN 2 (.tmp 4) (.tmp 7),none⟩] false) .ret))⟩
theorem ir_bitset_Set_Less_eq : compF Tryd.prog F_bitset_Set_Less = some ir_bitset_Set_Less:=by kernel_rfl
theorem good_bitset_Set_Less : goodFunc Tryd.prog F_bitset_Set_Less = true:=by kernel_rfl
@[simp] theorem call_bitset_Set_Less : ACall Tryd.prog (.func (.func F_bitset_Set_Less) #[] #[]) vs H Q = AFn Tryd.prog F_bitset_Set_Less vs H Q:=ACall_fn good_bitset_Set_Less
def ir_bitset_Set_Or : AFunc :=
 ⟨8,[(.cellN 2 4)],(.seq (.region [⟨some 2,.box T_bitset_Set (.tmp 0),none⟩,⟨some 3,.box T_bitset_Set (.tmp 1),none⟩,⟨some 4,.new T_bitset_Set [(.int .i64 0),(.slice none 0 0)],none⟩] false) (.seq (.region [⟨some 5,.loadN 2 (.tmp 2),none⟩,⟨some 6,.loadN 2 (.tmp 3),none⟩,⟨some 7,.call (.func F_bitset_Set_each) [(.tmp 5),(.tmp 6),(.func F_bitset_Set_Or_1)],none⟩,⟨none,.storeN 2 (.tmp 4) (.tmp 7),none⟩] false) .ret))⟩
theorem ir_bitset_Set_Or_eq : compF Tryd.prog F_bitset_Set_Or = some ir_bitset_Set_Or:=by kernel_rfl
theorem good_bitset_Set_Or : goodFunc Tryd.prog F_bitset_Set_Or = true:=by kernel_rfl
@[simp] theorem callD_bitset_Set_Or : ACallD Tryd.prog (.func (.func F_bitset_Set_Or) #[] #[]) vs H Q = AFnD Tryd.prog F_bitset_Set_Or vs H Q:=ACallD_fn good_bitset_Set_Or
def ir_bitset_Set_And : AFunc :=
 ⟨8,[(.cellN 2 4)],(.seq (.region [⟨some 2,.box T_bitset_Set (.tmp 0),none⟩,⟨some 3,.box T_bitset_Set (.tmp 1),none⟩,⟨some 4,.new T_bitset_Set [(.int .i64 0),(.slice none 0 0)],none⟩] false) (.seq (.region [⟨some 5,.loadN 2 (.tmp 2),none⟩,⟨some 6,.loadN 2 (.tmp 3),none⟩,⟨some 7,.call (.func F_bitset_Set_each) [(.tmp 5),(.tmp 6),(.func F_bitset_Set_And_1)],none⟩,⟨none,.storeN 2 (.tmp 4) (.tmp 7),none⟩] false) .ret))⟩
theorem ir_bitset_Set_And_eq : compF Tryd.prog F_bitset_Set_And = some ir_bitset_Set_And:=by kernel_rfl
theorem good_bitset_Set_And : goodFunc Tryd.prog F_bitset_Set_And = true:=by kernel_rfl
@[simp] theorem callD_bitset_Set_And : ACallD Tryd.prog (.func (.func F_bitset_Set_And) #[] #[]) vs H Q = AFnD Tryd.prog F_bitset_Set_And vs H Q:=ACallD_fn good_bitset_Set_And
def ir_inst_Inst_Check : AFunc :=
 ⟨28,[(.tmp 2)],(.seq (.region [⟨some 1,.box T_inst_Inst (.tmp 0),none⟩,⟨some 2,.mv (.const (.int .i64 0)),none⟩] false) (.seq (.block 0 (.seq (.region [⟨some 4,.faddr 0 (.tmp 1),none⟩,⟨some 5,.load1 (.tmp 4),none⟩,⟨some 6,.call (.func F_inst_Kind_is) [(.tmp 5)],none⟩,⟨some 7,.un .not (.tmp 6),none⟩,⟨some 3,.mv (.tmp 7),none⟩] false) (.cond (.tmp 3) (.seq (.region [⟨some 2,.mv (.const (.int .i64 25)),none⟩] false) .ret) (.seq (.region [⟨some 9,.loadN 6 (.tmp 1),none⟩,⟨some 10,.call (.func F_inst_Inst_lean) [(.tmp 9)],none⟩,⟨some 11,.un .not (.tmp 10),none⟩,⟨some 8,.mv (.tmp 11),none⟩] false) (.cond (.tmp 8) (.seq (.region [⟨some 2,.mv (.const (.int .i64 4)),none⟩] false) .ret) (.seq (.region [⟨some 13,.loadN 6 (.tmp 1),none⟩,⟨some 14,.call (.func F_inst_Inst_few) [(.tmp 13)],none⟩,⟨some 15,.un .not (.tmp 14),none⟩,⟨some 12,.mv (.tmp 15),none⟩] false) (.cond (.tmp 12) (.seq (.region [⟨some 2,.mv (.const (.int .i64 22)),none⟩] false) .ret) (.seq (.region [⟨some 17,.loadN 6 (.tmp 1),none⟩,⟨some 18,.call (.func F_inst_Inst_shaped) [(.tmp 17)],none⟩,⟨some 19,.un .not (.tmp 18),none⟩,⟨some 16,.mv (.tmp 19),none⟩] false) (.cond (.tmp 16) (.seq (.region [⟨some 2,.mv (.const (.int .i64 4)),none⟩] false) .ret) (.seq (.region [⟨some 21,.loadN 6 (.tmp 1),none⟩,⟨some 22,.call (.func F_inst_Inst_small) [(.tmp 21)],none⟩,⟨some 23,.un .not (.tmp 22),none⟩,⟨some 20,.mv (.tmp 23),none⟩] false) (.cond (.tmp 20) (.seq (.region [⟨some 2,.mv (.const (.int .i64 22)),none⟩] false) .ret) (.seq (.region [⟨some 25,.loadN 6 (.tmp 1),none⟩,⟨some 26,.call (.func F_inst_Inst_bare) [(.tmp 25)],none⟩,⟨some 27,.un .not (.tmp 26),none⟩,⟨some 24,.mv (.tmp 27),none⟩] false) (.cond (.tmp 24) (.seq (.region [⟨some 2,.mv (.const (.int .i64 4)),none⟩] false) .ret) .skip))))))))))))) (.seq (.region [⟨some 2,.mv (.const (.int .i64 0)),none⟩] false) .ret)))⟩
theorem ir_inst_Inst_Check_eq : compF Tryd.prog F_inst_Inst_Check = some ir_inst_Inst_Check:=by kernel_rfl
theorem good_inst_Inst_Check : goodFunc Tryd.prog F_inst_Inst_Check = true:=by kernel_rfl
@[simp] theorem call_inst_Inst_Check : ACall Tryd.prog (.func (.func F_inst_Inst_Check) #[] #[]) vs H Q = AFn Tryd.prog F_inst_Inst_Check vs H Q:=ACall_fn good_inst_Inst_Check
def ir_bitset_Set_Next_l0 : ACode :=
 (.seq (.seq (.region [⟨some 8,.mv (.tmp 1),none⟩,⟨some 9,.faddr 0 (.tmp 2),none⟩,⟨some 10,.load1 (.tmp 9),none⟩,⟨some 11,.bin .lss (.tmp 8) (.tmp 10),none⟩] false) (.cond (.tmp 11) .skip (.exit 0))) (.block 1 (.seq (.seq (.region [⟨some 12,.faddr 1 (.tmp 2),none⟩,⟨some 13,.load1 (.tmp 12),none⟩,⟨some 14,.mv (.tmp 1),none⟩,⟨some 15,.bin .quo (.tmp 14) (.const (.int .i64 64)),none⟩,⟨some 16,.idxS 1 (.tmp 13) (.tmp 15),none⟩,⟨some 17,.load1 (.tmp 16),none⟩,⟨some 18,.mv (.tmp 1),none⟩,⟨some 19,.bin .rem (.tmp 18) (.const (.int .i64 64)),none⟩,⟨some 20,.bin .shr (.tmp 17) (.tmp 19),none⟩,⟨some 5,.mv (.tmp 20),none⟩] false) (.seq (.region [⟨some 21,.mv (.tmp 5),none⟩,⟨some 22,.bin .neq (.tmp 21) (.const (uv 0)),none⟩] false) (.cond (.tmp 22) (.seq (.region [⟨some 23,.mv (.tmp 1),none⟩,⟨some 24,.mv (.tmp 5),none⟩,⟨some 25,.call (.func F_bits_TrailingZeros64) [(.tmp 24)],none⟩,⟨some 26,.bin .add (.tmp 23) (.tmp 25),none⟩,⟨some 4,.mv (.tmp 26),none⟩] false) .ret) .skip))) (.region [⟨some 27,.mv (.tmp 1),none⟩,⟨some 28,.mv (.tmp 1),none⟩,⟨some 29,.bin .rem (.tmp 28) (.const (.int .i64 64)),none⟩,⟨some 30,.bin .sub (.const (.int .i64 64)) (.tmp 29),none⟩,⟨some 31,.bin .add (.tmp 27) (.tmp 30),none⟩,⟨some 1,.mv (.tmp 31),none⟩] false))))
def ir_bitset_Set_Next : AFunc :=
 ⟨32,[(.tmp 4)],(.seq (.region [⟨some 2,.box T_bitset_Set (.tmp 0),none⟩,⟨some 4,.mv (.const (.int .i64 0)),none⟩] false) (.seq (.region [⟨some 6,.mv (.tmp 1),none⟩,⟨some 7,.mx (.tmp 6) (.const (.int .i64 0)),none⟩,⟨some 1,.mv (.tmp 7),none⟩] false) (.seq (.block 0 (ACode.loop ir_bitset_Set_Next_l0)) (.seq (.region [⟨some 4,.mv (.const (.int .i64 (-1))),none⟩] false) .ret))))⟩
theorem ir_bitset_Set_Next_eq : compF Tryd.prog F_bitset_Set_Next = some ir_bitset_Set_Next:=by kernel_rfl
theorem good_bitset_Set_Next : goodFunc Tryd.prog F_bitset_Set_Next = true:=by kernel_rfl
def ir_slices_Clone_Luint64_uint64 : AFunc :=
 ⟨8,[(.tmp 2)],(.seq (.region [⟨some 2,.mv (.const (.slice none 0 0)),none⟩] false) (.seq (.seq (.region [⟨some 3,.mv (.tmp 0),none⟩,⟨some 4,.eqv false .nilSlice (.tmp 3) (.const (.slice none 0 0)),none⟩] false) (.cond (.tmp 4) (.seq (.region [⟨some 2,.mv (.const (.slice none 0 0)),none⟩] false) .ret) .skip)) (.seq (.region [⟨some 5,.bslice T_uint64 0 [] [],none⟩,⟨some 6,.mv (.tmp 0),none⟩,⟨some 7,.app T_uint64 1 8 (.tmp 5) (.tmp 6),none⟩,⟨some 2,.mv (.tmp 7),none⟩] false) .ret)))⟩
theorem ir_slices_Clone_Luint64_uint64_eq : compF Tryd.prog F_slices_Clone_Luint64_uint64 = some ir_slices_Clone_Luint64_uint64:=by kernel_rfl
theorem good_slices_Clone_Luint64_uint64 : goodFunc Tryd.prog F_slices_Clone_Luint64_uint64 = true:=by kernel_rfl
@[simp] theorem callD_slices_Clone_Luint64_uint64 : ACallD Tryd.prog (.func (.func F_slices_Clone_Luint64_uint64) #[] #[]) vs H Q = AFnD Tryd.prog F_slices_Clone_Luint64_uint64 vs H Q:=ACallD_fn good_slices_Clone_Luint64_uint64
def ir_bitset_Set_Within : AFunc :=
 ⟨10,[(.tmp 4)],(.seq (.region [⟨some 2,.box T_bitset_Set (.tmp 0),none⟩,⟨some 3,.box T_bitset_Set (.tmp 1),none⟩,⟨some 4,.mv (.const (.bool false)),none⟩] false) (.seq (.region [⟨some 5,.loadN 2 (.tmp 2),none⟩,⟨some 6,.loadN 2 (.tmp 3),none⟩,⟨some 7,.call (.func F_bitset_Set_Less) [(.tmp 5),(.tmp 6)],none⟩,⟨some 8,.call (.func F_bitset_Set_Count) [(.tmp 7)],none⟩,⟨some 9,.bin .eql (.tmp 8) (.const (.int .i64 0)),none⟩,⟨some 4,.mv (.tmp 9),none⟩] false) .ret))⟩
theorem ir_bitset_Set_Within_eq : compF Tryd.prog F_bitset_Set_Within = some ir_bitset_Set_Within:=by kernel_rfl
theorem good_bitset_Set_Within : goodFunc Tryd.prog F_bitset_Set_Within = true:=by kernel_rfl
@[simp] theorem callD_bitset_Set_Within : ACallD Tryd.prog (.func (.func F_bitset_Set_Within) #[] #[]) vs H Q = AFnD Tryd.prog F_bitset_Set_Within vs H Q:=ACallD_fn good_bitset_Set_Within
def ir_bitset_Set_each_l0 : ACode :=
 (.seq (.region [⟨some 17,.bin .lss (.tmp 16) (.tmp 15),none⟩] false) (.seq (.cond (.tmp 17) .skip (.exit 0)) (.seq (.block 1 (.seq (.region [⟨some 18,.mv (.tmp 16),none⟩,⟨some 19,.idxS 1 (.tmp 14) (.tmp 16),none⟩,⟨some 20,.load1 (.tmp 19),none⟩,⟨some 8,.mv (.tmp 18),none⟩,⟨some 9,.mv (.tmp 20),none⟩] false) (.region [⟨some 21,.faddr 1 (.tmp 7),none⟩,⟨some 22,.load1 (.tmp 21),none⟩,⟨some 23,.mv (.tmp 8),none⟩,⟨some 24,.mv (.tmp 2),none⟩,⟨some 25,.mv (.tmp 9),none⟩,⟨some 26,.loadN 2 (.tmp 4),none⟩,⟨some 27,.mv (.tmp 8),none⟩,⟨some 28,.call (.func F_bitset_Set_word) [(.tmp 26),(.tmp 27)],none⟩,⟨some 29,.call (.tmp 24) [(.tmp 25),(.tmp 28)],none⟩,⟨some 30,.idxS 1 (.tmp 22) (.tmp 23),none⟩,⟨none,.store1 (.tmp 30) (.tmp 29),none⟩] true))) (.region [⟨some 31,.bin .add (.tmp 16) (.const (.int .i64 1)),none⟩,⟨some 16,.mv (.tmp 31),none⟩] false))))
def ir_bitset_Set_each : AFunc :=
 ⟨51,[(.cellN 2 6)],(.seq (.region [⟨some 3,.box T_bitset_Set (.tmp 0),none⟩,⟨some 4,.box T_bitset_Set (.tmp 1),none⟩,⟨some 6,.new T_bitset_Set [(.int .i64 0),(.slice none 0 0)],none⟩] false) (.seq (.region [⟨some 11,.loadN 2 (.tmp 3),none⟩,⟨some 12,.call (.func F_bitset_Set_copied) [(.tmp 11)],none⟩,⟨some 7,.new T_bitset_Set [(.int .i64 0),(.slice none 0 0)],none⟩,⟨none,.storeN 2 (.tmp 7) (.tmp 12),none⟩] false) (.seq (.seq (.region [⟨some 13,.faddr 1 (.tmp 3),none⟩,⟨some 14,.load1 (.tmp 13),none⟩,⟨some 15,.len (.tmp 14),none⟩,⟨some 16,.mv (.const (.int .i64 0)),none⟩] false) (.block 0 (ACode.loop ir_bitset_Set_each_l0))) (.seq (.seq (.region [⟨some 32,.faddr 0 (.tmp 3),none⟩,⟨some 33,.load1 (.tmp 32),none⟩,⟨some 34,.bin .rem (.tmp 33) (.const (.int .i64 64)),none⟩,⟨some 10,.mv (.tmp 34),none⟩] false) (.seq (.region [⟨some 35,.mv (.tmp 10),none⟩,⟨some 36,.bin .gtr (.tmp 35) (.const (.int .i64 0)),none⟩] false) (.cond (.tmp 36) (.region [⟨some 37,.faddr 1 (.tmp 7),none⟩,⟨some 38,.load1 (.tmp 37),none⟩,⟨some 39,.faddr 1 (.tmp 7),none⟩,⟨some 40,.load1 (.tmp 39),none⟩,⟨some 41,.len (.tmp 40),none⟩,⟨some 42,.bin .sub (.tmp 41) (.const (.int .i64 1)),none⟩,⟨some 43,.idxS 1 (.tmp 38) (.tmp 42),none⟩,⟨some 44,.load1 (.tmp 43),none⟩,⟨some 45,.mv (.tmp 10),none⟩,⟨some 46,.bin .shl (.const (uv 1)) (.tmp 45),none⟩,⟨some 47,.bin .sub (.tmp 46) (.const (uv 1)),none⟩,⟨some 48,.bin .and (.tmp 44) (.tmp 47),none⟩,⟨some 49,.idxS 1 (.tmp 38) (.tmp 42),none⟩,⟨none,.store1 (.tmp 49) (.tmp 48),none⟩] true) .skip))) (.seq (.region [⟨some 50,.loadN 2 (.tmp 7),none⟩,⟨none,.storeN 2 (.tmp 6) (.tmp 50),none⟩] false) .ret)))))⟩
theorem ir_bitset_Set_each_eq : compF Tryd.prog F_bitset_Set_each = some ir_bitset_Set_each:=by kernel_rfl
theorem good_bitset_Set_each : goodFunc Tryd.prog F_bitset_Set_each = true:=by kernel_rfl
@[simp] theorem call_bitset_Set_each : ACall Tryd.prog (.func (.func F_bitset_Set_each) #[] #[]) vs H Q = AFn Tryd.prog F_bitset_Set_each vs H Q:=ACall_fn good_bitset_Set_each
def ir_bitset_Set_Less_1 : AFunc :=
 ⟨8,[(.tmp 4)],(.seq (.region [⟨some 4,.mv (.const (uv 0)),none⟩] false) (.seq (.region [⟨some 5,.mv (.tmp 0),none⟩,⟨some 6,.mv (.tmp 1),none⟩,⟨some 7,.bin .andNot (.tmp 5) (.tmp 6),none⟩,⟨some 4,.mv (.tmp 7),none⟩] false) .ret))⟩
theorem ir_bitset_Set_Less_1_eq : compF Tryd.prog F_bitset_Set_Less_1 = some ir_bitset_Set_Less_1:=by kernel_rfl
theorem good_bitset_Set_Less_1 : goodFunc Tryd.prog F_bitset_Set_Less_1 = true:=by kernel_rfl
def ir_bitset_Set_Or_1 : AFunc :=
 ⟨8,[(.tmp 4)],(.seq (.region [⟨some 4,.mv (.const (uv 0)),none⟩] false) (.seq (.region [⟨some 5,.mv (.tmp 0),none⟩,⟨some 6,.mv (.tmp 1),none⟩,⟨some 7,.bin .or (.tmp 5) (.tmp 6),none⟩,⟨some 4,.mv (.tmp 7),none⟩] false) .ret))⟩
theorem ir_bitset_Set_Or_1_eq : compF Tryd.prog F_bitset_Set_Or_1 = some ir_bitset_Set_Or_1:=by kernel_rfl
theorem good_bitset_Set_Or_1 : goodFunc Tryd.prog F_bitset_Set_Or_1 = true:=by kernel_rfl
def ir_bitset_Set_And_1 : AFunc :=
 ⟨8,[(.tmp 4)],(.seq (.region [⟨some 4,.mv (.const (uv 0)),none⟩] false) (.seq (.region [⟨some 5,.mv (.tmp 0),none⟩,⟨some 6,.mv (.tmp 1),none⟩,⟨some 7,.bin .and (.tmp 5) (.tmp 6),none⟩,⟨some 4,.mv (.tmp 7),none⟩] false) .ret))⟩
theorem ir_bitset_Set_And_1_eq : compF Tryd.prog F_bitset_Set_And_1 = some ir_bitset_Set_And_1:=by kernel_rfl
theorem good_bitset_Set_And_1 : goodFunc Tryd.prog F_bitset_Set_And_1 = true:=by kernel_rfl
def ir_inst_Kind_is : AFunc :=
 ⟨9,[(.tmp 2)],(.seq (.region [⟨some 2,.mv (.const (.bool false)),none⟩] false) (.seq (.region [⟨some 3,.mv (.tmp 0),none⟩,⟨some 4,.bin .geq (.tmp 3) (.const (.int .i64 0)),none⟩,⟨some 5,.mv (.tmp 4),none⟩,⟨some 6,.mv (.tmp 0),some (5,true)⟩,⟨some 7,.bin .lss (.tmp 6) (.const (.int .i64 4)),some (5,true)⟩,⟨some 8,.pick (.tmp 5) (.tmp 7) (.const (.bool false)),none⟩,⟨some 2,.mv (.tmp 8),none⟩] false) .ret))⟩
theorem ir_inst_Kind_is_eq : compF Tryd.prog F_inst_Kind_is = some ir_inst_Kind_is:=by kernel_rfl
theorem good_inst_Kind_is : goodFunc Tryd.prog F_inst_Kind_is = true:=by kernel_rfl
@[simp] theorem call_inst_Kind_is : ACall Tryd.prog (.func (.func F_inst_Kind_is) #[] #[]) vs H Q = AFn Tryd.prog F_inst_Kind_is vs H Q:=ACall_fn good_inst_Kind_is
def ir_inst_Inst_lean : AFunc :=
 ⟨44,[(.tmp 2)],(.seq (.region [⟨some 1,.box T_inst_Inst (.tmp 0),none⟩,⟨some 2,.mv (.const (.bool false)),none⟩] false) (.seq (.region [⟨some 3,.faddr 0 (.tmp 1),none⟩,⟨some 4,.load1 (.tmp 3),none⟩,⟨some 5,.bin .eql (.tmp 4) (.const (.int .i64 0)),none⟩,⟨some 6,.mv (.tmp 5),none⟩,⟨some 7,.faddr 1 (.tmp 1),some (6,false)⟩,⟨some 8,.load1 (.tmp 7),some (6,false)⟩,⟨some 9,.bin .eql (.tmp 8) (.const (.int .i64 0)),some (6,false)⟩,⟨some 10,.mv (.tmp 9),some (6,false)⟩,⟨some 11,.faddr 2 (.tmp 1),some (10,true)⟩,⟨some 12,.load1 (.tmp 11),some (10,true)⟩,⟨some 13,.len (.tmp 12),some (10,true)⟩,⟨some 14,.bin .eql (.tmp 13) (.const (.int .i64 0)),some (10,true)⟩,⟨some 15,.pick (.tmp 10) (.tmp 14) (.const (.bool false)),some (6,false)⟩,⟨some 16,.pick (.tmp 6) (.const (.bool true)) (.tmp 15),none⟩,⟨some 17,.mv (.tmp 16),none⟩,⟨some 18,.faddr 0 (.tmp 1),some (17,true)⟩,⟨some 19,.load1 (.tmp 18),some (17,true)⟩,⟨some 20,.call (.func F_inst_Kind_square) [(.tmp 19)],some (17,true)⟩,⟨some 21,.mv (.tmp 20),some (17,true)⟩,⟨some 22,.faddr 3 (.tmp 1),some (21,false)⟩,⟨some 23,.load1 (.tmp 22),some (21,false)⟩,⟨some 24,.len (.tmp 23),some (21,false)⟩,⟨some 25,.bin .eql (.tmp 24) (.const (.int .i64 0)),some (21,false)⟩,⟨some 26,.pick (.tmp 21) (.const (.bool true)) (.tmp 25),some (17,true)⟩,⟨some 27,.pick (.tmp 17) (.tmp 26) (.const (.bool false)),none⟩,⟨some 28,.mv (.tmp 27),none⟩,⟨some 29,.faddr 0 (.tmp 1),some (28,true)⟩,⟨some 30,.load1 (.tmp 29),some (28,true)⟩,⟨some 31,.bin .eql (.tmp 30) (.const (.int .i64 3)),some (28,true)⟩,⟨some 32,.mv (.tmp 31),some (28,true)⟩,⟨some 33,.faddr 4 (.tmp 1),some (32,false)⟩,⟨some 34,.load1 (.tmp 33),some (32,false)⟩,⟨some 35,.bin .eql (.tmp 34) (.const (.int .i64 0)),some (32,false)⟩,⟨some 36,.mv (.tmp 35),some (32,false)⟩,⟨some 37,.faddr 5 (.tmp 1),some (36,true)⟩,⟨some 38,.load1 (.tmp 37),some (36,true)⟩,⟨some 39,.len (.tmp 38),some (36,true)⟩,⟨some 40,.bin .eql (.tmp 39) (.const (.int .i64 0)),some (36,true)⟩,⟨some 41,.pick (.tmp 36) (.tmp 40) (.const (.bool false)),some (32,false)⟩,⟨some 42,.pick (.tmp 32) (.const (.bool true)) (.tmp 41),some (28,true)⟩,⟨some 43,.pick (.tmp 28) (.tmp 42) (.const (.bool false)),none⟩,⟨some 2,.mv (.tmp 43),none⟩] false) .ret))⟩
theorem ir_inst_Inst_lean_eq : compF Tryd.prog F_inst_Inst_lean = some ir_inst_Inst_lean:=by kernel_rfl
theorem good_inst_Inst_lean : goodFunc Tryd.prog F_inst_Inst_lean = true:=by kernel_rfl
@[simp] theorem call_inst_Inst_lean : ACall Tryd.prog (.func (.func F_inst_Inst_lean) #[] #[]) vs H Q = AFn Tryd.prog F_inst_Inst_lean vs H Q:=ACall_fn good_inst_Inst_lean
def ir_inst_Inst_few : AFunc :=
 ⟨38,[(.tmp 2)],(.seq (.region [⟨some 1,.box T_inst_Inst (.tmp 0),none⟩,⟨some 2,.mv (.const (.bool false)),none⟩] false) (.seq (.region [⟨some 4,.faddr 3 (.tmp 1),none⟩,⟨some 5,.load1 (.tmp 4),none⟩,⟨some 6,.len (.tmp 5),none⟩,⟨some 3,.mv (.tmp 6),none⟩] false) (.seq (.seq (.region [⟨some 7,.faddr 0 (.tmp 1),none⟩,⟨some 8,.load1 (.tmp 7),none⟩,⟨some 9,.call (.func F_inst_Kind_square) [(.tmp 8)],none⟩,⟨some 10,.mv (.tmp 9),none⟩,⟨some 11,.mv (.tmp 3),some (10,true)⟩,⟨some 12,.bin .lss (.tmp 11) (.const (.int .i64 1)),some (10,true)⟩,⟨some 13,.mv (.tmp 12),some (10,true)⟩,⟨some 14,.mv (.tmp 3),some (13,false)⟩,⟨some 15,.bin .gtr (.tmp 14) (.const (.int .i64 64)),some (13,false)⟩,⟨some 16,.pick (.tmp 13) (.const (.bool true)) (.tmp 15),some (10,true)⟩,⟨some 17,.pick (.tmp 10) (.tmp 16) (.const (.bool false)),none⟩] false) (.cond (.tmp 17) (.seq (.region [⟨some 2,.mv (.const (.bool false)),none⟩] false) .ret) .skip)) (.seq (.region [⟨some 18,.faddr 2 (.tmp 1),none⟩,⟨some 19,.load1 (.tmp 18),none⟩,⟨some 20,.len (.tmp 19),none⟩,⟨some 21,.bin .leq (.tmp 20) (.const (.int .i64 4096)),none⟩,⟨some 22,.mv (.tmp 21),none⟩,⟨some 23,.faddr 5 (.tmp 1),some (22,true)⟩,⟨some 24,.load1 (.tmp 23),some (22,true)⟩,⟨some 25,.len (.tmp 24),some (22,true)⟩,⟨some 26,.bin .leq (.tmp 25) (.const (.int .i64 4096)),some (22,true)⟩,⟨some 27,.pick (.tmp 22) (.tmp 26) (.const (.bool false)),none⟩,⟨some 28,.mv (.tmp 27),none⟩,⟨some 29,.faddr 4 (.tmp 1),some (28,true)⟩,⟨some 30,.load1 (.tmp 29),some (28,true)⟩,⟨some 31,.bin .geq (.tmp 30) (.const (.int .i64 0)),some (28,true)⟩,⟨some 32,.pick (.tmp 28) (.tmp 31) (.const (.bool false)),none⟩,⟨some 33,.mv (.tmp 32),none⟩,⟨some 34,.faddr 4 (.tmp 1),some (33,true)⟩,⟨some 35,.load1 (.tmp 34),some (33,true)⟩,⟨some 36,.bin .leq (.tmp 35) (.const (.int .i64 4096)),some (33,true)⟩,⟨some 37,.pick (.tmp 33) (.tmp 36) (.const (.bool false)),none⟩,⟨some 2,.mv (.tmp 37),none⟩] false) .ret))))⟩
theorem ir_inst_Inst_few_eq : compF Tryd.prog F_inst_Inst_few = some ir_inst_Inst_few:=by kernel_rfl
theorem good_inst_Inst_few : goodFunc Tryd.prog F_inst_Inst_few = true:=by kernel_rfl
@[simp] theorem call_inst_Inst_few : ACall Tryd.prog (.func (.func F_inst_Inst_few) #[] #[]) vs H Q = AFn Tryd.prog F_inst_Inst_few vs H Q:=ACall_fn good_inst_Inst_few
def ir_inst_Inst_shaped_l0 : ACode :=
 (.seq (.region [⟨some 35,.bin .lss (.tmp 34) (.tmp 33),none⟩] false) (.seq (.cond (.tmp 35) .skip (.exit 4)) (.seq (.block 5 (.seq (.region [⟨some 36,.idxS 1 (.tmp 32) (.tmp 34),none⟩,⟨some 37,.load1 (.tmp 36),none⟩,⟨some 9,.mv (.tmp 37),none⟩] false) (.seq (.seq (.region [⟨some 38,.mv (.tmp 9),none⟩,⟨some 39,.mv (.tmp 7),none⟩,⟨some 40,.bin .leq (.tmp 38) (.tmp 39),none⟩,⟨some 41,.mv (.tmp 40),none⟩,⟨some 42,.mv (.tmp 9),some (41,false)⟩,⟨some 43,.faddr 4 (.tmp 1),some (41,false)⟩,⟨some 44,.load1 (.tmp 43),some (41,false)⟩,⟨some 45,.bin .geq (.tmp 42) (.tmp 44),some (41,false)⟩,⟨some 46,.pick (.tmp 41) (.const (.bool true)) (.tmp 45),none⟩] false) (.cond (.tmp 46) (.seq (.region [⟨some 2,.mv (.const (.bool false)),none⟩] false) .ret) .skip)) (.region [⟨some 47,.mv (.tmp 9),none⟩,⟨some 7,.mv (.tmp 47),none⟩] false)))) (.region [⟨some 48,.bin .add (.tmp 34) (.const (.int .i64 1)),none⟩,⟨some 34,.mv (.tmp 48),none⟩] false))))
def ir_inst_Inst_shaped_l1 : ACode :=
 (.seq (.region [⟨some 28,.bin .lss (.tmp 27) (.tmp 26),none⟩] false) (.seq (.cond (.tmp 28) .skip (.exit 2)) (.seq (.block 3 (.seq (.region [⟨some 29,.idxS 2 (.tmp 25) (.tmp 27),none⟩,⟨some 30,.loadN 2 (.tmp 29),none⟩,⟨some 6,.new T_inst_Set [(.int .i64 0),(.slice none 0 0)],none⟩,⟨none,.storeN 2 (.tmp 6) (.tmp 30),none⟩] false) (.seq (.region [⟨some 7,.mv (.const (.int .i64 (-1))),none⟩] false) (.seq (.region [⟨some 31,.faddr 1 (.tmp 6),none⟩,⟨some 32,.load1 (.tmp 31),none⟩,⟨some 33,.len (.tmp 32),none⟩,⟨some 34,.mv (.const (.int .i64 0)),none⟩] false) (.block 4 (ACode.loop ir_inst_Inst_shaped_l0)))))) (.region [⟨some 49,.bin .add (.tmp 27) (.const (.int .i64 1)),none⟩,⟨some 27,.mv (.tmp 49),none⟩] false))))
def ir_inst_Inst_shaped_l2 : ACode :=
 (.seq (.region [⟨some 14,.bin .lss (.tmp 13) (.tmp 12),none⟩] false) (.seq (.cond (.tmp 14) .skip (.exit 0)) (.seq (.block 1 (.seq (.region [⟨some 15,.idxS 1 (.tmp 11) (.tmp 13),none⟩,⟨some 16,.load1 (.tmp 15),none⟩,⟨some 4,.mv (.tmp 16),none⟩] false) (.seq (.region [⟨some 17,.mv (.tmp 4),none⟩,⟨some 18,.len (.tmp 17),none⟩,⟨some 19,.faddr 3 (.tmp 1),none⟩,⟨some 20,.load1 (.tmp 19),none⟩,⟨some 21,.len (.tmp 20),none⟩,⟨some 22,.bin .neq (.tmp 18) (.tmp 21),none⟩] false) (.cond (.tmp 22) (.seq (.region [⟨some 2,.mv (.const (.bool false)),none⟩] false) .ret) .skip)))) (.region [⟨some 23,.bin .add (.tmp 13) (.const (.int .i64 1)),none⟩,⟨some 13,.mv (.tmp 23),none⟩] false))))
def ir_inst_Inst_shaped : AFunc :=
 ⟨50,[(.tmp 2)],(.seq (.region [⟨some 1,.box T_inst_Inst (.tmp 0),none⟩,⟨some 2,.mv (.const (.bool false)),none⟩] false) (.seq (.seq (.region [⟨some 10,.faddr 3 (.tmp 1),none⟩,⟨some 11,.load1 (.tmp 10),none⟩,⟨some 12,.len (.tmp 11),none⟩,⟨some 13,.mv (.const (.int .i64 0)),none⟩] false) (.block 0 (ACode.loop ir_inst_Inst_shaped_l2))) (.seq (.seq (.region [⟨some 24,.faddr 5 (.tmp 1),none⟩,⟨some 25,.load1 (.tmp 24),none⟩,⟨some 26,.len (.tmp 25),none⟩,⟨some 27,.mv (.const (.int .i64 0)),none⟩] false) (.block 2 (ACode.loop ir_inst_Inst_shaped_l1))) (.seq (.region [⟨some 2,.mv (.const (.bool true)),none⟩] false) .ret))))⟩
theorem ir_inst_Inst_shaped_eq : compF Tryd.prog F_inst_Inst_shaped = some ir_inst_Inst_shaped:=by kernel_rfl
theorem good_inst_Inst_shaped : goodFunc Tryd.prog F_inst_Inst_shaped = true:=by kernel_rfl
@[simp] theorem call_inst_Inst_shaped : ACall Tryd.prog (.func (.func F_inst_Inst_shaped) #[] #[]) vs H Q = AFn Tryd.prog F_inst_Inst_shaped vs H Q:=ACall_fn good_inst_Inst_shaped
def ir_inst_Inst_small_l0 : ACode :=
 (.seq (.region [⟨some 58,.bin .lss (.tmp 57) (.tmp 56),none⟩] false) (.seq (.cond (.tmp 58) .skip (.exit 6)) (.seq (.block 7 (.seq (.region [⟨some 59,.idxS 2 (.tmp 55) (.tmp 57),none⟩,⟨some 60,.loadN 2 (.tmp 59),none⟩,⟨some 11,.new T_inst_Set [(.int .i64 0),(.slice none 0 0)],none⟩,⟨none,.storeN 2 (.tmp 11) (.tmp 60),none⟩] false) (.region [⟨some 61,.mv (.tmp 3),none⟩,⟨some 62,.mv (.tmp 61),none⟩,⟨some 63,.faddr 0 (.tmp 11),some (62,true)⟩,⟨some 64,.load1 (.tmp 63),some (62,true)⟩,⟨some 65,.call (.func F_inst_from) [(.tmp 64),(.const (.int .i64 0))],some (62,true)⟩,⟨some 66,.pick (.tmp 62) (.tmp 65) (.const (.bool false)),none⟩,⟨some 3,.mv (.tmp 66),none⟩] false))) (.region [⟨some 67,.bin .add (.tmp 57) (.const (.int .i64 1)),none⟩,⟨some 57,.mv (.tmp 67),none⟩] false))))
def ir_inst_Inst_small_l1 : ACode :=
 (.seq (.region [⟨some 44,.bin .lss (.tmp 43) (.tmp 42),none⟩] false) (.seq (.cond (.tmp 44) .skip (.exit 4)) (.seq (.block 5 (.seq (.region [⟨some 45,.idxS 1 (.tmp 41) (.tmp 43),none⟩,⟨some 46,.load1 (.tmp 45),none⟩,⟨some 9,.mv (.tmp 46),none⟩] false) (.region [⟨some 47,.mv (.tmp 3),none⟩,⟨some 48,.mv (.tmp 47),none⟩,⟨some 49,.mv (.tmp 9),some (48,true)⟩,⟨some 50,.call (.func F_inst_from) [(.tmp 49),(.const (.int .i64 (-2147483648)))],some (48,true)⟩,⟨some 51,.pick (.tmp 48) (.tmp 50) (.const (.bool false)),none⟩,⟨some 3,.mv (.tmp 51),none⟩] false))) (.region [⟨some 52,.bin .add (.tmp 43) (.const (.int .i64 1)),none⟩,⟨some 43,.mv (.tmp 52),none⟩] false))))
def ir_inst_Inst_small_l2 : ACode :=
 (.seq (.region [⟨some 38,.bin .lss (.tmp 37) (.tmp 36),none⟩] false) (.seq (.cond (.tmp 38) .skip (.exit 2)) (.seq (.block 3 (.seq (.region [⟨some 39,.idxS 1 (.tmp 35) (.tmp 37),none⟩,⟨some 40,.load1 (.tmp 39),none⟩,⟨some 7,.mv (.tmp 40),none⟩] false) (.seq (.region [⟨some 41,.mv (.tmp 7),none⟩,⟨some 42,.len (.tmp 41),none⟩,⟨some 43,.mv (.const (.int .i64 0)),none⟩] false) (.block 4 (ACode.loop ir_inst_Inst_small_l1))))) (.region [⟨some 53,.bin .add (.tmp 37) (.const (.int .i64 1)),none⟩,⟨some 37,.mv (.tmp 53),none⟩] false))))
def ir_inst_Inst_small_l3 : ACode :=
 (.seq (.region [⟨some 19,.bin .lss (.tmp 18) (.tmp 17),none⟩] false) (.seq (.cond (.tmp 19) .skip (.exit 0)) (.seq (.block 1 (.seq (.region [⟨some 20,.idxS 2 (.tmp 16) (.tmp 18),none⟩,⟨some 21,.loadN 2 (.tmp 20),none⟩,⟨some 5,.new T_inst_Item [(.int .i64 0),(.int .i64 0)],none⟩,⟨none,.storeN 2 (.tmp 5) (.tmp 21),none⟩] false) (.region [⟨some 22,.mv (.tmp 3),none⟩,⟨some 23,.mv (.tmp 22),none⟩,⟨some 24,.faddr 0 (.tmp 5),some (23,true)⟩,⟨some 25,.load1 (.tmp 24),some (23,true)⟩,⟨some 26,.call (.func F_inst_from) [(.tmp 25),(.const (.int .i64 0))],some (23,true)⟩,⟨some 27,.pick (.tmp 23) (.tmp 26) (.const (.bool false)),none⟩,⟨some 28,.mv (.tmp 27),none⟩,⟨some 29,.faddr 1 (.tmp 5),some (28,true)⟩,⟨some 30,.load1 (.tmp 29),some (28,true)⟩,⟨some 31,.call (.func F_inst_from) [(.tmp 30),(.const (.int .i64 0))],some (28,true)⟩,⟨some 32,.pick (.tmp 28) (.tmp 31) (.const (.bool false)),none⟩,⟨some 3,.mv (.tmp 32),none⟩] false))) (.region [⟨some 33,.bin .add (.tmp 18) (.const (.int .i64 1)),none⟩,⟨some 18,.mv (.tmp 33),none⟩] false))))
def ir_inst_Inst_small : AFunc :=
 ⟨69,[(.tmp 2)],(.seq (.region [⟨some 1,.box T_inst_Inst (.tmp 0),none⟩,⟨some 2,.mv (.const (.bool false)),none⟩] false) (.seq (.region [⟨some 12,.faddr 1 (.tmp 1),none⟩,⟨some 13,.load1 (.tmp 12),none⟩,⟨some 14,.call (.func F_inst_from) [(.tmp 13),(.const (.int .i64 0))],none⟩,⟨some 3,.mv (.tmp 14),none⟩] false) (.seq (.seq (.region [⟨some 15,.faddr 2 (.tmp 1),none⟩,⟨some 16,.load1 (.tmp 15),none⟩,⟨some 17,.len (.tmp 16),none⟩,⟨some 18,.mv (.const (.int .i64 0)),none⟩] false) (.block 0 (ACode.loop ir_inst_Inst_small_l3))) (.seq (.seq (.region [⟨some 34,.faddr 3 (.tmp 1),none⟩,⟨some 35,.load1 (.tmp 34),none⟩,⟨some 36,.len (.tmp 35),none⟩,⟨some 37,.mv (.const (.int .i64 0)),none⟩] false) (.block 2 (ACode.loop ir_inst_Inst_small_l2))) (.seq (.seq (.region [⟨some 54,.faddr 5 (.tmp 1),none⟩,⟨some 55,.load1 (.tmp 54),none⟩,⟨some 56,.len (.tmp 55),none⟩,⟨some 57,.mv (.const (.int .i64 0)),none⟩] false) (.block 6 (ACode.loop ir_inst_Inst_small_l0))) (.seq (.region [⟨some 68,.mv (.tmp 3),none⟩,⟨some 2,.mv (.tmp 68),none⟩] false) .ret))))))⟩
theorem ir_inst_Inst_small_eq : compF Tryd.prog F_inst_Inst_small = some ir_inst_Inst_small:=by kernel_rfl
theorem good_inst_Inst_small : goodFunc Tryd.prog F_inst_Inst_small = true:=by kernel_rfl
@[simp] theorem call_inst_Inst_small : ACall Tryd.prog (.func (.func F_inst_Inst_small) #[] #[]) vs H Q = AFn Tryd.prog F_inst_Inst_small vs H Q:=ACall_fn good_inst_Inst_small
def ir_inst_Inst_bare_l0 : ACode :=
 (.seq (.region [⟨some 9,.bin .lss (.tmp 8) (.tmp 7),none⟩] false) (.seq (.cond (.tmp 9) .skip (.exit 0)) (.seq (.block 1 (.seq (.region [⟨some 10,.mv (.tmp 8),none⟩,⟨some 11,.idxS 1 (.tmp 6) (.tmp 8),none⟩,⟨some 12,.load1 (.tmp 11),none⟩,⟨some 3,.mv (.tmp 10),none⟩,⟨some 4,.mv (.tmp 12),none⟩] false) (.seq (.region [⟨some 13,.faddr 0 (.tmp 1),none⟩,⟨some 14,.load1 (.tmp 13),none⟩,⟨some 15,.bin .eql (.tmp 14) (.const (.int .i64 2)),none⟩,⟨some 16,.mv (.tmp 15),none⟩,⟨some 17,.mv (.tmp 4),some (16,true)⟩,⟨some 18,.mv (.tmp 3),some (16,true)⟩,⟨some 19,.idxS 1 (.tmp 17) (.tmp 18),some (16,true)⟩,⟨some 20,.load1 (.tmp 19),some (16,true)⟩,⟨some 21,.bin .neq (.tmp 20) (.const (.int .i64 0)),some (16,true)⟩,⟨some 22,.pick (.tmp 16) (.tmp 21) (.const (.bool false)),none⟩] false) (.cond (.tmp 22) (.seq (.region [⟨some 2,.mv (.const (.bool false)),none⟩] false) .ret) .skip)))) (.region [⟨some 23,.bin .add (.tmp 8) (.const (.int .i64 1)),none⟩,⟨some 8,.mv (.tmp 23),none⟩] false))))
def ir_inst_Inst_bare : AFunc :=
 ⟨24,[(.tmp 2)],(.seq (.region [⟨some 1,.box T_inst_Inst (.tmp 0),none⟩,⟨some 2,.mv (.const (.bool false)),none⟩] false) (.seq (.seq (.region [⟨some 5,.faddr 3 (.tmp 1),none⟩,⟨some 6,.load1 (.tmp 5),none⟩,⟨some 7,.len (.tmp 6),none⟩,⟨some 8,.mv (.const (.int .i64 0)),none⟩] false) (.block 0 (ACode.loop ir_inst_Inst_bare_l0))) (.seq (.region [⟨some 2,.mv (.const (.bool true)),none⟩] false) .ret)))⟩
theorem ir_inst_Inst_bare_eq : compF Tryd.prog F_inst_Inst_bare = some ir_inst_Inst_bare:=by kernel_rfl
theorem good_inst_Inst_bare : goodFunc Tryd.prog F_inst_Inst_bare = true:=by kernel_rfl
@[simp] theorem call_inst_Inst_bare : ACall Tryd.prog (.func (.func F_inst_Inst_bare) #[] #[]) vs H Q = AFn Tryd.prog F_inst_Inst_bare vs H Q:=ACall_fn good_inst_Inst_bare
def ir_bits_TrailingZeros64 : AFunc :=
 ⟨14,[(.tmp 2)],(.seq (.region [⟨some 2,.mv (.const (.int .i64 0)),none⟩] false) (.seq (.seq (.region [⟨some 3,.mv (.tmp 0),none⟩,⟨some 4,.bin .eql (.tmp 3) (.const (uv 0)),none⟩] false) (.cond (.tmp 4) (.seq (.region [⟨some 2,.mv (.const (.int .i64 64)),none⟩] false) .ret) .skip)) (.seq (.region [⟨some 5,.mv (.tmp 0),none⟩,⟨some 6,.mv (.tmp 0),none⟩,⟨some 7,.un .neg (.tmp 6),none⟩,⟨some 8,.bin .and (.tmp 5) (.tmp 7),none⟩,⟨some 9,.bin .mul (.tmp 8) (.const (uv 285870213051353865)),none⟩,⟨some 10,.bin .shr (.tmp 9) (.const (uv 58)),none⟩,⟨some 11,.idxP 64 1 (.global 0) (.tmp 10),none⟩,⟨some 12,.load1 (.tmp 11),none⟩,⟨some 13,.conv .i64 (.tmp 12),none⟩,⟨some 2,.mv (.tmp 13),none⟩] false) .ret)))⟩
theorem ir_bits_TrailingZeros64_eq : compF Tryd.prog F_bits_TrailingZeros64 = some ir_bits_TrailingZeros64:=by kernel_rfl
theorem good_bits_TrailingZeros64 : goodFunc Tryd.prog F_bits_TrailingZeros64 = true:=by kernel_rfl
def ir_slices_isNaN_int : AFunc :=
 ⟨6,[(.tmp 2)],(.seq (.region [⟨some 2,.mv (.const (.bool false)),none⟩] false) (.seq (.region [⟨some 3,.mv (.tmp 0),none⟩,⟨some 4,.mv (.tmp 0),none⟩,⟨some 5,.bin .neq (.tmp 3) (.tmp 4),none⟩,⟨some 2,.mv (.tmp 5),none⟩] false) .ret))⟩
theorem ir_slices_isNaN_int_eq : compF Tryd.prog F_slices_isNaN_int = some ir_slices_isNaN_int:=by kernel_rfl
theorem good_slices_isNaN_int : goodFunc Tryd.prog F_slices_isNaN_int = true:=by kernel_rfl
def ir_bitset_Set_word : AFunc :=
 ⟨15,[(.tmp 4)],(.seq (.region [⟨some 2,.box T_bitset_Set (.tmp 0),none⟩,⟨some 4,.mv (.const (uv 0)),none⟩] false) (.seq (.seq (.region [⟨some 5,.mv (.tmp 1),none⟩,⟨some 6,.faddr 1 (.tmp 2),none⟩,⟨some 7,.load1 (.tmp 6),none⟩,⟨some 8,.len (.tmp 7),none⟩,⟨some 9,.bin .geq (.tmp 5) (.tmp 8),none⟩] false) (.cond (.tmp 9) (.seq (.region [⟨some 4,.mv (.const (uv 0)),none⟩] false) .ret) .skip)) (.seq (.region [⟨some 10,.faddr 1 (.tmp 2),none⟩,⟨some 11,.load1 (.tmp 10),none⟩,⟨some 12,.mv (.tmp 1),none⟩,⟨some 13,.idxS 1 (.tmp 11) (.tmp 12),none⟩,⟨some 14,.load1 (.tmp 13),none⟩,⟨some 4,.mv (.tmp 14),none⟩] false) .ret)))⟩
theorem ir_bitset_Set_word_eq : compF Tryd.prog F_bitset_Set_word = some ir_bitset_Set_word:=by kernel_rfl
theorem good_bitset_Set_word : goodFunc Tryd.prog F_bitset_Set_word = true:=by kernel_rfl
@[simp] theorem callD_bitset_Set_word : ACallD Tryd.prog (.func (.func F_bitset_Set_word) #[] #[]) vs H Q = AFnD Tryd.prog F_bitset_Set_word vs H Q:=ACallD_fn good_bitset_Set_word
def ir_inst_Kind_square : AFunc :=
 ⟨9,[(.tmp 2)],(.seq (.region [⟨some 2,.mv (.const (.bool false)),none⟩] false) (.seq (.region [⟨some 3,.mv (.tmp 0),none⟩,⟨some 4,.bin .eql (.tmp 3) (.const (.int .i64 1)),none⟩,⟨some 5,.mv (.tmp 4),none⟩,⟨some 6,.mv (.tmp 0),some (5,false)⟩,⟨some 7,.bin .eql (.tmp 6) (.const (.int .i64 2)),some (5,false)⟩,⟨some 8,.pick (.tmp 5) (.const (.bool true)) (.tmp 7),none⟩,⟨some 2,.mv (.tmp 8),none⟩] false) .ret))⟩
theorem ir_inst_Kind_square_eq : compF Tryd.prog F_inst_Kind_square = some ir_inst_Kind_square:=by kernel_rfl
theorem good_inst_Kind_square : goodFunc Tryd.prog F_inst_Kind_square = true:=by kernel_rfl
@[simp] theorem call_inst_Kind_square : ACall Tryd.prog (.func (.func F_inst_Kind_square) #[] #[]) vs H Q = AFn Tryd.prog F_inst_Kind_square vs H Q:=ACall_fn good_inst_Kind_square
def ir_inst_from : AFunc :=
 ⟨12,[(.tmp 4)],(.seq (.region [⟨some 4,.mv (.const (.bool false)),none⟩] false) (.seq (.region [⟨some 5,.mv (.tmp 0),none⟩,⟨some 6,.mv (.tmp 1),none⟩,⟨some 7,.bin .geq (.tmp 5) (.tmp 6),none⟩,⟨some 8,.mv (.tmp 7),none⟩,⟨some 9,.mv (.tmp 0),some (8,true)⟩,⟨some 10,.bin .leq (.tmp 9) (.const (.int .i64 2147483648)),some (8,true)⟩,⟨some 11,.pick (.tmp 8) (.tmp 10) (.const (.bool false)),none⟩,⟨some 4,.mv (.tmp 11),none⟩] false) .ret))⟩
theorem ir_inst_from_eq : compF Tryd.prog F_inst_from = some ir_inst_from:=by kernel_rfl
theorem good_inst_from : goodFunc Tryd.prog F_inst_from = true:=by kernel_rfl
@[simp] theorem call_inst_from : ACall Tryd.prog (.func (.func F_inst_from) #[] #[]) vs H Q = AFn Tryd.prog F_inst_from vs H Q:=ACall_fn good_inst_from
theorem mixed : Tryd.prog.follows .mixedOrders = true:=by kernel_rfl
end Go.Proofs.YtejifalflkbekaaDoor
