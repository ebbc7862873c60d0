/- Made by program: the abstract functions of the seat. -/
import Derived.Test.YtpphdocfglmffaaGreatDoorAbSx
set_option linter.unusedVariables false
set_option linter.unusedSimpArgs false
namespace Go.Ab.Fs
abbrev t (n : Nat) : Opd := .tmp n
abbrev k (v : V) : Opd := .const v
abbrev a (d : Nat) (o : A1) : AOp := ⟨some d, o, none⟩
abbrev b (o : A1) : AOp := ⟨none, o, none⟩
abbrev c (d : Nat) (o : A1) (g : Nat) (w : Bool) : AOp := ⟨some d, o, some (g, w)⟩
abbrev d (o : A1) (g : Nat) (w : Bool) : AOp := ⟨none, o, some (g, w)⟩
abbrev N_stoalaw24_MergeChooses : Nat := 3
abbrev N_stoalaw24_alive : Nat := 4
abbrev N_stoaref22_Twin : Nat := 5
abbrev N_merge_Choose : Nat := 6
abbrev N_stoaref18_SameInts : Nat := 7
abbrev N_stoaref24_Choose : Nat := 8
abbrev N_stoaref22_Same : Nat := 9
abbrev N_stoaref22_Check : Nat := 10
abbrev N_stoalaw24_has : Nat := 11
abbrev N_stoaref05_Order : Nat := 12
abbrev N_stoalaw24_key : Nat := 13
abbrev N_stoalaw24_insert : Nat := 14
abbrev N_merge_Join : Nat := 15
abbrev N_stoalaw24_two : Nat := 16
abbrev N_merge_Trim : Nat := 17
abbrev N_merge_Rows : Nat := 18
abbrev N_stoaref01_Copy : Nat := 19
abbrev N_merge_stab : Nat := 20
abbrev N_bytes_Compare : Nat := 21
abbrev N_slices_SortFunc_merge_span_merge_span : Nat := 22
abbrev N_merge_Choose_1 : Nat := 23
abbrev N_cmp_Or_int : Nat := 24
abbrev N_cmp_Compare_int : Nat := 25
abbrev N_slices_Sort_int_int : Nat := 26
abbrev N_stoaref24_hits : Nat := 27
abbrev N_stoaref24_next : Nat := 28
abbrev N_stoaref24_rowsOf : Nat := 29
abbrev N_stoaref24_put : Nat := 30
abbrev N_stoaref01_Same : Nat := 31
abbrev N_stoaref07_Encode : Nat := 32
abbrev N_schema_Check : Nat := 33
abbrev N_merge_gather : Nat := 34
abbrev N_bytes_Equal : Nat := 35
abbrev N_merge_right : Nat := 36
abbrev N_bytes_Clone : Nat := 37
abbrev N_memstore_State : Nat := 38
abbrev N_merge_clone : Nat := 39
abbrev N_merge_inside : Nat := 40
abbrev N_slices_pdqsortCmpFunc_merge_span : Nat := 42
abbrev N_math_bits_Len : Nat := 43
abbrev N_cmp_isNaN_int : Nat := 44
abbrev N_slices_pdqsortOrdered_int : Nat := 45
abbrev N_stoaref06_Check : Nat := 46
abbrev N_stoaref05_Check : Nat := 47
abbrev N_stoaref01_Cat : Nat := 48
abbrev N_stoaref07_put : Nat := 49
abbrev N_schema_badName : Nat := 50
abbrev N_merge_byKey : Nat := 51
abbrev N_merge_changes : Nat := 52
abbrev N_slices_SortStableFunc_api_History_api_History : Nat := 53
abbrev N_slices_SortStableFunc_api_Change_api_Change : Nat := 54
abbrev N_merge_byTime : Nat := 55
abbrev N_memstore_Chain : Nat := 56
abbrev N_slices_Clone_api_Cell_api_Cell : Nat := 57
abbrev N_memstore_clone : Nat := 58
abbrev N_merge_cells : Nat := 59
abbrev N_slices_Clone_api_Set_api_Set : Nat := 60
abbrev N_keys_Within : Nat := 61
abbrev N_slices_insertionSortCmpFunc_merge_span : Nat := 62
abbrev N_slices_heapSortCmpFunc_merge_span : Nat := 63
abbrev N_slices_breakPatternsCmpFunc_merge_span : Nat := 64
abbrev N_slices_choosePivotCmpFunc_merge_span : Nat := 65
abbrev N_slices_reverseRangeCmpFunc_merge_span : Nat := 66
abbrev N_slices_partialInsertionSortCmpFunc_merge_span : Nat := 67
abbrev N_slices_partitionEqualCmpFunc_merge_span : Nat := 68
abbrev N_slices_partitionCmpFunc_merge_span : Nat := 69
abbrev N_math_bits_Len32 : Nat := 70
abbrev N_math_bits_Len64 : Nat := 71
abbrev N_slices_insertionSortOrdered_int : Nat := 72
abbrev N_slices_heapSortOrdered_int : Nat := 73
abbrev N_slices_breakPatternsOrdered_int : Nat := 74
abbrev N_slices_choosePivotOrdered_int : Nat := 75
abbrev N_slices_reverseRangeOrdered_int : Nat := 76
abbrev N_slices_partialInsertionSortOrdered_int : Nat := 77
abbrev N_cmp_Less_int : Nat := 78
abbrev N_slices_partitionEqualOrdered_int : Nat := 79
abbrev N_slices_partitionOrdered_int : Nat := 80
abbrev N_stoaref06_name : Nat := 81
abbrev N_stoaref05_Least : Nat := 82
abbrev N_stoaref05_Greatest : Nat := 83
abbrev N_stoaref05_Zero : Nat := 84
abbrev N_stoaref01_Low : Nat := 85
abbrev N_stoaref07_size : Nat := 86
abbrev N_strings_Trim : Nat := 87
abbrev N_slices_stableCmpFunc_api_History : Nat := 88
abbrev N_slices_stableCmpFunc_api_Change : Nat := 89
abbrev N_cmp_Compare_int64 : Nat := 90
abbrev N_keys_Decode : Nat := 91
abbrev N_memstore_badTime : Nat := 92
abbrev N_memstore_link : Nat := 93
abbrev N_memstore_there : Nat := 94
abbrev N_slices_siftDownCmpFunc_merge_span : Nat := 95
abbrev N_slices_nextPowerOfTwo : Nat := 96
abbrev N_slices_xorshift_Next : Nat := 97
abbrev N_slices_medianAdjacentCmpFunc_merge_span : Nat := 98
abbrev N_slices_medianCmpFunc_merge_span : Nat := 99
abbrev N_slices_siftDownOrdered_int : Nat := 100
abbrev N_slices_medianAdjacentOrdered_int : Nat := 101
abbrev N_slices_medianOrdered_int : Nat := 102
abbrev N_strings_trimLeftByte : Nat := 103
abbrev N_strings_trimRightByte : Nat := 104
abbrev N_strings_makeASCIISet : Nat := 105
abbrev N_strings_trimLeftASCII : Nat := 106
abbrev N_strings_trimRightASCII : Nat := 107
abbrev N_strings_trimLeftUnicode : Nat := 108
abbrev N_strings_trimRightUnicode : Nat := 109
abbrev N_slices_insertionSortCmpFunc_api_History : Nat := 110
abbrev N_slices_symMergeCmpFunc_api_History : Nat := 111
abbrev N_slices_insertionSortCmpFunc_api_Change : Nat := 112
abbrev N_slices_symMergeCmpFunc_api_Change : Nat := 113
abbrev N_cmp_isNaN_int64 : Nat := 114
abbrev N_keys_read : Nat := 115
abbrev N_cell_Check : Nat := 116
abbrev N_schema_Row : Nat := 117
abbrev N_keys_Encode : Nat := 118
abbrev N_schema_Sets : Nat := 119
abbrev N_slices_order2CmpFunc_merge_span : Nat := 120
abbrev N_slices_order2Ordered_int : Nat := 121
abbrev N_strings_asciiSet_contains : Nat := 122
abbrev N_unicode_utf8_DecodeRuneInString : Nat := 123
abbrev N_strings_ContainsRune : Nat := 124
abbrev N_unicode_utf8_DecodeLastRuneInString : Nat := 125
abbrev N_slices_rotateCmpFunc_api_History : Nat := 126
abbrev N_slices_rotateCmpFunc_api_Change : Nat := 127
abbrev N_bytes_IndexByte : Nat := 128
abbrev N_keys_readBytes : Nat := 129
abbrev N_keys_readNumber : Nat := 130
abbrev N_cell_known : Nat := 131
abbrev N_cell_Number : Nat := 132
abbrev N_cell_text : Nat := 133
abbrev N_cell_holds : Nat := 134
abbrev N_schema_cells : Nat := 135
abbrev N_keys_put : Nat := 136
abbrev N_schema_misplaced : Nat := 137
abbrev N_unicode_utf8_decodeRuneInStringSlow : Nat := 138
abbrev N_strings_IndexRune : Nat := 139
abbrev N_unicode_utf8_RuneStart : Nat := 140
abbrev N_slices_swapRangeCmpFunc_api_History : Nat := 141
abbrev N_slices_swapRangeCmpFunc_api_Change : Nat := 142
abbrev N_keys_size : Nat := 144
abbrev N_keys_signed : Nat := 145
abbrev N_bits_Unflip : Nat := 146
abbrev N_bits_Narrow : Nat := 147
abbrev N_bytes_ReplaceAll : Nat := 148
abbrev N_keys_number : Nat := 149
abbrev N_strings_IndexByte : Nat := 150
abbrev N_unicode_utf8_ValidRune : Nat := 151
abbrev N_internal_bytealg_Cutover : Nat := 152
abbrev N_bytes_Replace : Nat := 154
abbrev N_bits_Flip : Nat := 155
abbrev N_internal_stringslite_IndexByte : Nat := 156
abbrev N_bytes_Count : Nat := 157
abbrev N_bytes_Index : Nat := 158
abbrev N_unicode_utf8_DecodeRune : Nat := 159
abbrev N_unicode_utf8_RuneCount : Nat := 161
abbrev N_internal_bytealg_IndexRabinKarp_byte : Nat := 164
abbrev N_unicode_utf8_decodeRuneSlow : Nat := 165
abbrev N_unicode_utf8_RuneCountInString : Nat := 166
abbrev N_internal_bytealg_hashStr_byte : Nat := 167
/-- stoa/stoalaw24.MergeChooses -/
def F_stoalaw24_MergeChooses : AFn := ⟨3, 118, (.seq (.reg [a 6 (.p (.mv (k (.bool false))))])
 (.seq (.seq (.reg [a 16 (.call N_stoalaw24_alive []),
 a 17 (.p (.un .not (t 16)))])
 (.cond (t 17)
 (.seq (.reg [a 6 (.p (.mv (k (.bool false))))])
 .ret)
 .skip))
 (.seq (.reg [a 18 (.p (.mv (t 0))),
 a 19 (.call N_stoaref22_Twin [(t 18)]),
 a 7 (.p (.mv (t 19)))])
 (.seq (.reg [a 20 (.p (.mv (t 7))),
 a 21 (.p (.mv (t 1))),
 a 22 (.p (.mv (t 2))),
 a 23 (.call N_merge_Choose [(t 20),(t 21),(t 22)]),
 a 8 (.p (.mv (t 23)))])
 (.seq (.seq (.reg [a 24 (.p (.mv (t 8))),
 a 25 (.p (.mv (t 0))),
 a 26 (.p (.mv (t 1))),
 a 27 (.p (.mv (t 2))),
 a 28 (.call N_stoaref24_Choose [(t 25),(t 26),(t 27)]),
 a 29 (.call N_stoaref18_SameInts [(t 24),(t 28)]),
 a 30 (.p (.un .not (t 29))),
 a 31 (.p (.mv (t 30))),
 c 32 (.p (.mv (t 7))) 31 false,
 c 33 (.p (.mv (t 0))) 31 false,
 c 34 (.call N_stoaref22_Same [(t 32),(t 33)]) 31 false,
 c 35 (.p (.un .not (t 34))) 31 false,
 a 36 (.p (.sel (t 31) (k (.bool true)) (t 35)))])
 (.cond (t 36)
 (.seq (.reg [a 6 (.p (.mv (k (.bool false))))])
 .ret)
 .skip))
 (.seq (.seq (.reg [a 37 (.p (.mv (t 8))),
 a 38 (.p (.len false (t 37))),
 a 39 (.p (.bin .eql (t 38) (k (.int .i64 0))))])
 (.cond (t 39)
 (.seq (.reg [a 6 (.p (.mv (k (.bool true))))])
 .ret)
 .skip))
 (.seq (.seq (.reg [a 40 (.p (.mv (t 8))),
 a 41 (.p (.len false (t 40))),
 a 42 (.p (.bin .lss (t 41) (k (.int .i64 2)))),
 a 43 (.p (.mv (t 42))),
 c 44 (.p (.mv (t 0))) 43 false,
 c 45 (.call N_stoaref22_Check [(t 44)]) 43 false,
 c 46 (.p (.bin .neq (t 45) (k (.int .i64 0)))) 43 false,
 a 47 (.p (.sel (t 43) (k (.bool true)) (t 46)))])
 (.cond (t 47)
 (.seq (.reg [a 48 (.p (.mv (t 8))),
 a 49 (.p (.len false (t 48))),
 a 50 (.p (.bin .geq (t 49) (k (.int .i64 2)))),
 a 6 (.p (.mv (t 50)))])
 .ret)
 .skip))
 (.seq (.reg [a 51 (.n (.bslice 1 [] 0 [])),
 a 52 (.p (.mv (t 2))),
 a 9 (.p (.mv (t 51))),
 a 10 (.p (.mv (t 52)))])
 (.seq (.seq (.reg [a 53 (.p (.mv (t 0))),
 a 54 (.p (.len false (t 53))),
 a 55 (.p (.mv (k (.int .i64 0))))])
 (.block 0 (.loop (.seq (.reg [a 56 (.p (.bin .lss (t 55) (t 54)))])
 (.seq (.cond (t 56)
 .skip
 (.exit 0))
 (.seq (.block 1 (.seq (.reg [a 57 (.p (.mv (t 55))),
 a 58 (.p (.idxS 3 (t 53) (t 55))),
 a 59 (.r (.load (some 3) (t 58))),
 a 12 (.n (.alloc [(.int .i64 0),.nslc,.nslc])),
 a 11 (.p (.mv (t 57))),
 b (.e (.store 3 (t 12) (t 59)))])
 (.seq (.reg [a 60 (.p (.mv (t 8))),
 a 61 (.p (.fld 0 (t 12))),
 a 62 (.r (.load none (t 61))),
 a 63 (.call N_stoalaw24_has [(t 60),(t 62)])])
 (.cond (t 63)
 (.seq (.seq (.reg [a 64 (.p (.fld 1 (t 12))),
 a 65 (.r (.load none (t 64))),
 a 66 (.p (.mv (t 9))),
 a 67 (.call N_stoaref05_Order [(t 65),(t 66)]),
 a 68 (.p (.bin .gtr (t 67) (k (.int .i64 0))))])
 (.cond (t 68)
 (.reg [a 69 (.p (.fld 1 (t 12))),
 a 70 (.r (.load none (t 69))),
 a 9 (.p (.mv (t 70)))])
 .skip))
 (.seq (.reg [a 13 (.p (.mv (k (.int .i64 1))))])
 (.seq (.seq (.reg [a 71 (.p (.mv (t 11))),
 a 72 (.p (.mv (t 1))),
 a 73 (.p (.len false (t 72))),
 a 74 (.p (.bin .lss (t 71) (t 73))),
 a 75 (.p (.mv (t 74))),
 c 76 (.p (.mv (t 1))) 75 true,
 c 77 (.p (.mv (t 11))) 75 true,
 c 78 (.p (.idxS 1 (t 76) (t 77))) 75 true,
 c 79 (.r (.load none (t 78))) 75 true,
 c 80 (.p (.bin .gtr (t 79) (k (.int .i64 1)))) 75 true,
 a 81 (.p (.sel (t 75) (t 80) (k (.bool false))))])
 (.cond (t 81)
 (.reg [a 82 (.p (.mv (t 1))),
 a 83 (.p (.mv (t 11))),
 a 84 (.p (.idxS 1 (t 82) (t 83))),
 a 85 (.r (.load none (t 84))),
 a 13 (.p (.mv (t 85)))])
 .skip))
 (.seq (.seq (.reg [a 86 (.p (.mv (t 13))),
 a 87 (.p (.mv (t 10))),
 a 88 (.p (.bin .gtr (t 86) (t 87)))])
 (.cond (t 88)
 (.seq (.reg [a 6 (.p (.mv (k (.bool false))))])
 .ret)
 .skip))
 (.reg [a 89 (.p (.mv (t 10))),
 a 90 (.p (.mv (t 13))),
 a 91 (.p (.bin .sub (t 89) (t 90))),
 a 10 (.p (.mv (t 91)))])))))
 .skip))))
 (.reg [a 92 (.p (.bin .add (t 55) (k (.int .i64 1)))),
 a 55 (.p (.mv (t 92)))])))))))
 (.seq (.seq (.reg [a 93 (.p (.mv (t 0))),
 a 94 (.p (.len false (t 93))),
 a 95 (.p (.mv (k (.int .i64 0))))])
 (.block 2 (.loop (.seq (.reg [a 96 (.p (.bin .lss (t 95) (t 94)))])
 (.seq (.cond (t 96)
 .skip
 (.exit 2))
 (.seq (.block 3 (.seq (.reg [a 97 (.p (.idxS 3 (t 93) (t 95))),
 a 98 (.r (.load (some 3) (t 97))),
 a 15 (.n (.alloc [(.int .i64 0),.nslc,.nslc])),
 b (.e (.store 3 (t 15) (t 98)))])
 (.seq (.reg [a 99 (.p (.mv (t 8))),
 a 100 (.p (.fld 0 (t 15))),
 a 101 (.r (.load none (t 100))),
 a 102 (.call N_stoalaw24_has [(t 99),(t 101)]),
 a 103 (.p (.mv (t 102))),
 c 104 (.p (.fld 1 (t 15))) 103 true,
 c 105 (.r (.load none (t 104))) 103 true,
 c 106 (.p (.mv (t 9))) 103 true,
 c 107 (.call N_stoaref05_Order [(t 105),(t 106)]) 103 true,
 c 108 (.p (.bin .gtr (t 107) (k (.int .i64 0)))) 103 true,
 c 109 (.p (.mv (t 108))) 103 true,
 c 110 (.p (.mv (t 9))) 109 false,
 c 111 (.p (.fld 2 (t 15))) 109 false,
 c 112 (.r (.load none (t 111))) 109 false,
 c 113 (.call N_stoaref05_Order [(t 110),(t 112)]) 109 false,
 c 114 (.p (.bin .gtr (t 113) (k (.int .i64 0)))) 109 false,
 c 115 (.p (.sel (t 109) (k (.bool true)) (t 114))) 103 true,
 a 116 (.p (.sel (t 103) (t 115) (k (.bool false))))])
 (.cond (t 116)
 (.seq (.reg [a 6 (.p (.mv (k (.bool false))))])
 .ret)
 .skip))))
 (.reg [a 117 (.p (.bin .add (t 95) (k (.int .i64 1)))),
 a 95 (.p (.mv (t 117)))])))))))
 (.seq (.reg [a 6 (.p (.mv (k (.bool true))))])
 .ret))))))))))), [.tmp 6]⟩
/-- stoa/stoalaw24.alive -/
def F_stoalaw24_alive : AFn := ⟨0, 108, (.seq (.reg [a 0 (.p (.mv (k (.bool false))))])
 (.seq (.reg [a 9 (.call N_stoalaw24_key [(k (.int .i64 7))]),
 a 10 (.call N_stoalaw24_insert [(k (.int .i64 2)),(k (.int .i64 7))]),
 a 11 (.p (.build [(.int .i64 0),(.int .i64 0),.nslc,.nslc] [(0,1,(k (.int .i64 5))),(1,1,(k (.int .i64 3)))])),
 a 12 (.n (.bslice 4 [(.int .i64 0),(.int .i64 0),.nslc,.nslc,(.int .i64 0),(.int .i64 0),.nslc,.nslc] 2 [(0,4,(t 10)),(4,4,(t 11))])),
 a 13 (.p (.build [.nslc,.nslc] [(0,1,(t 9)),(1,1,(t 12))])),
 a 14 (.n (.bslice 2 [.nslc,.nslc] 1 [(0,2,(t 13))])),
 a 1 (.p (.mv (t 14)))])
 (.seq (.reg [a 15 (.call N_stoalaw24_key [(k (.int .i64 7))]),
 a 16 (.call N_stoalaw24_insert [(k (.int .i64 9)),(k (.int .i64 7))]),
 a 17 (.n (.bslice 4 [(.int .i64 0),(.int .i64 0),.nslc,.nslc] 1 [(0,4,(t 16))])),
 a 18 (.p (.build [.nslc,.nslc] [(0,1,(t 15)),(1,1,(t 17))])),
 a 19 (.call N_stoalaw24_key [(k (.int .i64 8))]),
 a 20 (.call N_stoalaw24_insert [(k (.int .i64 3)),(k (.int .i64 8))]),
 a 21 (.n (.bslice 4 [(.int .i64 0),(.int .i64 0),.nslc,.nslc] 1 [(0,4,(t 20))])),
 a 22 (.p (.build [.nslc,.nslc] [(0,1,(t 19)),(1,1,(t 21))])),
 a 23 (.n (.bslice 2 [.nslc,.nslc,.nslc,.nslc] 2 [(0,2,(t 18)),(2,2,(t 22))])),
 a 2 (.p (.mv (t 23)))])
 (.seq (.reg [a 25 (.call N_stoalaw24_two []),
 a 26 (.p (.mv (t 1))),
 a 27 (.p (.mv (t 2))),
 a 28 (.n (.bslice 1 [.nslc,.nslc] 2 [(0,1,(t 26)),(1,1,(t 27))])),
 a 29 (.call N_merge_Join [(t 25),(t 28)]),
 a 24 (.p (.mv (t 29))),
 a 30 (.p (.extract (t 24) 0)),
 a 31 (.p (.extract (t 24) 1)),
 a 3 (.p (.mv (t 30))),
 a 4 (.p (.mv (t 31)))])
 (.seq (.seq (.reg [a 32 (.p (.mv (t 4))),
 a 33 (.p (.bin .neq (t 32) (k (.int .i64 0)))),
 a 34 (.p (.mv (t 33))),
 c 35 (.p (.mv (t 3))) 34 false,
 c 36 (.p (.len false (t 35))) 34 false,
 c 37 (.p (.bin .neq (t 36) (k (.int .i64 2)))) 34 false,
 a 38 (.p (.sel (t 34) (k (.bool true)) (t 37))),
 a 39 (.p (.mv (t 38))),
 c 40 (.p (.mv (t 3))) 39 false,
 c 41 (.p (.idxS 2 (t 40) (k (.int .i64 0)))) 39 false,
 c 42 (.p (.fld 1 (t 41))) 39 false,
 c 43 (.r (.load none (t 42))) 39 false,
 c 44 (.p (.len false (t 43))) 39 false,
 c 45 (.p (.bin .neq (t 44) (k (.int .i64 3)))) 39 false,
 a 46 (.p (.sel (t 39) (k (.bool true)) (t 45))),
 a 47 (.p (.mv (t 46))),
 c 48 (.p (.mv (t 3))) 47 false,
 c 49 (.p (.idxS 2 (t 48) (k (.int .i64 1)))) 47 false,
 c 50 (.p (.fld 1 (t 49))) 47 false,
 c 51 (.r (.load none (t 50))) 47 false,
 c 52 (.p (.len false (t 51))) 47 false,
 c 53 (.p (.bin .neq (t 52) (k (.int .i64 1)))) 47 false,
 a 54 (.p (.sel (t 47) (k (.bool true)) (t 53)))])
 (.cond (t 54)
 (.seq (.reg [a 0 (.p (.mv (k (.bool false))))])
 .ret)
 .skip))
 (.seq (.reg [a 55 (.p (.mv (t 3))),
 a 56 (.call N_merge_Trim [(t 55),(k (.int .i64 4))]),
 a 5 (.p (.mv (t 56)))])
 (.seq (.reg [a 58 (.p (.mv (t 3))),
 a 59 (.call N_merge_Rows [(t 58),(k .nslc),(k .nslc),(k (.int .i64 6))]),
 a 57 (.p (.mv (t 59))),
 a 60 (.p (.extract (t 57) 0)),
 a 61 (.p (.extract (t 57) 1)),
 a 6 (.p (.mv (t 60))),
 a 7 (.p (.mv (t 61)))])
 (.seq (.reg [a 62 (.n (.bslice 1 [(.int .u8 0)] 1 [(0,1,(k (.int .u8 97)))])),
 a 63 (.e (.mark (t 62))),
 a 64 (.n (.bslice 1 [(.int .u8 0)] 1 [(0,1,(k (.int .u8 99)))])),
 a 65 (.e (.mark (t 64))),
 a 66 (.p (.build [(.int .i64 0),.nslc,.nslc] [(0,1,(k (.int .i64 1))),(1,1,(t 63)),(2,1,(t 65))])),
 a 67 (.n (.bslice 1 [(.int .u8 0)] 1 [(0,1,(k (.int .u8 98)))])),
 a 68 (.e (.mark (t 67))),
 a 69 (.n (.bslice 1 [(.int .u8 0)] 1 [(0,1,(k (.int .u8 100)))])),
 a 70 (.e (.mark (t 69))),
 a 71 (.p (.build [(.int .i64 0),.nslc,.nslc] [(0,1,(k (.int .i64 2))),(1,1,(t 68)),(2,1,(t 70))])),
 a 72 (.n (.bslice 1 [(.int .u8 0)] 1 [(0,1,(k (.int .u8 99)))])),
 a 73 (.e (.mark (t 72))),
 a 74 (.n (.bslice 1 [(.int .u8 0)] 1 [(0,1,(k (.int .u8 101)))])),
 a 75 (.e (.mark (t 74))),
 a 76 (.p (.build [(.int .i64 0),.nslc,.nslc] [(0,1,(k (.int .i64 3))),(1,1,(t 73)),(2,1,(t 75))])),
 a 77 (.n (.bslice 3 [(.int .i64 0),.nslc,.nslc,(.int .i64 0),.nslc,.nslc,(.int .i64 0),.nslc,.nslc] 3 [(0,3,(t 66)),(3,3,(t 71)),(6,3,(t 76))])),
 a 8 (.p (.mv (t 77)))])
 (.seq (.reg [a 78 (.p (.mv (t 5))),
 a 79 (.p (.len false (t 78))),
 a 80 (.p (.bin .eql (t 79) (k (.int .i64 2)))),
 a 81 (.p (.mv (t 80))),
 c 82 (.p (.mv (t 5))) 81 true,
 c 83 (.p (.idxS 2 (t 82) (k (.int .i64 0)))) 81 true,
 c 84 (.p (.fld 1 (t 83))) 81 true,
 c 85 (.r (.load none (t 84))) 81 true,
 c 86 (.p (.idxS 4 (t 85) (k (.int .i64 0)))) 81 true,
 c 87 (.p (.fld 0 (t 86))) 81 true,
 c 88 (.r (.load none (t 87))) 81 true,
 c 89 (.p (.bin .eql (t 88) (k (.int .i64 4)))) 81 true,
 a 90 (.p (.sel (t 81) (t 89) (k (.bool false)))),
 a 91 (.p (.mv (t 90))),
 c 92 (.p (.mv (t 6))) 91 true,
 c 93 (.p (.len false (t 92))) 91 true,
 c 94 (.p (.bin .eql (t 93) (k (.int .i64 1)))) 91 true,
 a 95 (.p (.sel (t 91) (t 94) (k (.bool false)))),
 a 96 (.p (.mv (t 95))),
 c 97 (.p (.mv (t 7))) 96 true,
 c 98 (.p (.len false (t 97))) 96 true,
 c 99 (.p (.bin .eql (t 98) (k (.int .i64 1)))) 96 true,
 a 100 (.p (.sel (t 96) (t 99) (k (.bool false)))),
 a 101 (.p (.mv (t 100))),
 c 102 (.p (.mv (t 8))) 101 true,
 c 103 (.n (.bslice 1 [(.int .i64 0),(.int .i64 0),(.int .i64 0)] 3 [(0,1,(k (.int .i64 10))),(1,1,(k (.int .i64 20))),(2,1,(k (.int .i64 5)))])) 101 true,
 c 104 (.call N_merge_Choose [(t 102),(t 103),(k (.int .i64 16))]) 101 true,
 c 105 (.n (.bslice 1 [(.int .i64 0),(.int .i64 0)] 2 [(0,1,(k (.int .i64 1))),(1,1,(k (.int .i64 3)))])) 101 true,
 c 106 (.call N_stoaref18_SameInts [(t 104),(t 105)]) 101 true,
 a 107 (.p (.sel (t 101) (t 106) (k (.bool false)))),
 a 0 (.p (.mv (t 107)))])
 .ret))))))))), [.tmp 0]⟩
/-- stoa/stoaref22.Twin -/
def F_stoaref22_Twin : AFn := ⟨1, 34, (.seq (.reg [a 2 (.p (.mv (k .nslc)))])
 (.seq (.reg [a 5 (.n (.bslice 3 [] 0 [])),
 a 3 (.p (.mv (t 5)))])
 (.seq (.seq (.reg [a 4 (.p (.mv (k (.int .i64 0))))])
 (.block 0 (.loop (.seq (.seq (.reg [a 6 (.p (.mv (t 4))),
 a 7 (.p (.mv (t 0))),
 a 8 (.p (.len false (t 7))),
 a 9 (.p (.bin .lss (t 6) (t 8)))])
 (.cond (t 9)
 .skip
 (.exit 0)))
 (.seq (.block 1 (.dreg [(a 12 (.p (.mv (t 3))), []),
 (a 13 (.p (.mv (t 0))), []),
 (a 14 (.p (.mv (t 4))), []),
 (a 15 (.p (.idxS 3 (t 13) (t 14))), []),
 (a 16 (.p (.fld 0 (t 15))), []),
 (a 17 (.r (.load none (t 16))), []),
 (a 18 (.p (.mv (t 0))), []),
 (a 19 (.p (.mv (t 4))), []),
 (a 20 (.p (.idxS 3 (t 18) (t 19))), []),
 (a 21 (.p (.fld 1 (t 20))), []),
 (a 22 (.r (.load none (t 21))), []),
 (a 24 (.p (.mv (t 0))), []),
 (a 25 (.p (.mv (t 4))), []),
 (a 26 (.p (.idxS 3 (t 24) (t 25))), []),
 (a 27 (.p (.fld 2 (t 26))), []),
 (a 28 (.r (.load none (t 27))), []),
 (a 23 (.call N_stoaref01_Copy [(t 22)]), [a 28 (.r (.load none (t 27))),a 17 (.r (.load none (t 16)))]),
 (a 29 (.call N_stoaref01_Copy [(t 28)]), [a 17 (.r (.load none (t 16)))]),
 (a 30 (.p (.build [(.int .i64 0),.nslc,.nslc] [(0,1,(t 17)),(1,1,(t 23)),(2,1,(t 29))])), []),
 (a 31 (.n (.bslice 3 [(.int .i64 0),.nslc,.nslc] 1 [(0,3,(t 30))])), []),
 (a 32 (.e (.append 3 56 (t 12) (t 31))), []),
 (a 3 (.p (.mv (t 32))), [])]))
 (.reg [a 10 (.p (.mv (t 4))),
 a 11 (.p (.bin .add (t 10) (k (.int .i64 1)))),
 a 4 (.p (.mv (t 11)))]))))))
 (.seq (.reg [a 33 (.p (.mv (t 3))),
 a 2 (.p (.mv (t 33)))])
 .ret)))), [.tmp 2]⟩
/-- stoa/merge.Choose -/
def F_merge_Choose : AFn := ⟨3, 82, (.seq (.reg [a 6 (.p (.mv (k .nslc)))])
 (.seq (.reg [a 7 (.p (.mv (k .nslc)))])
 (.seq (.reg [a 8 (.p (.mv (k .nslc)))])
 (.seq (.seq (.reg [a 15 (.p (.mv (t 0))),
 a 16 (.p (.len false (t 15))),
 a 17 (.p (.mv (k (.int .i64 0))))])
 (.block 0 (.loop (.seq (.reg [a 18 (.p (.bin .lss (t 17) (t 16)))])
 (.seq (.cond (t 18)
 .skip
 (.exit 0))
 (.seq (.block 1 (.seq (.reg [a 19 (.p (.idxS 3 (t 15) (t 17))),
 a 20 (.r (.load (some 3) (t 19))),
 a 10 (.n (.alloc [(.int .i64 0),.nslc,.nslc])),
 b (.e (.store 3 (t 10) (t 20)))])
 (.seq (.reg [a 21 (.p (.mv (t 0))),
 a 22 (.p (.mv (t 1))),
 a 23 (.p (.fld 1 (t 10))),
 a 24 (.r (.load none (t 23))),
 a 25 (.call N_merge_stab [(t 21),(t 22),(t 24)]),
 a 11 (.p (.mv (t 25)))])
 (.seq (.reg [a 26 (.p (.mv (t 11))),
 a 27 (.p (.len false (t 26))),
 a 28 (.p (.mv (t 7))),
 a 29 (.p (.len false (t 28))),
 a 30 (.p (.bin .gtr (t 27) (t 29))),
 a 31 (.p (.mv (t 30))),
 c 32 (.p (.mv (t 11))) 31 false,
 c 33 (.p (.len false (t 32))) 31 false,
 c 34 (.p (.mv (t 7))) 31 false,
 c 35 (.p (.len false (t 34))) 31 false,
 c 36 (.p (.bin .eql (t 33) (t 35))) 31 false,
 c 37 (.p (.mv (t 36))) 31 false,
 c 38 (.p (.mv (t 11))) 37 true,
 c 39 (.p (.len false (t 38))) 37 true,
 c 40 (.p (.bin .gtr (t 39) (k (.int .i64 0)))) 37 true,
 c 41 (.p (.sel (t 37) (t 40) (k (.bool false)))) 31 false,
 c 42 (.p (.mv (t 41))) 31 false,
 c 43 (.p (.fld 1 (t 10))) 42 true,
 c 44 (.r (.load none (t 43))) 42 true,
 c 45 (.p (.mv (t 8))) 42 true,
 c 46 (.call N_bytes_Compare [(t 44),(t 45)]) 42 true,
 c 47 (.p (.bin .lss (t 46) (k (.int .i64 0)))) 42 true,
 c 48 (.p (.sel (t 42) (t 47) (k (.bool false)))) 31 false,
 a 49 (.p (.sel (t 31) (k (.bool true)) (t 48)))])
 (.cond (t 49)
 (.dreg [(a 50 (.p (.mv (t 11))), []),
 (a 51 (.p (.fld 1 (t 10))), []),
 (a 52 (.r (.load none (t 51))), []),
 (a 7 (.p (.mv (t 50))), []),
 (a 8 (.p (.mv (t 52))), [])])
 .skip)))))
 (.reg [a 53 (.p (.bin .add (t 17) (k (.int .i64 1)))),
 a 17 (.p (.mv (t 53)))])))))))
 (.seq (.reg [a 54 (.p (.mv (t 7))),
 a 55 (.call N_slices_SortFunc_merge_span_merge_span [(t 54),(.func N_merge_Choose_1)])])
 (.seq (.reg [a 12 (.p (.mv (k .nslc)))])
 (.seq (.seq (.reg [a 56 (.p (.mv (t 7))),
 a 57 (.p (.len false (t 56))),
 a 58 (.p (.mv (k (.int .i64 0))))])
 (.block 2 (.loop (.seq (.reg [a 59 (.p (.bin .lss (t 58) (t 57)))])
 (.seq (.cond (t 59)
 .skip
 (.exit 2))
 (.seq (.block 3 (.seq (.reg [a 60 (.p (.idxS 2 (t 56) (t 58))),
 a 61 (.r (.load (some 2) (t 60))),
 a 14 (.n (.alloc [(.int .i64 0),(.int .i64 0)])),
 b (.e (.store 2 (t 14) (t 61)))])
 (.seq (.seq (.reg [a 62 (.p (.fld 1 (t 14))),
 a 63 (.r (.load none (t 62))),
 a 64 (.p (.mv (t 2))),
 a 65 (.p (.bin .gtr (t 63) (t 64)))])
 (.cond (t 65)
 (.exit 2)
 .skip))
 (.seq (.reg [a 66 (.p (.mv (t 2))),
 a 67 (.p (.fld 1 (t 14))),
 a 68 (.r (.load none (t 67))),
 a 69 (.p (.bin .sub (t 66) (t 68))),
 a 2 (.p (.mv (t 69)))])
 (.reg [a 70 (.p (.mv (t 12))),
 a 71 (.p (.fld 0 (t 14))),
 a 72 (.r (.load none (t 71))),
 a 73 (.n (.bslice 1 [(.int .i64 0)] 1 [(0,1,(t 72))])),
 a 74 (.e (.append 1 8 (t 70) (t 73))),
 a 12 (.p (.mv (t 74)))])))))
 (.reg [a 75 (.p (.bin .add (t 58) (k (.int .i64 1)))),
 a 58 (.p (.mv (t 75)))])))))))
 (.seq (.seq (.reg [a 76 (.p (.mv (t 12))),
 a 77 (.p (.len false (t 76))),
 a 78 (.p (.bin .lss (t 77) (k (.int .i64 2))))])
 (.cond (t 78)
 (.seq (.reg [a 6 (.p (.mv (k .nslc)))])
 .ret)
 .skip))
 (.seq (.reg [a 79 (.p (.mv (t 12))),
 a 80 (.call N_slices_Sort_int_int [(t 79)])])
 (.seq (.reg [a 81 (.p (.mv (t 12))),
 a 6 (.p (.mv (t 81)))])
 .ret)))))))))), [.tmp 6]⟩
/-- stoa/stoaref18.SameInts -/
def F_stoaref18_SameInts : AFn := ⟨2, 26, (.seq (.reg [a 4 (.p (.mv (k (.bool false))))])
 (.seq (.seq (.reg [a 6 (.p (.mv (t 0))),
 a 7 (.p (.len false (t 6))),
 a 8 (.p (.mv (t 1))),
 a 9 (.p (.len false (t 8))),
 a 10 (.p (.bin .neq (t 7) (t 9)))])
 (.cond (t 10)
 (.seq (.reg [a 4 (.p (.mv (k (.bool false))))])
 .ret)
 .skip))
 (.seq (.seq (.reg [a 5 (.p (.mv (k (.int .i64 0))))])
 (.block 0 (.loop (.seq (.seq (.reg [a 11 (.p (.mv (t 5))),
 a 12 (.p (.mv (t 0))),
 a 13 (.p (.len false (t 12))),
 a 14 (.p (.bin .lss (t 11) (t 13)))])
 (.cond (t 14)
 .skip
 (.exit 0)))
 (.seq (.block 1 (.seq (.dreg [(a 17 (.p (.mv (t 0))), []),
 (a 18 (.p (.mv (t 5))), []),
 (a 19 (.p (.idxS 1 (t 17) (t 18))), []),
 (a 20 (.r (.load none (t 19))), []),
 (a 21 (.p (.mv (t 1))), []),
 (a 22 (.p (.mv (t 5))), []),
 (a 23 (.p (.idxS 1 (t 21) (t 22))), []),
 (a 24 (.r (.load none (t 23))), []),
 (a 25 (.p (.bin .neq (t 20) (t 24))), [])])
 (.cond (t 25)
 (.seq (.reg [a 4 (.p (.mv (k (.bool false))))])
 .ret)
 .skip)))
 (.reg [a 15 (.p (.mv (t 5))),
 a 16 (.p (.bin .add (t 15) (k (.int .i64 1)))),
 a 5 (.p (.mv (t 16)))]))))))
 (.seq (.reg [a 4 (.p (.mv (k (.bool true))))])
 .ret)))), [.tmp 4]⟩
/-- stoa/stoaref24.Choose -/
def F_stoaref24_Choose : AFn := ⟨3, 100, (.seq (.reg [a 6 (.p (.mv (k .nslc)))])
 (.seq (.reg [a 15 (.n (.bslice 1 [] 0 [])),
 a 7 (.p (.mv (t 15)))])
 (.seq (.reg [a 8 (.p (.mv (k (.int .i64 (-1)))))])
 (.seq (.seq (.reg [a 9 (.p (.mv (k (.int .i64 0))))])
 (.block 0 (.loop (.seq (.seq (.reg [a 16 (.p (.mv (t 9))),
 a 17 (.p (.mv (t 0))),
 a 18 (.p (.len false (t 17))),
 a 19 (.p (.bin .lss (t 16) (t 18)))])
 (.cond (t 19)
 .skip
 (.exit 0)))
 (.seq (.block 1 (.seq (.reg [a 22 (.p (.mv (t 0))),
 a 23 (.p (.mv (t 0))),
 a 24 (.p (.mv (t 9))),
 a 25 (.p (.idxS 3 (t 23) (t 24))),
 a 26 (.p (.fld 1 (t 25))),
 a 27 (.r (.load none (t 26))),
 a 28 (.call N_stoaref24_hits [(t 22),(t 27)]),
 a 10 (.p (.mv (t 28)))])
 (.seq (.dreg [(a 29 (.p (.mv (t 10))), []),
 (a 30 (.p (.len false (t 29))), []),
 (a 31 (.p (.mv (t 7))), []),
 (a 32 (.p (.len false (t 31))), []),
 (a 33 (.p (.bin .gtr (t 30) (t 32))), []),
 (a 34 (.p (.mv (t 33))), []),
 (c 35 (.p (.mv (t 10))) 34 false, []),
 (c 36 (.p (.len false (t 35))) 34 false, []),
 (c 37 (.p (.mv (t 7))) 34 false, []),
 (c 38 (.p (.len false (t 37))) 34 false, []),
 (c 39 (.p (.bin .eql (t 36) (t 38))) 34 false, []),
 (c 40 (.p (.mv (t 39))) 34 false, []),
 (c 41 (.p (.mv (t 8))) 40 true, []),
 (c 42 (.p (.bin .geq (t 41) (k (.int .i64 0)))) 40 true, []),
 (c 43 (.p (.sel (t 40) (t 42) (k (.bool false)))) 34 false, []),
 (c 44 (.p (.mv (t 43))) 34 false, []),
 (c 45 (.p (.mv (t 0))) 44 true, []),
 (c 46 (.p (.mv (t 9))) 44 true, []),
 (c 47 (.p (.idxS 3 (t 45) (t 46))) 44 true, []),
 (c 48 (.p (.fld 1 (t 47))) 44 true, []),
 (c 49 (.r (.load none (t 48))) 44 true, []),
 (c 50 (.p (.mv (t 0))) 44 true, []),
 (c 51 (.p (.mv (t 8))) 44 true, []),
 (c 52 (.p (.idxS 3 (t 50) (t 51))) 44 true, []),
 (c 53 (.p (.fld 1 (t 52))) 44 true, []),
 (c 54 (.r (.load none (t 53))) 44 true, []),
 (c 55 (.call N_stoaref05_Order [(t 49),(t 54)]) 44 true, []),
 (c 56 (.p (.bin .lss (t 55) (k (.int .i64 0)))) 44 true, []),
 (c 57 (.p (.sel (t 44) (t 56) (k (.bool false)))) 34 false, []),
 (a 58 (.p (.sel (t 34) (k (.bool true)) (t 57))), [])])
 (.cond (t 58)
 (.seq (.reg [a 59 (.p (.mv (t 10))),
 a 7 (.p (.mv (t 59)))])
 (.reg [a 60 (.p (.mv (t 9))),
 a 8 (.p (.mv (t 60)))]))
 .skip))))
 (.reg [a 20 (.p (.mv (t 9))),
 a 21 (.p (.bin .add (t 20) (k (.int .i64 1)))),
 a 9 (.p (.mv (t 21)))]))))))
 (.seq (.reg [a 61 (.n (.bslice 1 [] 0 [])),
 a 11 (.p (.mv (t 61)))])
 (.seq (.reg [a 62 (.n (.bslice 1 [] 0 [])),
 a 12 (.p (.mv (t 62)))])
 (.seq (.reg [a 63 (.p (.mv (t 2))),
 a 13 (.p (.mv (t 63)))])
 (.seq (.block 2 (.loop (.seq (.seq (.reg [a 64 (.p (.mv (t 11))),
 a 65 (.p (.len false (t 64))),
 a 66 (.p (.mv (t 7))),
 a 67 (.p (.len false (t 66))),
 a 68 (.p (.bin .lss (t 65) (t 67)))])
 (.cond (t 68)
 .skip
 (.exit 2)))
 (.block 3 (.seq (.reg [a 69 (.p (.mv (t 0))),
 a 70 (.p (.mv (t 1))),
 a 71 (.p (.mv (t 7))),
 a 72 (.p (.mv (t 11))),
 a 73 (.call N_stoaref24_next [(t 69),(t 70),(t 71),(t 72)]),
 a 14 (.p (.mv (t 73)))])
 (.seq (.seq (.reg [a 74 (.p (.mv (t 1))),
 a 75 (.p (.mv (t 14))),
 a 76 (.call N_stoaref24_rowsOf [(t 74),(t 75)]),
 a 77 (.p (.mv (t 13))),
 a 78 (.p (.bin .gtr (t 76) (t 77)))])
 (.cond (t 78)
 (.exit 2)
 .skip))
 (.seq (.reg [a 79 (.p (.mv (t 13))),
 a 80 (.p (.mv (t 1))),
 a 81 (.p (.mv (t 14))),
 a 82 (.call N_stoaref24_rowsOf [(t 80),(t 81)]),
 a 83 (.p (.bin .sub (t 79) (t 82))),
 a 13 (.p (.mv (t 83)))])
 (.seq (.reg [a 84 (.p (.mv (t 11))),
 a 85 (.p (.mv (t 14))),
 a 86 (.n (.bslice 1 [(.int .i64 0)] 1 [(0,1,(t 85))])),
 a 87 (.e (.append 1 8 (t 84) (t 86))),
 a 11 (.p (.mv (t 87)))])
 (.reg [a 88 (.p (.mv (t 12))),
 a 89 (.p (.mv (t 0))),
 a 90 (.p (.mv (t 14))),
 a 91 (.p (.idxS 3 (t 89) (t 90))),
 a 92 (.p (.fld 0 (t 91))),
 a 93 (.r (.load none (t 92))),
 a 94 (.call N_stoaref24_put [(t 88),(t 93)]),
 a 12 (.p (.mv (t 94)))])))))))))
 (.seq (.seq (.reg [a 95 (.p (.mv (t 12))),
 a 96 (.p (.len false (t 95))),
 a 97 (.p (.bin .lss (t 96) (k (.int .i64 2))))])
 (.cond (t 97)
 (.seq (.reg [a 98 (.n (.bslice 1 [] 0 [])),
 a 6 (.p (.mv (t 98)))])
 .ret)
 .skip))
 (.seq (.reg [a 99 (.p (.mv (t 12))),
 a 6 (.p (.mv (t 99)))])
 .ret)))))))))), [.tmp 6]⟩
/-- stoa/stoaref22.Same -/
def F_stoaref22_Same : AFn := ⟨2, 56, (.seq (.reg [a 4 (.p (.mv (k (.bool false))))])
 (.seq (.seq (.reg [a 6 (.p (.mv (t 0))),
 a 7 (.p (.len false (t 6))),
 a 8 (.p (.mv (t 1))),
 a 9 (.p (.len false (t 8))),
 a 10 (.p (.bin .neq (t 7) (t 9)))])
 (.cond (t 10)
 (.seq (.reg [a 4 (.p (.mv (k (.bool false))))])
 .ret)
 .skip))
 (.seq (.seq (.reg [a 5 (.p (.mv (k (.int .i64 0))))])
 (.block 0 (.loop (.seq (.seq (.reg [a 11 (.p (.mv (t 5))),
 a 12 (.p (.mv (t 0))),
 a 13 (.p (.len false (t 12))),
 a 14 (.p (.bin .lss (t 11) (t 13)))])
 (.cond (t 14)
 .skip
 (.exit 0)))
 (.seq (.block 1 (.seq (.dreg [(a 17 (.p (.mv (t 0))), []),
 (a 18 (.p (.mv (t 5))), []),
 (a 19 (.p (.idxS 3 (t 17) (t 18))), []),
 (a 20 (.p (.fld 0 (t 19))), []),
 (a 21 (.r (.load none (t 20))), []),
 (a 22 (.p (.mv (t 1))), []),
 (a 23 (.p (.mv (t 5))), []),
 (a 24 (.p (.idxS 3 (t 22) (t 23))), []),
 (a 25 (.p (.fld 0 (t 24))), []),
 (a 26 (.r (.load none (t 25))), []),
 (a 27 (.p (.bin .neq (t 21) (t 26))), []),
 (a 28 (.p (.mv (t 27))), []),
 (c 29 (.p (.mv (t 0))) 28 false, []),
 (c 30 (.p (.mv (t 5))) 28 false, []),
 (c 31 (.p (.idxS 3 (t 29) (t 30))) 28 false, []),
 (c 32 (.p (.fld 1 (t 31))) 28 false, []),
 (c 33 (.r (.load none (t 32))) 28 false, []),
 (c 34 (.p (.mv (t 1))) 28 false, []),
 (c 35 (.p (.mv (t 5))) 28 false, []),
 (c 36 (.p (.idxS 3 (t 34) (t 35))) 28 false, []),
 (c 37 (.p (.fld 1 (t 36))) 28 false, []),
 (c 38 (.r (.load none (t 37))) 28 false, []),
 (c 39 (.call N_stoaref01_Same [(t 33),(t 38)]) 28 false, []),
 (c 40 (.p (.un .not (t 39))) 28 false, []),
 (a 41 (.p (.sel (t 28) (k (.bool true)) (t 40))), []),
 (a 42 (.p (.mv (t 41))), []),
 (c 43 (.p (.mv (t 0))) 42 false, []),
 (c 44 (.p (.mv (t 5))) 42 false, []),
 (c 45 (.p (.idxS 3 (t 43) (t 44))) 42 false, []),
 (c 46 (.p (.fld 2 (t 45))) 42 false, []),
 (c 47 (.r (.load none (t 46))) 42 false, []),
 (c 48 (.p (.mv (t 1))) 42 false, []),
 (c 49 (.p (.mv (t 5))) 42 false, []),
 (c 50 (.p (.idxS 3 (t 48) (t 49))) 42 false, []),
 (c 51 (.p (.fld 2 (t 50))) 42 false, []),
 (c 52 (.r (.load none (t 51))) 42 false, []),
 (c 53 (.call N_stoaref01_Same [(t 47),(t 52)]) 42 false, []),
 (c 54 (.p (.un .not (t 53))) 42 false, []),
 (a 55 (.p (.sel (t 42) (k (.bool true)) (t 54))), [])])
 (.cond (t 55)
 (.seq (.reg [a 4 (.p (.mv (k (.bool false))))])
 .ret)
 .skip)))
 (.reg [a 15 (.p (.mv (t 5))),
 a 16 (.p (.bin .add (t 15) (k (.int .i64 1)))),
 a 5 (.p (.mv (t 16)))]))))))
 (.seq (.reg [a 4 (.p (.mv (k (.bool true))))])
 .ret)))), [.tmp 4]⟩
/-- stoa/stoaref22.Check -/
def F_stoaref22_Check : AFn := ⟨1, 39, (.seq (.reg [a 2 (.p (.mv (k (.int .i64 0))))])
 (.seq (.seq (.reg [a 3 (.p (.mv (k (.int .i64 0))))])
 (.block 0 (.loop (.seq (.seq (.reg [a 5 (.p (.mv (t 3))),
 a 6 (.p (.mv (t 0))),
 a 7 (.p (.len false (t 6))),
 a 8 (.p (.bin .lss (t 5) (t 7)))])
 (.cond (t 8)
 .skip
 (.exit 0)))
 (.seq (.block 1 (.seq (.seq (.dreg [(a 11 (.p (.mv (t 0))), []),
 (a 12 (.p (.mv (t 3))), []),
 (a 13 (.p (.idxS 3 (t 11) (t 12))), []),
 (a 14 (.p (.fld 2 (t 13))), []),
 (a 15 (.r (.load none (t 14))), []),
 (a 16 (.p (.mv (t 0))), []),
 (a 17 (.p (.mv (t 3))), []),
 (a 18 (.p (.idxS 3 (t 16) (t 17))), []),
 (a 19 (.p (.fld 1 (t 18))), []),
 (a 20 (.r (.load none (t 19))), []),
 (a 21 (.call N_stoaref05_Order [(t 15),(t 20)]), []),
 (a 22 (.p (.bin .lss (t 21) (k (.int .i64 0)))), [])])
 (.cond (t 22)
 (.seq (.reg [a 2 (.p (.mv (k (.int .i64 1))))])
 .ret)
 .skip))
 (.seq (.reg [a 4 (.p (.mv (k (.int .i64 0))))])
 (.block 2 (.loop (.seq (.seq (.reg [a 23 (.p (.mv (t 4))),
 a 24 (.p (.mv (t 3))),
 a 25 (.p (.bin .lss (t 23) (t 24)))])
 (.cond (t 25)
 .skip
 (.exit 2)))
 (.seq (.block 3 (.seq (.dreg [(a 28 (.p (.mv (t 0))), []),
 (a 29 (.p (.mv (t 4))), []),
 (a 30 (.p (.idxS 3 (t 28) (t 29))), []),
 (a 31 (.p (.fld 0 (t 30))), []),
 (a 32 (.r (.load none (t 31))), []),
 (a 33 (.p (.mv (t 0))), []),
 (a 34 (.p (.mv (t 3))), []),
 (a 35 (.p (.idxS 3 (t 33) (t 34))), []),
 (a 36 (.p (.fld 0 (t 35))), []),
 (a 37 (.r (.load none (t 36))), []),
 (a 38 (.p (.bin .eql (t 32) (t 37))), [])])
 (.cond (t 38)
 (.seq (.reg [a 2 (.p (.mv (k (.int .i64 192))))])
 .ret)
 .skip)))
 (.reg [a 26 (.p (.mv (t 4))),
 a 27 (.p (.bin .add (t 26) (k (.int .i64 1)))),
 a 4 (.p (.mv (t 27)))]))))))))
 (.reg [a 9 (.p (.mv (t 3))),
 a 10 (.p (.bin .add (t 9) (k (.int .i64 1)))),
 a 3 (.p (.mv (t 10)))]))))))
 (.seq (.reg [a 2 (.p (.mv (k (.int .i64 0))))])
 .ret))), [.tmp 2]⟩
/-- stoa/stoalaw24.has -/
def F_stoalaw24_has : AFn := ⟨2, 17, (.seq (.reg [a 4 (.p (.mv (k (.bool false))))])
 (.seq (.seq (.reg [a 7 (.p (.mv (t 0))),
 a 8 (.p (.len false (t 7))),
 a 9 (.p (.mv (k (.int .i64 0))))])
 (.block 0 (.loop (.seq (.reg [a 10 (.p (.bin .lss (t 9) (t 8)))])
 (.seq (.cond (t 10)
 .skip
 (.exit 0))
 (.seq (.block 1 (.seq (.reg [a 11 (.p (.idxS 1 (t 7) (t 9))),
 a 12 (.r (.load none (t 11))),
 a 6 (.p (.mv (t 12)))])
 (.seq (.reg [a 13 (.p (.mv (t 6))),
 a 14 (.p (.mv (t 1))),
 a 15 (.p (.bin .eql (t 13) (t 14)))])
 (.cond (t 15)
 (.seq (.reg [a 4 (.p (.mv (k (.bool true))))])
 .ret)
 .skip))))
 (.reg [a 16 (.p (.bin .add (t 9) (k (.int .i64 1)))),
 a 9 (.p (.mv (t 16)))])))))))
 (.seq (.reg [a 4 (.p (.mv (k (.bool false))))])
 .ret))), [.tmp 4]⟩
/-- stoa/stoaref05.Order -/
def F_stoaref05_Order : AFn := ⟨2, 46, (.seq (.reg [a 4 (.p (.mv (k (.int .i64 0))))])
 (.seq (.seq (.reg [a 5 (.p (.mv (k (.int .i64 0))))])
 (.block 0 (.loop (.seq (.seq (.reg [a 6 (.p (.mv (t 5))),
 a 7 (.p (.mv (t 0))),
 a 8 (.p (.len false (t 7))),
 a 9 (.p (.bin .lss (t 6) (t 8))),
 a 10 (.p (.mv (t 9))),
 c 11 (.p (.mv (t 5))) 10 true,
 c 12 (.p (.mv (t 1))) 10 true,
 c 13 (.p (.len false (t 12))) 10 true,
 c 14 (.p (.bin .lss (t 11) (t 13))) 10 true,
 a 15 (.p (.sel (t 10) (t 14) (k (.bool false))))])
 (.cond (t 15)
 .skip
 (.exit 0)))
 (.seq (.block 1 (.seq (.seq (.dreg [(a 18 (.p (.mv (t 0))), []),
 (a 19 (.p (.mv (t 5))), []),
 (a 20 (.p (.idxS 1 (t 18) (t 19))), []),
 (a 21 (.r (.load none (t 20))), []),
 (a 22 (.p (.mv (t 1))), []),
 (a 23 (.p (.mv (t 5))), []),
 (a 24 (.p (.idxS 1 (t 22) (t 23))), []),
 (a 25 (.r (.load none (t 24))), []),
 (a 26 (.p (.bin .lss (t 21) (t 25))), [])])
 (.cond (t 26)
 (.seq (.reg [a 4 (.p (.mv (k (.int .i64 (-1)))))])
 .ret)
 .skip))
 (.seq (.dreg [(a 27 (.p (.mv (t 0))), []),
 (a 28 (.p (.mv (t 5))), []),
 (a 29 (.p (.idxS 1 (t 27) (t 28))), []),
 (a 30 (.r (.load none (t 29))), []),
 (a 31 (.p (.mv (t 1))), []),
 (a 32 (.p (.mv (t 5))), []),
 (a 33 (.p (.idxS 1 (t 31) (t 32))), []),
 (a 34 (.r (.load none (t 33))), []),
 (a 35 (.p (.bin .gtr (t 30) (t 34))), [])])
 (.cond (t 35)
 (.seq (.reg [a 4 (.p (.mv (k (.int .i64 1))))])
 .ret)
 .skip))))
 (.reg [a 16 (.p (.mv (t 5))),
 a 17 (.p (.bin .add (t 16) (k (.int .i64 1)))),
 a 5 (.p (.mv (t 17)))]))))))
 (.seq (.seq (.reg [a 36 (.p (.mv (t 0))),
 a 37 (.p (.len false (t 36))),
 a 38 (.p (.mv (t 1))),
 a 39 (.p (.len false (t 38))),
 a 40 (.p (.bin .lss (t 37) (t 39)))])
 (.cond (t 40)
 (.seq (.reg [a 4 (.p (.mv (k (.int .i64 (-1)))))])
 .ret)
 .skip))
 (.seq (.seq (.reg [a 41 (.p (.mv (t 0))),
 a 42 (.p (.len false (t 41))),
 a 43 (.p (.mv (t 1))),
 a 44 (.p (.len false (t 43))),
 a 45 (.p (.bin .gtr (t 42) (t 44)))])
 (.cond (t 45)
 (.seq (.reg [a 4 (.p (.mv (k (.int .i64 1))))])
 .ret)
 .skip))
 (.seq (.reg [a 4 (.p (.mv (k (.int .i64 0))))])
 .ret))))), [.tmp 4]⟩
/-- stoa/stoalaw24.key -/
def F_stoalaw24_key : AFn := ⟨1, 14, (.seq (.reg [a 2 (.p (.mv (k .nslc)))])
 (.seq (.reg [a 6 (.call N_stoalaw24_two []),
 a 7 (.p (.mv (t 0))),
 a 8 (.p (.build [(.bool false),(.int .i64 0),.nslc] [(1,1,(t 7))])),
 a 9 (.n (.bslice 3 [(.bool false),(.int .i64 0),.nslc] 1 [(0,3,(t 8))])),
 a 10 (.call N_stoaref07_Encode [(t 6),(t 9)]),
 a 5 (.p (.mv (t 10))),
 a 11 (.p (.extract (t 5) 0)),
 a 12 (.p (.extract (t 5) 1)),
 a 3 (.p (.mv (t 11))),
 a 4 (.p (.mv (t 12)))])
 (.seq (.reg [a 13 (.p (.mv (t 3))),
 a 2 (.p (.mv (t 13)))])
 .ret))), [.tmp 2]⟩
/-- stoa/stoalaw24.insert -/
def F_stoalaw24_insert : AFn := ⟨2, 13, (.seq (.reg [a 4 (.n (.alloc [(.int .i64 0),(.int .i64 0),.nslc,.nslc]))])
 (.seq (.reg [a 5 (.p (.mv (t 0))),
 a 6 (.p (.mv (t 1))),
 a 7 (.p (.build [(.bool false),(.int .i64 0),.nslc] [(1,1,(t 6))])),
 a 8 (.n (.bslice 1 [(.int .u8 0)] 1 [(0,1,(k (.int .u8 120)))])),
 a 9 (.e (.mark (t 8))),
 a 10 (.p (.build [(.bool false),(.int .i64 0),.nslc] [(2,1,(t 9))])),
 a 11 (.n (.bslice 3 [(.bool false),(.int .i64 0),.nslc,(.bool false),(.int .i64 0),.nslc] 2 [(0,3,(t 7)),(3,3,(t 10))])),
 a 12 (.p (.build [(.int .i64 0),(.int .i64 0),.nslc,.nslc] [(0,1,(t 5)),(1,1,(k (.int .i64 1))),(2,1,(t 11))])),
 b (.e (.store 4 (t 4) (t 12)))])
 .ret)), [.cell 4 (some 4)]⟩
/-- stoa/merge.Join -/
def F_merge_Join : AFn := ⟨2, 83, (.seq (.reg [a 2 (.n (.box (t 0))),
 a 4 (.p (.mv (k .nslc))),
 a 5 (.p (.mv (k (.int .i64 0))))])
 (.seq (.seq (.reg [a 15 (.r (.load (some 2) (t 2))),
 a 16 (.call N_schema_Check [(t 15)]),
 a 6 (.p (.mv (t 16)))])
 (.seq (.reg [a 17 (.p (.mv (t 6))),
 a 18 (.p (.bin .neq (t 17) (k (.int .i64 0))))])
 (.cond (t 18)
 (.seq (.reg [a 19 (.p (.mv (t 6))),
 a 4 (.p (.mv (k .nslc))),
 a 5 (.p (.mv (t 19)))])
 .ret)
 .skip)))
 (.seq (.reg [a 21 (.p (.mv (t 1))),
 a 22 (.call N_merge_gather [(t 21)]),
 a 20 (.p (.mv (t 22))),
 a 23 (.p (.extract (t 20) 0)),
 a 24 (.p (.extract (t 20) 1)),
 a 7 (.p (.mv (t 23))),
 a 8 (.p (.mv (t 24)))])
 (.seq (.seq (.reg [a 25 (.p (.mv (t 8))),
 a 26 (.p (.bin .neq (t 25) (k (.int .i64 0))))])
 (.cond (t 26)
 (.seq (.reg [a 27 (.p (.mv (t 8))),
 a 4 (.p (.mv (k .nslc))),
 a 5 (.p (.mv (t 27)))])
 .ret)
 .skip))
 (.seq (.reg [a 9 (.p (.mv (k .nslc)))])
 (.seq (.seq (.reg [a 28 (.p (.mv (t 7))),
 a 29 (.p (.len false (t 28))),
 a 30 (.p (.mv (k (.int .i64 0))))])
 (.block 0 (.loop (.seq (.reg [a 31 (.p (.bin .lss (t 30) (t 29)))])
 (.seq (.cond (t 31)
 .skip
 (.exit 0))
 (.seq (.block 1 (.seq (.reg [a 32 (.p (.idxS 2 (t 28) (t 30))),
 a 33 (.r (.load (some 2) (t 32))),
 a 11 (.n (.alloc [.nslc,.nslc])),
 b (.e (.store 2 (t 11) (t 33)))])
 (.seq (.seq (.reg [a 34 (.p (.mv (t 9))),
 a 35 (.p (.len false (t 34))),
 a 12 (.p (.mv (t 35)))])
 (.seq (.dreg [(a 36 (.p (.mv (t 12))), []),
 (a 37 (.p (.bin .gtr (t 36) (k (.int .i64 0)))), []),
 (a 38 (.p (.mv (t 37))), []),
 (c 39 (.p (.mv (t 9))) 38 true, []),
 (c 40 (.p (.mv (t 12))) 38 true, []),
 (c 41 (.p (.bin .sub (t 40) (k (.int .i64 1)))) 38 true, []),
 (c 42 (.p (.idxS 2 (t 39) (t 41))) 38 true, []),
 (c 43 (.p (.fld 0 (t 42))) 38 true, []),
 (c 44 (.r (.load none (t 43))) 38 true, []),
 (c 45 (.p (.fld 0 (t 11))) 38 true, []),
 (c 46 (.r (.load none (t 45))) 38 true, []),
 (c 47 (.call N_bytes_Equal [(t 44),(t 46)]) 38 true, []),
 (a 48 (.p (.sel (t 38) (t 47) (k (.bool false)))), [])])
 (.cond (t 48)
 (.seq (.dreg [(a 49 (.p (.mv (t 9))), []),
 (a 50 (.p (.mv (t 12))), []),
 (a 51 (.p (.bin .sub (t 50) (k (.int .i64 1)))), []),
 (a 52 (.p (.mv (t 9))), []),
 (a 53 (.p (.mv (t 12))), []),
 (a 54 (.p (.bin .sub (t 53) (k (.int .i64 1)))), []),
 (a 55 (.p (.idxS 2 (t 52) (t 54))), []),
 (a 56 (.p (.fld 1 (t 55))), []),
 (a 57 (.r (.load none (t 56))), []),
 (a 58 (.p (.fld 1 (t 11))), []),
 (a 59 (.r (.load none (t 58))), []),
 (a 60 (.e (.append 4 64 (t 57) (t 59))), []),
 (a 61 (.p (.idxS 2 (t 49) (t 51))), []),
 (a 62 (.p (.fld 1 (t 61))), []),
 (b (.e (.store 1 (t 62) (t 60))), [])])
 (.exit 1))
 .skip)))
 (.reg [a 63 (.p (.mv (t 9))),
 a 64 (.r (.load (some 2) (t 11))),
 a 65 (.n (.bslice 2 [.nslc,.nslc] 1 [(0,2,(t 64))])),
 a 66 (.e (.append 2 48 (t 63) (t 65))),
 a 9 (.p (.mv (t 66)))]))))
 (.reg [a 67 (.p (.bin .add (t 30) (k (.int .i64 1)))),
 a 30 (.p (.mv (t 67)))])))))))
 (.seq (.seq (.reg [a 68 (.p (.mv (t 9))),
 a 69 (.p (.len false (t 68))),
 a 70 (.p (.mv (k (.int .i64 0))))])
 (.block 2 (.loop (.seq (.reg [a 71 (.p (.bin .lss (t 70) (t 69)))])
 (.seq (.cond (t 71)
 .skip
 (.exit 2))
 (.seq (.block 3 (.seq (.reg [a 72 (.p (.mv (t 70))),
 a 13 (.p (.mv (t 72)))])
 (.seq (.dreg [(a 73 (.r (.load (some 2) (t 2))), []),
 (a 74 (.p (.mv (t 9))), []),
 (a 75 (.p (.mv (t 13))), []),
 (a 76 (.p (.idxS 2 (t 74) (t 75))), []),
 (a 77 (.call N_merge_right [(t 73),(t 76)]), []),
 (a 14 (.p (.mv (t 77))), [])])
 (.seq (.reg [a 78 (.p (.mv (t 14))),
 a 79 (.p (.bin .neq (t 78) (k (.int .i64 0))))])
 (.cond (t 79)
 (.seq (.reg [a 80 (.p (.mv (t 14))),
 a 4 (.p (.mv (k .nslc))),
 a 5 (.p (.mv (t 80)))])
 .ret)
 .skip)))))
 (.reg [a 81 (.p (.bin .add (t 70) (k (.int .i64 1)))),
 a 70 (.p (.mv (t 81)))])))))))
 (.seq (.reg [a 82 (.p (.mv (t 9))),
 a 4 (.p (.mv (t 82))),
 a 5 (.p (.mv (k (.int .i64 0))))])
 .ret)))))))), [.tmp 4,.tmp 5]⟩
/-- stoa/stoalaw24.two -/
def F_stoalaw24_two : AFn := ⟨0, 5, (.seq (.reg [a 0 (.n (.alloc [.nslc,(.int .i64 0)]))])
 (.seq (.reg [a 1 (.p (.build [(.str []),(.int .i64 0),(.bool false)] [(0,1,(k (.str [105,100]))),(1,1,(k (.int .i64 3)))])),
 a 2 (.p (.build [(.str []),(.int .i64 0),(.bool false)] [(0,1,(k (.str [110,97,109,101]))),(1,1,(k (.int .i64 7)))])),
 a 3 (.n (.bslice 3 [(.str []),(.int .i64 0),(.bool false),(.str []),(.int .i64 0),(.bool false)] 2 [(0,3,(t 1)),(3,3,(t 2))])),
 a 4 (.p (.build [.nslc,(.int .i64 0)] [(0,1,(t 3)),(1,1,(k (.int .i64 1)))])),
 b (.e (.store 2 (t 0) (t 4)))])
 .ret)), [.cell 0 (some 2)]⟩
/-- stoa/merge.Trim -/
def F_merge_Trim : AFn := ⟨2, 68, (.seq (.reg [a 4 (.p (.mv (k .nslc)))])
 (.seq (.reg [a 5 (.p (.mv (k .nslc)))])
 (.seq (.seq (.reg [a 13 (.p (.mv (t 0))),
 a 14 (.p (.len false (t 13))),
 a 15 (.p (.mv (k (.int .i64 0))))])
 (.block 0 (.loop (.seq (.reg [a 16 (.p (.bin .lss (t 15) (t 14)))])
 (.seq (.cond (t 16)
 .skip
 (.exit 0))
 (.seq (.block 1 (.seq (.reg [a 17 (.p (.idxS 2 (t 13) (t 15))),
 a 18 (.r (.load (some 2) (t 17))),
 a 7 (.n (.alloc [.nslc,.nslc])),
 b (.e (.store 2 (t 7) (t 18)))])
 (.seq (.reg [a 19 (.p (.fld 0 (t 7))),
 a 20 (.r (.load none (t 19))),
 a 21 (.call N_bytes_Clone [(t 20)]),
 a 22 (.p (.build [.nslc,.nslc] [(0,1,(t 21))])),
 a 8 (.n (.alloc [.nslc,.nslc])),
 b (.e (.store 2 (t 8) (t 22)))])
 (.seq (.seq (.reg [a 24 (.p (.fld 1 (t 7))),
 a 25 (.r (.load none (t 24))),
 a 26 (.p (.mv (t 1))),
 a 27 (.call N_memstore_State [(t 25),(t 26)]),
 a 23 (.p (.mv (t 27))),
 a 28 (.p (.extract (t 23) 0)),
 a 29 (.p (.extract (t 23) 1)),
 a 9 (.p (.mv (t 28))),
 a 10 (.p (.mv (t 29)))])
 (.seq (.reg [a 30 (.p (.mv (t 10)))])
 (.cond (t 30)
 (.reg [a 31 (.p (.fld 1 (t 8))),
 a 32 (.r (.load none (t 31))),
 a 33 (.p (.mv (t 1))),
 a 34 (.p (.mv (t 9))),
 a 35 (.p (.build [(.int .i64 0),(.int .i64 0),.nslc,.nslc] [(0,1,(t 33)),(1,1,(k (.int .i64 1))),(2,1,(t 34))])),
 a 36 (.n (.bslice 4 [(.int .i64 0),(.int .i64 0),.nslc,.nslc] 1 [(0,4,(t 35))])),
 a 37 (.e (.append 4 64 (t 32) (t 36))),
 a 38 (.p (.fld 1 (t 8))),
 b (.e (.store 1 (t 38) (t 37)))])
 .skip)))
 (.seq (.seq (.reg [a 39 (.p (.fld 1 (t 7))),
 a 40 (.r (.load none (t 39))),
 a 41 (.p (.len false (t 40))),
 a 42 (.p (.mv (k (.int .i64 0))))])
 (.block 2 (.loop (.seq (.reg [a 43 (.p (.bin .lss (t 42) (t 41)))])
 (.seq (.cond (t 43)
 .skip
 (.exit 2))
 (.seq (.block 3 (.seq (.reg [a 44 (.p (.idxS 4 (t 40) (t 42))),
 a 45 (.r (.load (some 4) (t 44))),
 a 12 (.n (.alloc [(.int .i64 0),(.int .i64 0),.nslc,.nslc])),
 b (.e (.store 4 (t 12) (t 45)))])
 (.seq (.reg [a 46 (.p (.fld 0 (t 12))),
 a 47 (.r (.load none (t 46))),
 a 48 (.p (.mv (t 1))),
 a 49 (.p (.bin .gtr (t 47) (t 48)))])
 (.cond (t 49)
 (.dreg [(a 50 (.p (.fld 1 (t 8))), []),
 (a 51 (.r (.load none (t 50))), []),
 (a 52 (.r (.load (some 4) (t 12))), []),
 (a 53 (.call N_merge_clone [(t 52)]), [a 51 (.r (.load none (t 50)))]),
 (a 54 (.n (.bslice 4 [(.int .i64 0),(.int .i64 0),.nslc,.nslc] 1 [(0,4,(t 53))])), []),
 (a 55 (.e (.append 4 64 (t 51) (t 54))), []),
 (a 56 (.p (.fld 1 (t 8))), []),
 (b (.e (.store 1 (t 56) (t 55))), [])])
 .skip))))
 (.reg [a 57 (.p (.bin .add (t 42) (k (.int .i64 1)))),
 a 42 (.p (.mv (t 57)))])))))))
 (.seq (.reg [a 58 (.p (.fld 1 (t 8))),
 a 59 (.r (.load none (t 58))),
 a 60 (.p (.len false (t 59))),
 a 61 (.p (.bin .gtr (t 60) (k (.int .i64 0))))])
 (.cond (t 61)
 (.reg [a 62 (.p (.mv (t 5))),
 a 63 (.r (.load (some 2) (t 8))),
 a 64 (.n (.bslice 2 [.nslc,.nslc] 1 [(0,2,(t 63))])),
 a 65 (.e (.append 2 48 (t 62) (t 64))),
 a 5 (.p (.mv (t 65)))])
 .skip)))))))
 (.reg [a 66 (.p (.bin .add (t 15) (k (.int .i64 1)))),
 a 15 (.p (.mv (t 66)))])))))))
 (.seq (.reg [a 67 (.p (.mv (t 5))),
 a 4 (.p (.mv (t 67)))])
 .ret)))), [.tmp 4]⟩
/-- stoa/merge.Rows -/
def F_merge_Rows : AFn := ⟨4, 50, (.seq (.reg [a 8 (.p (.mv (k .nslc))),
 a 9 (.p (.mv (k .nslc)))])
 (.seq (.reg [a 10 (.p (.mv (k .nslc)))])
 (.seq (.reg [a 11 (.p (.mv (k .nslc)))])
 (.seq (.seq (.reg [a 16 (.p (.mv (t 0))),
 a 17 (.p (.len false (t 16))),
 a 18 (.p (.mv (k (.int .i64 0))))])
 (.block 0 (.loop (.seq (.reg [a 19 (.p (.bin .lss (t 18) (t 17)))])
 (.seq (.cond (t 19)
 .skip
 (.exit 0))
 (.seq (.block 1 (.seq (.reg [a 20 (.p (.idxS 2 (t 16) (t 18))),
 a 21 (.r (.load (some 2) (t 20))),
 a 13 (.n (.alloc [.nslc,.nslc])),
 b (.e (.store 2 (t 13) (t 21)))])
 (.seq (.reg [a 23 (.p (.fld 1 (t 13))),
 a 24 (.r (.load none (t 23))),
 a 25 (.p (.mv (t 3))),
 a 26 (.call N_memstore_State [(t 24),(t 25)]),
 a 22 (.p (.mv (t 26))),
 a 27 (.p (.extract (t 22) 0)),
 a 28 (.p (.extract (t 22) 1)),
 a 14 (.p (.mv (t 27))),
 a 15 (.p (.mv (t 28)))])
 (.seq (.reg [a 29 (.p (.mv (t 15))),
 a 30 (.p (.mv (t 29))),
 c 31 (.p (.fld 0 (t 13))) 30 true,
 c 32 (.r (.load none (t 31))) 30 true,
 c 33 (.p (.mv (t 1))) 30 true,
 c 34 (.p (.mv (t 2))) 30 true,
 c 35 (.call N_merge_inside [(t 32),(t 33),(t 34)]) 30 true,
 a 36 (.p (.sel (t 30) (t 35) (k (.bool false))))])
 (.cond (t 36)
 (.seq (.reg [a 37 (.p (.mv (t 10))),
 a 38 (.p (.fld 0 (t 13))),
 a 39 (.r (.load none (t 38))),
 a 40 (.call N_bytes_Clone [(t 39)]),
 a 41 (.n (.bslice 1 [.nslc] 1 [(0,1,(t 40))])),
 a 42 (.e (.append 1 24 (t 37) (t 41))),
 a 10 (.p (.mv (t 42)))])
 (.reg [a 43 (.p (.mv (t 11))),
 a 44 (.p (.mv (t 14))),
 a 45 (.n (.bslice 1 [.nslc] 1 [(0,1,(t 44))])),
 a 46 (.e (.append 1 24 (t 43) (t 45))),
 a 11 (.p (.mv (t 46)))]))
 .skip)))))
 (.reg [a 47 (.p (.bin .add (t 18) (k (.int .i64 1)))),
 a 18 (.p (.mv (t 47)))])))))))
 (.seq (.reg [a 48 (.p (.mv (t 10))),
 a 49 (.p (.mv (t 11))),
 a 8 (.p (.mv (t 48))),
 a 9 (.p (.mv (t 49)))])
 .ret))))), [.tmp 8,.tmp 9]⟩
/-- stoa/stoaref01.Copy -/
def F_stoaref01_Copy : AFn := ⟨1, 20, (.seq (.reg [a 2 (.p (.mv (k .nslc)))])
 (.seq (.reg [a 5 (.n (.bslice 1 [] 0 [])),
 a 3 (.p (.mv (t 5)))])
 (.seq (.seq (.reg [a 4 (.p (.mv (k (.int .i64 0))))])
 (.block 0 (.loop (.seq (.seq (.reg [a 6 (.p (.mv (t 4))),
 a 7 (.p (.mv (t 0))),
 a 8 (.p (.len false (t 7))),
 a 9 (.p (.bin .lss (t 6) (t 8)))])
 (.cond (t 9)
 .skip
 (.exit 0)))
 (.seq (.block 1 (.reg [a 12 (.p (.mv (t 3))),
 a 13 (.p (.mv (t 0))),
 a 14 (.p (.mv (t 4))),
 a 15 (.p (.idxS 1 (t 13) (t 14))),
 a 16 (.r (.load none (t 15))),
 a 17 (.n (.bslice 1 [(.int .u8 0)] 1 [(0,1,(t 16))])),
 a 18 (.e (.append 1 1 (t 12) (t 17))),
 a 3 (.p (.mv (t 18)))]))
 (.reg [a 10 (.p (.mv (t 4))),
 a 11 (.p (.bin .add (t 10) (k (.int .i64 1)))),
 a 4 (.p (.mv (t 11)))]))))))
 (.seq (.reg [a 19 (.p (.mv (t 3))),
 a 2 (.p (.mv (t 19)))])
 .ret)))), [.tmp 2]⟩
/-- stoa/merge.stab -/
def F_merge_stab : AFn := ⟨3, 49, (.seq (.reg [a 6 (.p (.mv (k .nslc)))])
 (.seq (.reg [a 7 (.p (.mv (k .nslc)))])
 (.seq (.seq (.reg [a 11 (.p (.mv (t 0))),
 a 12 (.p (.len false (t 11))),
 a 13 (.p (.mv (k (.int .i64 0))))])
 (.block 0 (.loop (.seq (.reg [a 14 (.p (.bin .lss (t 13) (t 12)))])
 (.seq (.cond (t 14)
 .skip
 (.exit 0))
 (.seq (.block 1 (.seq (.reg [a 15 (.p (.mv (t 13))),
 a 16 (.p (.idxS 3 (t 11) (t 13))),
 a 17 (.r (.load (some 3) (t 16))),
 a 9 (.n (.alloc [(.int .i64 0),.nslc,.nslc])),
 a 8 (.p (.mv (t 15))),
 b (.e (.store 3 (t 9) (t 17)))])
 (.seq (.reg [a 18 (.p (.fld 1 (t 9))),
 a 19 (.r (.load none (t 18))),
 a 20 (.p (.mv (t 2))),
 a 21 (.call N_bytes_Compare [(t 19),(t 20)]),
 a 22 (.p (.bin .leq (t 21) (k (.int .i64 0)))),
 a 23 (.p (.mv (t 22))),
 c 24 (.p (.mv (t 2))) 23 true,
 c 25 (.p (.fld 2 (t 9))) 23 true,
 c 26 (.r (.load none (t 25))) 23 true,
 c 27 (.call N_bytes_Compare [(t 24),(t 26)]) 23 true,
 c 28 (.p (.bin .leq (t 27) (k (.int .i64 0)))) 23 true,
 a 29 (.p (.sel (t 23) (t 28) (k (.bool false))))])
 (.cond (t 29)
 (.seq (.reg [a 30 (.p (.fld 0 (t 9))),
 a 31 (.r (.load none (t 30))),
 a 32 (.p (.build [(.int .i64 0),(.int .i64 0)] [(0,1,(t 31)),(1,1,(k (.int .i64 1)))])),
 a 10 (.n (.alloc [(.int .i64 0),(.int .i64 0)])),
 b (.e (.store 2 (t 10) (t 32)))])
 (.seq (.seq (.reg [a 33 (.p (.mv (t 8))),
 a 34 (.p (.mv (t 1))),
 a 35 (.p (.len false (t 34))),
 a 36 (.p (.bin .lss (t 33) (t 35)))])
 (.cond (t 36)
 (.reg [a 37 (.p (.mv (t 1))),
 a 38 (.p (.mv (t 8))),
 a 39 (.p (.idxS 1 (t 37) (t 38))),
 a 40 (.r (.load none (t 39))),
 a 41 (.p (.minmax true (t 40) [(k (.int .i64 1))])),
 a 42 (.p (.fld 1 (t 10))),
 b (.e (.store 1 (t 42) (t 41)))])
 .skip))
 (.reg [a 43 (.p (.mv (t 7))),
 a 44 (.r (.load (some 2) (t 10))),
 a 45 (.n (.bslice 2 [(.int .i64 0),(.int .i64 0)] 1 [(0,2,(t 44))])),
 a 46 (.e (.append 2 16 (t 43) (t 45))),
 a 7 (.p (.mv (t 46)))])))
 .skip))))
 (.reg [a 47 (.p (.bin .add (t 13) (k (.int .i64 1)))),
 a 13 (.p (.mv (t 47)))])))))))
 (.seq (.reg [a 48 (.p (.mv (t 7))),
 a 6 (.p (.mv (t 48)))])
 .ret)))), [.tmp 6]⟩
/-- bytes.Compare -/
def F_bytes_Compare : AFn := ⟨2, 8, (.seq (.reg [a 4 (.p (.mv (k (.int .i64 0))))])
 (.seq (.reg [a 5 (.p (.mv (t 0))),
 a 6 (.p (.mv (t 1))),
 a 7 (.r (.bcmp (t 5) (t 6))),
 a 4 (.p (.mv (t 7)))])
 .ret)), [.tmp 4]⟩
/-- slices.SortFunc(()stoa/merge.span,stoa/merge.span) -/
def F_slices_SortFunc_merge_span_merge_span : AFn := ⟨2, 14, (.seq (.reg [a 5 (.p (.mv (t 0))),
 a 6 (.p (.len false (t 5))),
 a 4 (.p (.mv (t 6)))])
 (.reg [a 7 (.p (.mv (t 0))),
 a 8 (.p (.mv (t 4))),
 a 9 (.p (.mv (t 4))),
 a 10 (.p (.conv .u64 (t 9))),
 a 11 (.call N_math_bits_Len [(t 10)]),
 a 12 (.p (.mv (t 1))),
 a 13 (.call N_slices_pdqsortCmpFunc_merge_span [(t 7),(k (.int .i64 0)),(t 8),(t 11),(t 12)])])), []⟩
/-- stoa/merge.Choose$1 -/
def F_merge_Choose_1 : AFn := ⟨2, 17, (.seq (.reg [a 2 (.n (.box (t 0))),
 a 3 (.n (.box (t 1))),
 a 4 (.p (.mv (k (.int .i64 0))))])
 (.seq (.dreg [(a 5 (.p (.fld 1 (t 2))), []),
 (a 6 (.r (.load none (t 5))), []),
 (a 7 (.p (.fld 1 (t 3))), []),
 (a 8 (.r (.load none (t 7))), []),
 (a 10 (.p (.fld 0 (t 2))), []),
 (a 11 (.r (.load none (t 10))), []),
 (a 12 (.p (.fld 0 (t 3))), []),
 (a 13 (.r (.load none (t 12))), []),
 (a 9 (.call N_cmp_Compare_int [(t 6),(t 8)]), [a 13 (.r (.load none (t 12))),a 11 (.r (.load none (t 10)))]),
 (a 14 (.call N_cmp_Compare_int [(t 11),(t 13)]), []),
 (a 15 (.n (.bslice 1 [(.int .i64 0),(.int .i64 0)] 2 [(0,1,(t 9)),(1,1,(t 14))])), []),
 (a 16 (.call N_cmp_Or_int [(t 15)]), []),
 (a 4 (.p (.mv (t 16))), [])])
 .ret)), [.tmp 4]⟩
/-- cmp.Or(int) -/
def F_cmp_Or_int : AFn := ⟨1, 18, (.seq (.reg [a 2 (.p (.mv (k (.int .i64 0))))])
 (.seq (.reg [a 3 (.p (.mv (k (.int .i64 0))))])
 (.seq (.seq (.reg [a 6 (.p (.mv (t 0))),
 a 7 (.p (.len false (t 6))),
 a 8 (.p (.mv (k (.int .i64 0))))])
 (.block 0 (.loop (.seq (.reg [a 9 (.p (.bin .lss (t 8) (t 7)))])
 (.seq (.cond (t 9)
 .skip
 (.exit 0))
 (.seq (.block 1 (.seq (.reg [a 10 (.p (.idxS 1 (t 6) (t 8))),
 a 11 (.r (.load none (t 10))),
 a 5 (.p (.mv (t 11)))])
 (.seq (.reg [a 12 (.p (.mv (t 5))),
 a 13 (.p (.mv (t 3))),
 a 14 (.p (.bin .neq (t 12) (t 13)))])
 (.cond (t 14)
 (.seq (.reg [a 15 (.p (.mv (t 5))),
 a 2 (.p (.mv (t 15)))])
 .ret)
 .skip))))
 (.reg [a 16 (.p (.bin .add (t 8) (k (.int .i64 1)))),
 a 8 (.p (.mv (t 16)))])))))))
 (.seq (.reg [a 17 (.p (.mv (t 3))),
 a 2 (.p (.mv (t 17)))])
 .ret)))), [.tmp 2]⟩
/-- cmp.Compare(int) -/
def F_cmp_Compare_int : AFn := ⟨2, 20, (.seq (.reg [a 4 (.p (.mv (k (.int .i64 0))))])
 (.seq (.reg [a 7 (.p (.mv (t 0))),
 a 8 (.call N_cmp_isNaN_int [(t 7)]),
 a 5 (.p (.mv (t 8)))])
 (.seq (.reg [a 9 (.p (.mv (t 1))),
 a 10 (.call N_cmp_isNaN_int [(t 9)]),
 a 6 (.p (.mv (t 10)))])
 (.seq (.seq (.reg [a 11 (.p (.mv (t 5)))])
 (.cond (t 11)
 (.seq (.seq (.reg [a 12 (.p (.mv (t 6)))])
 (.cond (t 12)
 (.seq (.reg [a 4 (.p (.mv (k (.int .i64 0))))])
 .ret)
 .skip))
 (.seq (.reg [a 4 (.p (.mv (k (.int .i64 (-1)))))])
 .ret))
 .skip))
 (.seq (.seq (.reg [a 13 (.p (.mv (t 6)))])
 (.cond (t 13)
 (.seq (.reg [a 4 (.p (.mv (k (.int .i64 1))))])
 .ret)
 .skip))
 (.seq (.seq (.reg [a 14 (.p (.mv (t 0))),
 a 15 (.p (.mv (t 1))),
 a 16 (.p (.bin .lss (t 14) (t 15)))])
 (.cond (t 16)
 (.seq (.reg [a 4 (.p (.mv (k (.int .i64 (-1)))))])
 .ret)
 .skip))
 (.seq (.seq (.reg [a 17 (.p (.mv (t 0))),
 a 18 (.p (.mv (t 1))),
 a 19 (.p (.bin .gtr (t 17) (t 18)))])
 (.cond (t 19)
 (.seq (.reg [a 4 (.p (.mv (k (.int .i64 1))))])
 .ret)
 .skip))
 (.seq (.reg [a 4 (.p (.mv (k (.int .i64 0))))])
 .ret)))))))), [.tmp 4]⟩
/-- slices.Sort(()int,int) -/
def F_slices_Sort_int_int : AFn := ⟨1, 11, (.seq (.reg [a 3 (.p (.mv (t 0))),
 a 4 (.p (.len false (t 3))),
 a 2 (.p (.mv (t 4)))])
 (.reg [a 5 (.p (.mv (t 0))),
 a 6 (.p (.mv (t 2))),
 a 7 (.p (.mv (t 2))),
 a 8 (.p (.conv .u64 (t 7))),
 a 9 (.call N_math_bits_Len [(t 8)]),
 a 10 (.call N_slices_pdqsortOrdered_int [(t 5),(k (.int .i64 0)),(t 6),(t 9)])])), []⟩
/-- stoa/stoaref24.hits -/
def F_stoaref24_hits : AFn := ⟨2, 37, (.seq (.reg [a 4 (.p (.mv (k .nslc)))])
 (.seq (.reg [a 7 (.n (.bslice 1 [] 0 [])),
 a 5 (.p (.mv (t 7)))])
 (.seq (.seq (.reg [a 6 (.p (.mv (k (.int .i64 0))))])
 (.block 0 (.loop (.seq (.seq (.reg [a 8 (.p (.mv (t 6))),
 a 9 (.p (.mv (t 0))),
 a 10 (.p (.len false (t 9))),
 a 11 (.p (.bin .lss (t 8) (t 10)))])
 (.cond (t 11)
 .skip
 (.exit 0)))
 (.seq (.block 1 (.seq (.reg [a 14 (.p (.mv (t 0))),
 a 15 (.p (.mv (t 6))),
 a 16 (.p (.idxS 3 (t 14) (t 15))),
 a 17 (.p (.fld 1 (t 16))),
 a 18 (.r (.load none (t 17))),
 a 19 (.p (.mv (t 1))),
 a 20 (.call N_stoaref05_Order [(t 18),(t 19)]),
 a 21 (.p (.bin .leq (t 20) (k (.int .i64 0)))),
 a 22 (.p (.mv (t 21))),
 c 23 (.p (.mv (t 1))) 22 true,
 c 24 (.p (.mv (t 0))) 22 true,
 c 25 (.p (.mv (t 6))) 22 true,
 c 26 (.p (.idxS 3 (t 24) (t 25))) 22 true,
 c 27 (.p (.fld 2 (t 26))) 22 true,
 c 28 (.r (.load none (t 27))) 22 true,
 c 29 (.call N_stoaref05_Order [(t 23),(t 28)]) 22 true,
 c 30 (.p (.bin .leq (t 29) (k (.int .i64 0)))) 22 true,
 a 31 (.p (.sel (t 22) (t 30) (k (.bool false))))])
 (.cond (t 31)
 (.reg [a 32 (.p (.mv (t 5))),
 a 33 (.p (.mv (t 6))),
 a 34 (.n (.bslice 1 [(.int .i64 0)] 1 [(0,1,(t 33))])),
 a 35 (.e (.append 1 8 (t 32) (t 34))),
 a 5 (.p (.mv (t 35)))])
 .skip)))
 (.reg [a 12 (.p (.mv (t 6))),
 a 13 (.p (.bin .add (t 12) (k (.int .i64 1)))),
 a 6 (.p (.mv (t 13)))]))))))
 (.seq (.reg [a 36 (.p (.mv (t 5))),
 a 4 (.p (.mv (t 36)))])
 .ret)))), [.tmp 4]⟩
/-- stoa/stoaref24.next -/
def F_stoaref24_next : AFn := ⟨4, 78, (.seq (.reg [a 8 (.p (.mv (k (.int .i64 0))))])
 (.seq (.reg [a 9 (.p (.mv (k (.int .i64 (-1)))))])
 (.seq (.seq (.reg [a 10 (.p (.mv (k (.int .i64 0))))])
 (.block 0 (.loop (.seq (.seq (.reg [a 14 (.p (.mv (t 10))),
 a 15 (.p (.mv (t 2))),
 a 16 (.p (.len false (t 15))),
 a 17 (.p (.bin .lss (t 14) (t 16)))])
 (.cond (t 17)
 .skip
 (.exit 0)))
 (.seq (.block 1 (.seq (.reg [a 20 (.p (.mv (t 2))),
 a 21 (.p (.mv (t 10))),
 a 22 (.p (.idxS 1 (t 20) (t 21))),
 a 23 (.r (.load none (t 22))),
 a 11 (.p (.mv (t 23)))])
 (.seq (.reg [a 12 (.p (.mv (k (.bool false))))])
 (.seq (.seq (.reg [a 13 (.p (.mv (k (.int .i64 0))))])
 (.block 2 (.loop (.seq (.seq (.reg [a 24 (.p (.mv (t 13))),
 a 25 (.p (.mv (t 3))),
 a 26 (.p (.len false (t 25))),
 a 27 (.p (.bin .lss (t 24) (t 26)))])
 (.cond (t 27)
 .skip
 (.exit 2)))
 (.seq (.block 3 (.reg [a 30 (.p (.mv (t 12))),
 a 31 (.p (.mv (t 30))),
 c 32 (.p (.mv (t 3))) 31 false,
 c 33 (.p (.mv (t 13))) 31 false,
 c 34 (.p (.idxS 1 (t 32) (t 33))) 31 false,
 c 35 (.r (.load none (t 34))) 31 false,
 c 36 (.p (.mv (t 11))) 31 false,
 c 37 (.p (.bin .eql (t 35) (t 36))) 31 false,
 a 38 (.p (.sel (t 31) (k (.bool true)) (t 37))),
 a 12 (.p (.mv (t 38)))]))
 (.reg [a 28 (.p (.mv (t 13))),
 a 29 (.p (.bin .add (t 28) (k (.int .i64 1)))),
 a 13 (.p (.mv (t 29)))]))))))
 (.seq (.dreg [(a 39 (.p (.mv (t 12))), []),
 (a 40 (.p (.un .not (t 39))), []),
 (a 41 (.p (.mv (t 40))), []),
 (c 42 (.p (.mv (t 9))) 41 true, []),
 (c 43 (.p (.bin .lss (t 42) (k (.int .i64 0)))) 41 true, []),
 (c 44 (.p (.mv (t 43))) 41 true, []),
 (c 45 (.p (.mv (t 1))) 44 false, []),
 (c 46 (.p (.mv (t 11))) 44 false, []),
 (c 48 (.p (.mv (t 1))) 44 false, []),
 (c 49 (.p (.mv (t 9))) 44 false, []),
 (c 47 (.call N_stoaref24_rowsOf [(t 45),(t 46)]) 44 false, []),
 (c 50 (.call N_stoaref24_rowsOf [(t 48),(t 49)]) 44 false, []),
 (c 51 (.p (.bin .lss (t 47) (t 50))) 44 false, []),
 (c 52 (.p (.sel (t 44) (k (.bool true)) (t 51))) 41 true, []),
 (c 53 (.p (.mv (t 52))) 41 true, []),
 (c 54 (.p (.mv (t 1))) 53 false, []),
 (c 55 (.p (.mv (t 11))) 53 false, []),
 (c 57 (.p (.mv (t 1))) 53 false, []),
 (c 58 (.p (.mv (t 9))) 53 false, []),
 (c 56 (.call N_stoaref24_rowsOf [(t 54),(t 55)]) 53 false, []),
 (c 59 (.call N_stoaref24_rowsOf [(t 57),(t 58)]) 53 false, []),
 (c 60 (.p (.bin .eql (t 56) (t 59))) 53 false, []),
 (c 61 (.p (.mv (t 60))) 53 false, []),
 (c 62 (.p (.mv (t 0))) 61 true, []),
 (c 63 (.p (.mv (t 11))) 61 true, []),
 (c 64 (.p (.idxS 3 (t 62) (t 63))) 61 true, []),
 (c 65 (.p (.fld 0 (t 64))) 61 true, []),
 (c 66 (.r (.load none (t 65))) 61 true, []),
 (c 67 (.p (.mv (t 0))) 61 true, []),
 (c 68 (.p (.mv (t 9))) 61 true, []),
 (c 69 (.p (.idxS 3 (t 67) (t 68))) 61 true, []),
 (c 70 (.p (.fld 0 (t 69))) 61 true, []),
 (c 71 (.r (.load none (t 70))) 61 true, []),
 (c 72 (.p (.bin .lss (t 66) (t 71))) 61 true, []),
 (c 73 (.p (.sel (t 61) (t 72) (k (.bool false)))) 53 false, []),
 (c 74 (.p (.sel (t 53) (k (.bool true)) (t 73))) 41 true, []),
 (a 75 (.p (.sel (t 41) (t 74) (k (.bool false)))), [])])
 (.cond (t 75)
 (.reg [a 76 (.p (.mv (t 11))),
 a 9 (.p (.mv (t 76)))])
 .skip))))))
 (.reg [a 18 (.p (.mv (t 10))),
 a 19 (.p (.bin .add (t 18) (k (.int .i64 1)))),
 a 10 (.p (.mv (t 19)))]))))))
 (.seq (.reg [a 77 (.p (.mv (t 9))),
 a 8 (.p (.mv (t 77)))])
 .ret)))), [.tmp 8]⟩
/-- stoa/stoaref24.rowsOf -/
def F_stoaref24_rowsOf : AFn := ⟨2, 20, (.seq (.reg [a 4 (.p (.mv (k (.int .i64 0))))])
 (.seq (.seq (.reg [a 5 (.p (.mv (t 1))),
 a 6 (.p (.mv (t 0))),
 a 7 (.p (.len false (t 6))),
 a 8 (.p (.bin .lss (t 5) (t 7))),
 a 9 (.p (.mv (t 8))),
 c 10 (.p (.mv (t 0))) 9 true,
 c 11 (.p (.mv (t 1))) 9 true,
 c 12 (.p (.idxS 1 (t 10) (t 11))) 9 true,
 c 13 (.r (.load none (t 12))) 9 true,
 c 14 (.p (.bin .gtr (t 13) (k (.int .i64 1)))) 9 true,
 a 15 (.p (.sel (t 9) (t 14) (k (.bool false))))])
 (.cond (t 15)
 (.seq (.reg [a 16 (.p (.mv (t 0))),
 a 17 (.p (.mv (t 1))),
 a 18 (.p (.idxS 1 (t 16) (t 17))),
 a 19 (.r (.load none (t 18))),
 a 4 (.p (.mv (t 19)))])
 .ret)
 .skip))
 (.seq (.reg [a 4 (.p (.mv (k (.int .i64 1))))])
 .ret))), [.tmp 4]⟩
/-- stoa/stoaref24.put -/
def F_stoaref24_put : AFn := ⟨2, 43, (.seq (.reg [a 4 (.p (.mv (k .nslc)))])
 (.seq (.reg [a 8 (.n (.bslice 1 [] 0 [])),
 a 5 (.p (.mv (t 8)))])
 (.seq (.reg [a 6 (.p (.mv (k (.bool false))))])
 (.seq (.seq (.reg [a 7 (.p (.mv (k (.int .i64 0))))])
 (.block 0 (.loop (.seq (.seq (.reg [a 9 (.p (.mv (t 7))),
 a 10 (.p (.mv (t 0))),
 a 11 (.p (.len false (t 10))),
 a 12 (.p (.bin .lss (t 9) (t 11)))])
 (.cond (t 12)
 .skip
 (.exit 0)))
 (.seq (.block 1 (.seq (.seq (.reg [a 15 (.p (.mv (t 6))),
 a 16 (.p (.un .not (t 15))),
 a 17 (.p (.mv (t 16))),
 c 18 (.p (.mv (t 1))) 17 true,
 c 19 (.p (.mv (t 0))) 17 true,
 c 20 (.p (.mv (t 7))) 17 true,
 c 21 (.p (.idxS 1 (t 19) (t 20))) 17 true,
 c 22 (.r (.load none (t 21))) 17 true,
 c 23 (.p (.bin .lss (t 18) (t 22))) 17 true,
 a 24 (.p (.sel (t 17) (t 23) (k (.bool false))))])
 (.cond (t 24)
 (.seq (.reg [a 25 (.p (.mv (t 5))),
 a 26 (.p (.mv (t 1))),
 a 27 (.n (.bslice 1 [(.int .i64 0)] 1 [(0,1,(t 26))])),
 a 28 (.e (.append 1 8 (t 25) (t 27))),
 a 5 (.p (.mv (t 28)))])
 (.reg [a 6 (.p (.mv (k (.bool true))))]))
 .skip))
 (.reg [a 29 (.p (.mv (t 5))),
 a 30 (.p (.mv (t 0))),
 a 31 (.p (.mv (t 7))),
 a 32 (.p (.idxS 1 (t 30) (t 31))),
 a 33 (.r (.load none (t 32))),
 a 34 (.n (.bslice 1 [(.int .i64 0)] 1 [(0,1,(t 33))])),
 a 35 (.e (.append 1 8 (t 29) (t 34))),
 a 5 (.p (.mv (t 35)))])))
 (.reg [a 13 (.p (.mv (t 7))),
 a 14 (.p (.bin .add (t 13) (k (.int .i64 1)))),
 a 7 (.p (.mv (t 14)))]))))))
 (.seq (.seq (.reg [a 36 (.p (.mv (t 6))),
 a 37 (.p (.un .not (t 36)))])
 (.cond (t 37)
 (.reg [a 38 (.p (.mv (t 5))),
 a 39 (.p (.mv (t 1))),
 a 40 (.n (.bslice 1 [(.int .i64 0)] 1 [(0,1,(t 39))])),
 a 41 (.e (.append 1 8 (t 38) (t 40))),
 a 5 (.p (.mv (t 41)))])
 .skip))
 (.seq (.reg [a 42 (.p (.mv (t 5))),
 a 4 (.p (.mv (t 42)))])
 .ret)))))), [.tmp 4]⟩
/-- stoa/stoaref01.Same -/
def F_stoaref01_Same : AFn := ⟨2, 26, (.seq (.reg [a 4 (.p (.mv (k (.bool false))))])
 (.seq (.seq (.reg [a 6 (.p (.mv (t 0))),
 a 7 (.p (.len false (t 6))),
 a 8 (.p (.mv (t 1))),
 a 9 (.p (.len false (t 8))),
 a 10 (.p (.bin .neq (t 7) (t 9)))])
 (.cond (t 10)
 (.seq (.reg [a 4 (.p (.mv (k (.bool false))))])
 .ret)
 .skip))
 (.seq (.seq (.reg [a 5 (.p (.mv (k (.int .i64 0))))])
 (.block 0 (.loop (.seq (.seq (.reg [a 11 (.p (.mv (t 5))),
 a 12 (.p (.mv (t 0))),
 a 13 (.p (.len false (t 12))),
 a 14 (.p (.bin .lss (t 11) (t 13)))])
 (.cond (t 14)
 .skip
 (.exit 0)))
 (.seq (.block 1 (.seq (.dreg [(a 17 (.p (.mv (t 0))), []),
 (a 18 (.p (.mv (t 5))), []),
 (a 19 (.p (.idxS 1 (t 17) (t 18))), []),
 (a 20 (.r (.load none (t 19))), []),
 (a 21 (.p (.mv (t 1))), []),
 (a 22 (.p (.mv (t 5))), []),
 (a 23 (.p (.idxS 1 (t 21) (t 22))), []),
 (a 24 (.r (.load none (t 23))), []),
 (a 25 (.p (.bin .neq (t 20) (t 24))), [])])
 (.cond (t 25)
 (.seq (.reg [a 4 (.p (.mv (k (.bool false))))])
 .ret)
 .skip)))
 (.reg [a 15 (.p (.mv (t 5))),
 a 16 (.p (.bin .add (t 15) (k (.int .i64 1)))),
 a 5 (.p (.mv (t 16)))]))))))
 (.seq (.reg [a 4 (.p (.mv (k (.bool true))))])
 .ret)))), [.tmp 4]⟩
/-- stoa/stoaref07.Encode -/
def F_stoaref07_Encode : AFn := ⟨2, 60, (.seq (.reg [a 2 (.n (.box (t 0))),
 a 4 (.p (.mv (k .nslc))),
 a 5 (.p (.mv (k (.int .i64 0))))])
 (.seq (.reg [a 10 (.r (.load (some 2) (t 2))),
 a 11 (.call N_stoaref06_Check [(t 10)]),
 a 6 (.p (.mv (t 11)))])
 (.seq (.seq (.reg [a 12 (.p (.mv (t 6))),
 a 13 (.p (.bin .neq (t 12) (k (.int .i64 0))))])
 (.cond (t 13)
 (.seq (.reg [a 14 (.p (.mv (t 6))),
 a 4 (.p (.mv (k .nslc))),
 a 5 (.p (.mv (t 14)))])
 .ret)
 .skip))
 (.seq (.seq (.reg [a 15 (.p (.mv (t 1))),
 a 16 (.p (.len false (t 15))),
 a 17 (.p (.bin .lss (t 16) (k (.int .i64 1)))),
 a 18 (.p (.mv (t 17))),
 c 19 (.p (.mv (t 1))) 18 false,
 c 20 (.p (.len false (t 19))) 18 false,
 c 21 (.p (.fld 1 (t 2))) 18 false,
 c 22 (.r (.load none (t 21))) 18 false,
 c 23 (.p (.bin .gtr (t 20) (t 22))) 18 false,
 a 24 (.p (.sel (t 18) (k (.bool true)) (t 23)))])
 (.cond (t 24)
 (.seq (.reg [a 4 (.p (.mv (k .nslc))),
 a 5 (.p (.mv (k (.int .i64 61))))])
 .ret)
 .skip))
 (.seq (.reg [a 25 (.n (.bslice 1 [] 0 [])),
 a 7 (.p (.mv (t 25)))])
 (.seq (.seq (.reg [a 8 (.p (.mv (k (.int .i64 0))))])
 (.block 0 (.loop (.seq (.seq (.reg [a 26 (.p (.mv (t 8))),
 a 27 (.p (.mv (t 1))),
 a 28 (.p (.len false (t 27))),
 a 29 (.p (.bin .lss (t 26) (t 28)))])
 (.cond (t 29)
 .skip
 (.exit 0)))
 (.seq (.block 1 (.seq (.dreg [(a 32 (.p (.fld 0 (t 2))), []),
 (a 33 (.r (.load none (t 32))), []),
 (a 34 (.p (.mv (t 8))), []),
 (a 35 (.p (.idxS 3 (t 33) (t 34))), []),
 (a 36 (.p (.fld 1 (t 35))), []),
 (a 37 (.r (.load none (t 36))), []),
 (a 38 (.p (.mv (t 1))), []),
 (a 39 (.p (.mv (t 8))), []),
 (a 40 (.p (.idxS 3 (t 38) (t 39))), []),
 (a 41 (.r (.load (some 3) (t 40))), []),
 (a 42 (.call N_stoaref05_Check [(t 37),(k (.bool false)),(t 41)]), []),
 (a 9 (.p (.mv (t 42))), [])])
 (.seq (.seq (.reg [a 43 (.p (.mv (t 9))),
 a 44 (.p (.bin .neq (t 43) (k (.int .i64 0))))])
 (.cond (t 44)
 (.seq (.reg [a 45 (.p (.mv (t 9))),
 a 4 (.p (.mv (k .nslc))),
 a 5 (.p (.mv (t 45)))])
 .ret)
 .skip))
 (.dreg [(a 46 (.p (.mv (t 7))), []),
 (a 47 (.p (.fld 0 (t 2))), []),
 (a 48 (.r (.load none (t 47))), []),
 (a 49 (.p (.mv (t 8))), []),
 (a 50 (.p (.idxS 3 (t 48) (t 49))), []),
 (a 51 (.p (.fld 1 (t 50))), []),
 (a 52 (.r (.load none (t 51))), []),
 (a 53 (.p (.mv (t 1))), []),
 (a 54 (.p (.mv (t 8))), []),
 (a 55 (.p (.idxS 3 (t 53) (t 54))), []),
 (a 56 (.r (.load (some 3) (t 55))), []),
 (a 57 (.call N_stoaref07_put [(t 52),(t 56)]), []),
 (a 58 (.call N_stoaref01_Cat [(t 46),(t 57)]), []),
 (a 7 (.p (.mv (t 58))), [])]))))
 (.reg [a 30 (.p (.mv (t 8))),
 a 31 (.p (.bin .add (t 30) (k (.int .i64 1)))),
 a 8 (.p (.mv (t 31)))]))))))
 (.seq (.reg [a 59 (.p (.mv (t 7))),
 a 4 (.p (.mv (t 59))),
 a 5 (.p (.mv (k (.int .i64 0))))])
 .ret))))))), [.tmp 4,.tmp 5]⟩
/-- stoa/schema.Check -/
def F_schema_Check : AFn := ⟨1, 74, (.seq (.reg [a 1 (.n (.box (t 0))),
 a 2 (.p (.mv (k (.int .i64 0))))])
 (.seq (.seq (.reg [a 7 (.p (.fld 0 (t 1))),
 a 8 (.r (.load none (t 7))),
 a 9 (.p (.len false (t 8))),
 a 10 (.p (.bin .lss (t 9) (k (.int .i64 1)))),
 a 11 (.p (.mv (t 10))),
 c 12 (.p (.fld 0 (t 1))) 11 false,
 c 13 (.r (.load none (t 12))) 11 false,
 c 14 (.p (.len false (t 13))) 11 false,
 c 15 (.p (.bin .gtr (t 14) (k (.int .i64 12)))) 11 false,
 a 16 (.p (.sel (t 11) (k (.bool true)) (t 15))),
 a 17 (.p (.mv (t 16))),
 c 18 (.p (.fld 1 (t 1))) 17 false,
 c 19 (.r (.load none (t 18))) 17 false,
 c 20 (.p (.bin .lss (t 19) (k (.int .i64 1)))) 17 false,
 a 21 (.p (.sel (t 17) (k (.bool true)) (t 20))),
 a 22 (.p (.mv (t 21))),
 c 23 (.p (.fld 1 (t 1))) 22 false,
 c 24 (.r (.load none (t 23))) 22 false,
 c 25 (.p (.fld 0 (t 1))) 22 false,
 c 26 (.r (.load none (t 25))) 22 false,
 c 27 (.p (.len false (t 26))) 22 false,
 c 28 (.p (.minmax false (k (.int .i64 3)) [(t 27)])) 22 false,
 c 29 (.p (.bin .gtr (t 24) (t 28))) 22 false,
 a 30 (.p (.sel (t 22) (k (.bool true)) (t 29)))])
 (.cond (t 30)
 (.seq (.reg [a 2 (.p (.mv (k (.int .i64 60))))])
 .ret)
 .skip))
 (.seq (.reg [a 31 (.n (.mkmap)),
 a 3 (.p (.mv (t 31)))])
 (.seq (.seq (.reg [a 32 (.p (.fld 0 (t 1))),
 a 33 (.r (.load none (t 32))),
 a 34 (.p (.len false (t 33))),
 a 35 (.p (.mv (k (.int .i64 0))))])
 (.block 0 (.loop (.seq (.reg [a 36 (.p (.bin .lss (t 35) (t 34)))])
 (.seq (.cond (t 36)
 .skip
 (.exit 0))
 (.seq (.block 1 (.seq (.reg [a 37 (.p (.mv (t 35))),
 a 38 (.p (.idxS 3 (t 33) (t 35))),
 a 39 (.r (.load (some 3) (t 38))),
 a 5 (.n (.alloc [(.str []),(.int .i64 0),(.bool false)])),
 a 4 (.p (.mv (t 37))),
 b (.e (.store 3 (t 5) (t 39)))])
 (.seq (.reg [a 40 (.p (.fld 1 (t 5))),
 a 41 (.r (.load none (t 40))),
 a 42 (.p (.bin .lss (t 41) (k (.int .i64 1)))),
 a 43 (.p (.mv (t 42))),
 c 44 (.p (.fld 1 (t 5))) 43 false,
 c 45 (.r (.load none (t 44))) 43 false,
 c 46 (.p (.bin .gtr (t 45) (k (.int .i64 8)))) 43 false,
 a 47 (.p (.sel (t 43) (k (.bool true)) (t 46))),
 a 6 (.p (.mv (t 47)))])
 (.seq (.seq (.reg [a 48 (.p (.fld 0 (t 5))),
 a 49 (.r (.load none (t 48))),
 a 50 (.call N_schema_badName [(t 49)]),
 a 51 (.p (.mv (t 50))),
 c 52 (.p (.mv (t 3))) 51 false,
 c 53 (.p (.fld 0 (t 5))) 51 false,
 c 54 (.r (.load none (t 53))) 51 false,
 c 55 (.r (.look .str (.bool false) (t 52) (t 54) false)) 51 false,
 a 56 (.p (.sel (t 51) (k (.bool true)) (t 55))),
 a 57 (.p (.mv (t 56))),
 c 58 (.p (.mv (t 6))) 57 false,
 a 59 (.p (.sel (t 57) (k (.bool true)) (t 58))),
 a 60 (.p (.mv (t 59))),
 c 61 (.p (.mv (t 4))) 60 false,
 c 62 (.p (.fld 1 (t 1))) 60 false,
 c 63 (.r (.load none (t 62))) 60 false,
 c 64 (.p (.bin .lss (t 61) (t 63))) 60 false,
 c 65 (.p (.mv (t 64))) 60 false,
 c 66 (.p (.fld 2 (t 5))) 65 true,
 c 67 (.r (.load none (t 66))) 65 true,
 c 68 (.p (.sel (t 65) (t 67) (k (.bool false)))) 60 false,
 a 69 (.p (.sel (t 60) (k (.bool true)) (t 68)))])
 (.cond (t 69)
 (.seq (.reg [a 2 (.p (.mv (k (.int .i64 60))))])
 .ret)
 .skip))
 (.reg [a 70 (.p (.mv (t 3))),
 a 71 (.p (.fld 0 (t 5))),
 a 72 (.r (.load none (t 71))),
 b (.e (.mset .str (t 70) (t 72) (k (.bool true))))])))))
 (.reg [a 73 (.p (.bin .add (t 35) (k (.int .i64 1)))),
 a 35 (.p (.mv (t 73)))])))))))
 (.seq (.reg [a 2 (.p (.mv (k (.int .i64 0))))])
 .ret))))), [.tmp 2]⟩
/-- stoa/merge.gather -/
def F_merge_gather : AFn := ⟨1, 49, (.seq (.reg [a 2 (.p (.mv (k .nslc))),
 a 3 (.p (.mv (k (.int .i64 0))))])
 (.seq (.reg [a 4 (.p (.mv (k .nslc)))])
 (.seq (.seq (.reg [a 9 (.p (.mv (t 0))),
 a 10 (.p (.len false (t 9))),
 a 11 (.p (.mv (k (.int .i64 0))))])
 (.block 0 (.loop (.seq (.reg [a 12 (.p (.bin .lss (t 11) (t 10)))])
 (.seq (.cond (t 12)
 .skip
 (.exit 0))
 (.seq (.block 1 (.seq (.reg [a 13 (.p (.idxS 1 (t 9) (t 11))),
 a 14 (.r (.load none (t 13))),
 a 6 (.p (.mv (t 14)))])
 (.seq (.reg [a 15 (.p (.mv (t 6))),
 a 16 (.p (.len false (t 15))),
 a 17 (.p (.mv (k (.int .i64 0))))])
 (.block 2 (.loop (.seq (.reg [a 18 (.p (.bin .lss (t 17) (t 16)))])
 (.seq (.cond (t 18)
 .skip
 (.exit 2))
 (.seq (.block 3 (.seq (.reg [a 19 (.p (.mv (t 17))),
 a 20 (.p (.idxS 2 (t 15) (t 17))),
 a 21 (.r (.load (some 2) (t 20))),
 a 8 (.n (.alloc [.nslc,.nslc])),
 a 7 (.p (.mv (t 19))),
 b (.e (.store 2 (t 8) (t 21)))])
 (.seq (.seq (.dreg [(a 22 (.p (.mv (t 7))), []),
 (a 23 (.p (.bin .gtr (t 22) (k (.int .i64 0)))), []),
 (a 24 (.p (.mv (t 23))), []),
 (c 25 (.p (.mv (t 6))) 24 true, []),
 (c 26 (.p (.mv (t 7))) 24 true, []),
 (c 27 (.p (.bin .sub (t 26) (k (.int .i64 1)))) 24 true, []),
 (c 28 (.p (.idxS 2 (t 25) (t 27))) 24 true, []),
 (c 29 (.r (.load (some 2) (t 28))) 24 true, []),
 (c 30 (.r (.load (some 2) (t 8))) 24 true, []),
 (c 31 (.call N_merge_byKey [(t 29),(t 30)]) 24 true, []),
 (c 32 (.p (.bin .geq (t 31) (k (.int .i64 0)))) 24 true, []),
 (a 33 (.p (.sel (t 24) (t 32) (k (.bool false)))), [])])
 (.cond (t 33)
 (.seq (.reg [a 2 (.p (.mv (k .nslc))),
 a 3 (.p (.mv (k (.int .i64 192))))])
 .ret)
 .skip))
 (.dreg [(a 34 (.p (.mv (t 4))), []),
 (a 35 (.p (.fld 0 (t 8))), []),
 (a 36 (.r (.load none (t 35))), []),
 (a 38 (.p (.fld 1 (t 8))), []),
 (a 39 (.r (.load none (t 38))), []),
 (a 37 (.call N_bytes_Clone [(t 36)]), [a 39 (.r (.load none (t 38)))]),
 (a 40 (.call N_merge_changes [(t 39)]), []),
 (a 41 (.p (.build [.nslc,.nslc] [(0,1,(t 37)),(1,1,(t 40))])), []),
 (a 42 (.n (.bslice 2 [.nslc,.nslc] 1 [(0,2,(t 41))])), []),
 (a 43 (.e (.append 2 48 (t 34) (t 42))), []),
 (a 4 (.p (.mv (t 43))), [])]))))
 (.reg [a 44 (.p (.bin .add (t 17) (k (.int .i64 1)))),
 a 17 (.p (.mv (t 44)))])))))))))
 (.reg [a 45 (.p (.bin .add (t 11) (k (.int .i64 1)))),
 a 11 (.p (.mv (t 45)))])))))))
 (.seq (.reg [a 46 (.p (.mv (t 4))),
 a 47 (.call N_slices_SortStableFunc_api_History_api_History [(t 46),(.func N_merge_byKey)])])
 (.seq (.reg [a 48 (.p (.mv (t 4))),
 a 2 (.p (.mv (t 48))),
 a 3 (.p (.mv (k (.int .i64 0))))])
 .ret))))), [.tmp 2,.tmp 3]⟩
/-- bytes.Equal -/
def F_bytes_Equal : AFn := ⟨2, 10, (.seq (.reg [a 4 (.p (.mv (k (.bool false))))])
 (.seq (.reg [a 5 (.p (.mv (t 0))),
 a 6 (.r (.b2s (t 5))),
 a 7 (.p (.mv (t 1))),
 a 8 (.r (.b2s (t 7))),
 a 9 (.p (.bin .eql (t 6) (t 8))),
 a 4 (.p (.mv (t 9)))])
 .ret)), [.tmp 4]⟩
/-- stoa/merge.right -/
def F_merge_right : AFn := ⟨2, 48, (.seq (.reg [a 2 (.n (.box (t 0))),
 a 4 (.p (.mv (k (.int .i64 0))))])
 (.seq (.reg [a 6 (.p (.mv (t 1))),
 a 7 (.p (.nilck (t 6))),
 a 8 (.p (.fld 1 (t 7))),
 a 9 (.r (.load none (t 8))),
 a 10 (.call N_slices_SortStableFunc_api_Change_api_Change [(t 9),(.func N_merge_byTime)])])
 (.seq (.seq (.reg [a 5 (.p (.mv (k (.int .i64 1))))])
 (.block 0 (.loop (.seq (.seq (.reg [a 11 (.p (.mv (t 5))),
 a 12 (.p (.mv (t 1))),
 a 13 (.p (.nilck (t 12))),
 a 14 (.p (.fld 1 (t 13))),
 a 15 (.r (.load none (t 14))),
 a 16 (.p (.len false (t 15))),
 a 17 (.p (.bin .lss (t 11) (t 16)))])
 (.cond (t 17)
 .skip
 (.exit 0)))
 (.seq (.block 1 (.seq (.dreg [(a 20 (.p (.mv (t 1))), []),
 (a 21 (.p (.nilck (t 20))), []),
 (a 22 (.p (.fld 1 (t 21))), []),
 (a 23 (.r (.load none (t 22))), []),
 (a 24 (.p (.mv (t 5))), []),
 (a 25 (.p (.bin .sub (t 24) (k (.int .i64 1)))), []),
 (a 26 (.p (.idxS 4 (t 23) (t 25))), []),
 (a 27 (.p (.fld 0 (t 26))), []),
 (a 28 (.r (.load none (t 27))), []),
 (a 29 (.p (.mv (t 1))), []),
 (a 30 (.p (.nilck (t 29))), []),
 (a 31 (.p (.fld 1 (t 30))), []),
 (a 32 (.r (.load none (t 31))), []),
 (a 33 (.p (.mv (t 5))), []),
 (a 34 (.p (.idxS 4 (t 32) (t 33))), []),
 (a 35 (.p (.fld 0 (t 34))), []),
 (a 36 (.r (.load none (t 35))), []),
 (a 37 (.p (.bin .eql (t 28) (t 36))), [])])
 (.cond (t 37)
 (.seq (.reg [a 4 (.p (.mv (k (.int .i64 192))))])
 .ret)
 .skip)))
 (.reg [a 18 (.p (.mv (t 5))),
 a 19 (.p (.bin .add (t 18) (k (.int .i64 1)))),
 a 5 (.p (.mv (t 19)))]))))))
 (.seq (.dreg [(a 38 (.r (.load (some 2) (t 2))), []),
 (a 39 (.p (.mv (t 1))), []),
 (a 40 (.p (.nilck (t 39))), []),
 (a 41 (.p (.fld 0 (t 40))), []),
 (a 42 (.r (.load none (t 41))), []),
 (a 43 (.p (.mv (t 1))), []),
 (a 44 (.p (.nilck (t 43))), []),
 (a 45 (.p (.fld 1 (t 44))), []),
 (a 46 (.r (.load none (t 45))), []),
 (a 47 (.call N_memstore_Chain [(t 38),(t 42),(t 46)]), []),
 (a 4 (.p (.mv (t 47))), [])])
 .ret)))), [.tmp 4]⟩
/-- bytes.Clone -/
def F_bytes_Clone : AFn := ⟨1, 8, (.seq (.reg [a 2 (.p (.mv (k .nslc)))])
 (.seq (.seq (.reg [a 3 (.p (.mv (t 0))),
 a 4 (.p (.eqk false .slice (t 3) (k .nslc)))])
 (.cond (t 4)
 (.seq (.reg [a 2 (.p (.mv (k .nslc)))])
 .ret)
 .skip))
 (.seq (.reg [a 5 (.n (.bslice 1 [] 0 [])),
 a 6 (.p (.mv (t 0))),
 a 7 (.e (.append 1 1 (t 5) (t 6))),
 a 2 (.p (.mv (t 7)))])
 .ret))), [.tmp 2]⟩
/-- stoa/memstore.State -/
def F_memstore_State : AFn := ⟨2, 61, (.seq (.reg [a 4 (.p (.mv (k .nslc))),
 a 5 (.p (.mv (k (.bool false))))])
 (.seq (.reg [a 6 (.p (.mv (k .nslc)))])
 (.seq (.reg [a 7 (.p (.mv (k (.bool false))))])
 (.seq (.seq (.reg [a 12 (.p (.mv (t 0))),
 a 13 (.p (.len false (t 12))),
 a 14 (.p (.mv (k (.int .i64 0))))])
 (.block 0 (.loop (.seq (.reg [a 15 (.p (.bin .lss (t 14) (t 13)))])
 (.seq (.cond (t 15)
 .skip
 (.exit 0))
 (.seq (.block 1 (.seq (.reg [a 16 (.p (.idxS 4 (t 12) (t 14))),
 a 17 (.r (.load (some 4) (t 16))),
 a 9 (.n (.alloc [(.int .i64 0),(.int .i64 0),.nslc,.nslc])),
 b (.e (.store 4 (t 9) (t 17)))])
 (.seq (.seq (.reg [a 18 (.p (.fld 0 (t 9))),
 a 19 (.r (.load none (t 18))),
 a 20 (.p (.mv (t 1))),
 a 21 (.p (.bin .gtr (t 19) (t 20)))])
 (.cond (t 21)
 (.exit 0)
 .skip))
 (.seq (.reg [a 22 (.p (.fld 1 (t 9))),
 a 23 (.r (.load none (t 22)))])
 (.block 2 (.seq (.reg [a 25 (.p (.bin .eql (t 23) (k (.int .i64 1)))),
 a 24 (.p (.mv (t 25)))])
 (.cond (t 24)
 (.reg [a 26 (.p (.fld 2 (t 9))),
 a 27 (.r (.load none (t 26))),
 a 28 (.call N_slices_Clone_api_Cell_api_Cell [(t 27)]),
 a 6 (.p (.mv (t 28))),
 a 7 (.p (.mv (k (.bool true))))])
 (.seq (.reg [a 30 (.p (.bin .eql (t 23) (k (.int .i64 2)))),
 a 29 (.p (.mv (t 30)))])
 (.cond (t 29)
 (.seq (.reg [a 31 (.p (.fld 3 (t 9))),
 a 32 (.r (.load none (t 31))),
 a 33 (.p (.len false (t 32))),
 a 34 (.p (.mv (k (.int .i64 0))))])
 (.block 3 (.loop (.seq (.reg [a 35 (.p (.bin .lss (t 34) (t 33)))])
 (.seq (.cond (t 35)
 .skip
 (.exit 3))
 (.seq (.block 4 (.seq (.reg [a 36 (.p (.idxS 4 (t 32) (t 34))),
 a 37 (.r (.load (some 4) (t 36))),
 a 11 (.n (.alloc [(.int .i64 0),(.bool false),(.int .i64 0),.nslc])),
 b (.e (.store 4 (t 11) (t 37)))])
 (.seq (.reg [a 38 (.p (.fld 0 (t 11))),
 a 39 (.r (.load none (t 38))),
 a 40 (.p (.bin .geq (t 39) (k (.int .i64 0)))),
 a 41 (.p (.mv (t 40))),
 c 42 (.p (.fld 0 (t 11))) 41 true,
 c 43 (.r (.load none (t 42))) 41 true,
 c 44 (.p (.mv (t 6))) 41 true,
 c 45 (.p (.len false (t 44))) 41 true,
 c 46 (.p (.bin .lss (t 43) (t 45))) 41 true,
 a 47 (.p (.sel (t 41) (t 46) (k (.bool false))))])
 (.cond (t 47)
 (.reg [a 48 (.p (.mv (t 6))),
 a 49 (.p (.fld 0 (t 11))),
 a 50 (.r (.load none (t 49))),
 a 51 (.p (.fld 1 (t 11))),
 a 52 (.r (.load (some 3) (t 51))),
 a 53 (.p (.idxS 3 (t 48) (t 50))),
 b (.e (.store 3 (t 53) (t 52)))])
 .skip))))
 (.reg [a 54 (.p (.bin .add (t 34) (k (.int .i64 1)))),
 a 34 (.p (.mv (t 54)))])))))))
 (.seq (.reg [a 56 (.p (.bin .eql (t 23) (k (.int .i64 3)))),
 a 55 (.p (.mv (t 56)))])
 (.cond (t 55)
 (.reg [a 6 (.p (.mv (k .nslc))),
 a 7 (.p (.mv (k (.bool false))))])
 .skip)))))))))))
 (.reg [a 57 (.p (.bin .add (t 14) (k (.int .i64 1)))),
 a 14 (.p (.mv (t 57)))])))))))
 (.seq (.reg [a 58 (.p (.mv (t 6))),
 a 59 (.call N_memstore_clone [(t 58)]),
 a 60 (.p (.mv (t 7))),
 a 4 (.p (.mv (t 59))),
 a 5 (.p (.mv (t 60)))])
 .ret))))), [.tmp 4,.tmp 5]⟩
/-- stoa/merge.clone -/
def F_merge_clone : AFn := ⟨1, 33, (.seq (.reg [a 1 (.n (.box (t 0))),
 a 2 (.n (.alloc [(.int .i64 0),(.int .i64 0),.nslc,.nslc]))])
 (.seq (.dreg [(a 5 (.p (.fld 2 (t 1))), []),
 (a 6 (.r (.load none (t 5))), []),
 (a 8 (.p (.fld 3 (t 1))), []),
 (a 9 (.r (.load none (t 8))), []),
 (a 7 (.call N_merge_cells [(t 6)]), [a 9 (.r (.load none (t 8)))]),
 (a 11 (.p (.fld 2 (t 1))), []),
 (a 10 (.call N_slices_Clone_api_Set_api_Set [(t 9)]), []),
 (b (.e (.store 1 (t 11) (t 7))), []),
 (a 12 (.p (.fld 3 (t 1))), []),
 (b (.e (.store 1 (t 12) (t 10))), [])])
 (.seq (.seq (.reg [a 13 (.p (.fld 3 (t 1))),
 a 14 (.r (.load none (t 13))),
 a 15 (.p (.len false (t 14))),
 a 16 (.p (.mv (k (.int .i64 0))))])
 (.block 0 (.loop (.seq (.reg [a 17 (.p (.bin .lss (t 16) (t 15)))])
 (.seq (.cond (t 17)
 .skip
 (.exit 0))
 (.seq (.block 1 (.seq (.reg [a 18 (.p (.mv (t 16))),
 a 19 (.p (.idxS 4 (t 14) (t 16))),
 a 20 (.r (.load (some 4) (t 19))),
 a 4 (.n (.alloc [(.int .i64 0),(.bool false),(.int .i64 0),.nslc])),
 a 3 (.p (.mv (t 18))),
 b (.e (.store 4 (t 4) (t 20)))])
 (.dreg [(a 21 (.p (.fld 3 (t 1))), []),
 (a 22 (.r (.load none (t 21))), []),
 (a 23 (.p (.mv (t 3))), []),
 (a 24 (.p (.fld 1 (t 4))), []),
 (a 25 (.p (.fld 2 (t 24))), []),
 (a 26 (.r (.load none (t 25))), []),
 (a 27 (.call N_bytes_Clone [(t 26)]), [a 22 (.r (.load none (t 21)))]),
 (a 28 (.p (.idxS 4 (t 22) (t 23))), []),
 (a 29 (.p (.fld 1 (t 28))), []),
 (a 30 (.p (.fld 2 (t 29))), []),
 (b (.e (.store 1 (t 30) (t 27))), [])])))
 (.reg [a 31 (.p (.bin .add (t 16) (k (.int .i64 1)))),
 a 16 (.p (.mv (t 31)))])))))))
 (.seq (.reg [a 32 (.r (.load (some 4) (t 1))),
 b (.e (.store 4 (t 2) (t 32)))])
 .ret)))), [.cell 2 (some 4)]⟩
/-- stoa/merge.inside -/
def F_merge_inside : AFn := ⟨3, 31, (.seq (.reg [a 6 (.p (.mv (k (.bool false))))])
 (.seq (.reg [a 9 (.p (.mv (t 1))),
 a 10 (.p (.len false (t 9))),
 a 11 (.p (.mv (t 2))),
 a 12 (.p (.len false (t 11))),
 a 13 (.p (.minmax false (t 10) [(t 12)])),
 a 7 (.p (.mv (t 13)))])
 (.seq (.seq (.reg [a 14 (.p (.mv (t 7))),
 a 15 (.p (.mv (k (.int .i64 0))))])
 (.block 0 (.loop (.seq (.reg [a 16 (.p (.bin .lss (t 15) (t 14)))])
 (.seq (.cond (t 16)
 .skip
 (.exit 0))
 (.seq (.block 1 (.seq (.reg [a 17 (.p (.mv (t 15))),
 a 8 (.p (.mv (t 17)))])
 (.seq (.dreg [(a 18 (.p (.mv (t 0))), []),
 (a 19 (.p (.mv (t 1))), []),
 (a 20 (.p (.mv (t 8))), []),
 (a 21 (.p (.idxS 1 (t 19) (t 20))), []),
 (a 22 (.r (.load none (t 21))), []),
 (a 23 (.p (.mv (t 2))), []),
 (a 24 (.p (.mv (t 8))), []),
 (a 25 (.p (.idxS 1 (t 23) (t 24))), []),
 (a 26 (.r (.load none (t 25))), []),
 (a 27 (.call N_keys_Within [(t 18),(t 22),(t 26)]), [])])
 (.cond (t 27)
 (.seq (.reg [a 6 (.p (.mv (k (.bool true))))])
 .ret)
 .skip))))
 (.reg [a 28 (.p (.bin .add (t 15) (k (.int .i64 1)))),
 a 15 (.p (.mv (t 28)))])))))))
 (.seq (.reg [a 29 (.p (.mv (t 7))),
 a 30 (.p (.bin .eql (t 29) (k (.int .i64 0)))),
 a 6 (.p (.mv (t 30)))])
 .ret)))), [.tmp 6]⟩
/-- slices.pdqsortCmpFunc(stoa/merge.span) -/
def F_slices_pdqsortCmpFunc_merge_span : AFn := ⟨5, 148, (.seq (.reg [a 10 (.p (.mv (k (.bool true))))])
 (.seq (.reg [a 11 (.p (.mv (k (.bool true))))])
 (.block 0 (.loop (.block 1 (.seq (.reg [a 21 (.p (.mv (t 2))),
 a 22 (.p (.mv (t 1))),
 a 23 (.p (.bin .sub (t 21) (t 22))),
 a 12 (.p (.mv (t 23)))])
 (.seq (.seq (.reg [a 24 (.p (.mv (t 12))),
 a 25 (.p (.bin .leq (t 24) (k (.int .i64 12))))])
 (.cond (t 25)
 (.seq (.reg [a 26 (.p (.mv (t 0))),
 a 27 (.p (.mv (t 1))),
 a 28 (.p (.mv (t 2))),
 a 29 (.p (.mv (t 4))),
 a 30 (.call N_slices_insertionSortCmpFunc_merge_span [(t 26),(t 27),(t 28),(t 29)])])
 .ret)
 .skip))
 (.seq (.seq (.reg [a 31 (.p (.mv (t 3))),
 a 32 (.p (.bin .eql (t 31) (k (.int .i64 0))))])
 (.cond (t 32)
 (.seq (.reg [a 33 (.p (.mv (t 0))),
 a 34 (.p (.mv (t 1))),
 a 35 (.p (.mv (t 2))),
 a 36 (.p (.mv (t 4))),
 a 37 (.call N_slices_heapSortCmpFunc_merge_span [(t 33),(t 34),(t 35),(t 36)])])
 .ret)
 .skip))
 (.seq (.seq (.reg [a 38 (.p (.mv (t 10))),
 a 39 (.p (.un .not (t 38)))])
 (.cond (t 39)
 (.seq (.reg [a 40 (.p (.mv (t 0))),
 a 41 (.p (.mv (t 1))),
 a 42 (.p (.mv (t 2))),
 a 43 (.p (.mv (t 4))),
 a 44 (.call N_slices_breakPatternsCmpFunc_merge_span [(t 40),(t 41),(t 42),(t 43)])])
 (.reg [a 45 (.p (.mv (t 3))),
 a 46 (.p (.bin .sub (t 45) (k (.int .i64 1)))),
 a 3 (.p (.mv (t 46)))]))
 .skip))
 (.seq (.reg [a 48 (.p (.mv (t 0))),
 a 49 (.p (.mv (t 1))),
 a 50 (.p (.mv (t 2))),
 a 51 (.p (.mv (t 4))),
 a 52 (.call N_slices_choosePivotCmpFunc_merge_span [(t 48),(t 49),(t 50),(t 51)]),
 a 47 (.p (.mv (t 52))),
 a 53 (.p (.extract (t 47) 0)),
 a 54 (.p (.extract (t 47) 1)),
 a 13 (.p (.mv (t 53))),
 a 14 (.p (.mv (t 54)))])
 (.seq (.seq (.reg [a 55 (.p (.mv (t 14))),
 a 56 (.p (.bin .eql (t 55) (k (.int .i64 2))))])
 (.cond (t 56)
 (.seq (.reg [a 57 (.p (.mv (t 0))),
 a 58 (.p (.mv (t 1))),
 a 59 (.p (.mv (t 2))),
 a 60 (.p (.mv (t 4))),
 a 61 (.call N_slices_reverseRangeCmpFunc_merge_span [(t 57),(t 58),(t 59),(t 60)])])
 (.seq (.reg [a 62 (.p (.mv (t 2))),
 a 63 (.p (.bin .sub (t 62) (k (.int .i64 1)))),
 a 64 (.p (.mv (t 13))),
 a 65 (.p (.mv (t 1))),
 a 66 (.p (.bin .sub (t 64) (t 65))),
 a 67 (.p (.bin .sub (t 63) (t 66))),
 a 13 (.p (.mv (t 67)))])
 (.reg [a 14 (.p (.mv (k (.int .i64 1))))])))
 .skip))
 (.seq (.seq (.reg [a 68 (.p (.mv (t 10))),
 a 69 (.p (.mv (t 68))),
 c 70 (.p (.mv (t 11))) 69 true,
 a 71 (.p (.sel (t 69) (t 70) (k (.bool false)))),
 a 72 (.p (.mv (t 71))),
 c 73 (.p (.mv (t 14))) 72 true,
 c 74 (.p (.bin .eql (t 73) (k (.int .i64 1)))) 72 true,
 a 75 (.p (.sel (t 72) (t 74) (k (.bool false))))])
 (.cond (t 75)
 (.seq (.reg [a 76 (.p (.mv (t 0))),
 a 77 (.p (.mv (t 1))),
 a 78 (.p (.mv (t 2))),
 a 79 (.p (.mv (t 4))),
 a 80 (.call N_slices_partialInsertionSortCmpFunc_merge_span [(t 76),(t 77),(t 78),(t 79)])])
 (.cond (t 80)
 .ret
 .skip))
 .skip))
 (.seq (.seq (.dreg [(a 81 (.p (.mv (t 1))), []),
 (a 82 (.p (.bin .gtr (t 81) (k (.int .i64 0)))), []),
 (a 83 (.p (.mv (t 82))), []),
 (c 84 (.p (.mv (t 4))) 83 true, []),
 (c 85 (.p (.mv (t 0))) 83 true, []),
 (c 86 (.p (.mv (t 1))) 83 true, []),
 (c 87 (.p (.bin .sub (t 86) (k (.int .i64 1)))) 83 true, []),
 (c 88 (.p (.idxS 2 (t 85) (t 87))) 83 true, []),
 (c 89 (.r (.load (some 2) (t 88))) 83 true, []),
 (c 90 (.p (.mv (t 0))) 83 true, []),
 (c 91 (.p (.mv (t 13))) 83 true, []),
 (c 92 (.p (.idxS 2 (t 90) (t 91))) 83 true, []),
 (c 93 (.r (.load (some 2) (t 92))) 83 true, []),
 (c 94 (.callv (t 84) [(t 89),(t 93)]) 83 true, []),
 (c 95 (.p (.bin .lss (t 94) (k (.int .i64 0)))) 83 true, []),
 (c 96 (.p (.un .not (t 95))) 83 true, []),
 (a 97 (.p (.sel (t 83) (t 96) (k (.bool false)))), [])])
 (.cond (t 97)
 (.seq (.reg [a 98 (.p (.mv (t 0))),
 a 99 (.p (.mv (t 1))),
 a 100 (.p (.mv (t 2))),
 a 101 (.p (.mv (t 13))),
 a 102 (.p (.mv (t 4))),
 a 103 (.call N_slices_partitionEqualCmpFunc_merge_span [(t 98),(t 99),(t 100),(t 101),(t 102)]),
 a 15 (.p (.mv (t 103)))])
 (.seq (.reg [a 104 (.p (.mv (t 15))),
 a 1 (.p (.mv (t 104)))])
 (.exit 1)))
 .skip))
 (.seq (.reg [a 106 (.p (.mv (t 0))),
 a 107 (.p (.mv (t 1))),
 a 108 (.p (.mv (t 2))),
 a 109 (.p (.mv (t 13))),
 a 110 (.p (.mv (t 4))),
 a 111 (.call N_slices_partitionCmpFunc_merge_span [(t 106),(t 107),(t 108),(t 109),(t 110)]),
 a 105 (.p (.mv (t 111))),
 a 112 (.p (.extract (t 105) 0)),
 a 113 (.p (.extract (t 105) 1)),
 a 16 (.p (.mv (t 112))),
 a 17 (.p (.mv (t 113)))])
 (.seq (.reg [a 114 (.p (.mv (t 17))),
 a 11 (.p (.mv (t 114)))])
 (.seq (.reg [a 115 (.p (.mv (t 16))),
 a 116 (.p (.mv (t 1))),
 a 117 (.p (.bin .sub (t 115) (t 116))),
 a 118 (.p (.mv (t 2))),
 a 119 (.p (.mv (t 16))),
 a 120 (.p (.bin .sub (t 118) (t 119))),
 a 18 (.p (.mv (t 117))),
 a 19 (.p (.mv (t 120)))])
 (.seq (.reg [a 121 (.p (.mv (t 12))),
 a 122 (.p (.bin .quo (t 121) (k (.int .i64 8)))),
 a 20 (.p (.mv (t 122)))])
 (.seq (.reg [a 123 (.p (.mv (t 18))),
 a 124 (.p (.mv (t 19))),
 a 125 (.p (.bin .lss (t 123) (t 124)))])
 (.cond (t 125)
 (.seq (.reg [a 126 (.p (.mv (t 18))),
 a 127 (.p (.mv (t 20))),
 a 128 (.p (.bin .geq (t 126) (t 127))),
 a 10 (.p (.mv (t 128)))])
 (.seq (.reg [a 129 (.p (.mv (t 0))),
 a 130 (.p (.mv (t 1))),
 a 131 (.p (.mv (t 16))),
 a 132 (.p (.mv (t 3))),
 a 133 (.p (.mv (t 4))),
 a 134 (.call N_slices_pdqsortCmpFunc_merge_span [(t 129),(t 130),(t 131),(t 132),(t 133)])])
 (.reg [a 135 (.p (.mv (t 16))),
 a 136 (.p (.bin .add (t 135) (k (.int .i64 1)))),
 a 1 (.p (.mv (t 136)))])))
 (.seq (.reg [a 137 (.p (.mv (t 19))),
 a 138 (.p (.mv (t 20))),
 a 139 (.p (.bin .geq (t 137) (t 138))),
 a 10 (.p (.mv (t 139)))])
 (.seq (.reg [a 140 (.p (.mv (t 0))),
 a 141 (.p (.mv (t 16))),
 a 142 (.p (.bin .add (t 141) (k (.int .i64 1)))),
 a 143 (.p (.mv (t 2))),
 a 144 (.p (.mv (t 3))),
 a 145 (.p (.mv (t 4))),
 a 146 (.call N_slices_pdqsortCmpFunc_merge_span [(t 140),(t 142),(t 143),(t 144),(t 145)])])
 (.reg [a 147 (.p (.mv (t 16))),
 a 2 (.p (.mv (t 147)))])))))))))))))))))))))), []⟩
/-- math/bits.Len -/
def F_math_bits_Len : AFn := ⟨1, 8, (.seq (.reg [a 2 (.p (.mv (k (.int .i64 0))))])
 (.seq (.cond (k (.bool false))
 (.seq (.reg [a 3 (.p (.mv (t 0))),
 a 4 (.p (.conv .u32 (t 3))),
 a 5 (.call N_math_bits_Len32 [(t 4)]),
 a 2 (.p (.mv (t 5)))])
 .ret)
 .skip)
 (.seq (.reg [a 6 (.p (.mv (t 0))),
 a 7 (.call N_math_bits_Len64 [(t 6)]),
 a 2 (.p (.mv (t 7)))])
 .ret))), [.tmp 2]⟩
/-- cmp.isNaN(int) -/
def F_cmp_isNaN_int : AFn := ⟨1, 6, (.seq (.reg [a 2 (.p (.mv (k (.bool false))))])
 (.seq (.reg [a 3 (.p (.mv (t 0))),
 a 4 (.p (.mv (t 0))),
 a 5 (.p (.bin .neq (t 3) (t 4))),
 a 2 (.p (.mv (t 5)))])
 .ret)), [.tmp 2]⟩
/-- slices.pdqsortOrdered(int) -/
def F_slices_pdqsortOrdered_int : AFn := ⟨4, 134, (.seq (.reg [a 8 (.p (.mv (k (.bool true))))])
 (.seq (.reg [a 9 (.p (.mv (k (.bool true))))])
 (.block 0 (.loop (.block 1 (.seq (.reg [a 19 (.p (.mv (t 2))),
 a 20 (.p (.mv (t 1))),
 a 21 (.p (.bin .sub (t 19) (t 20))),
 a 10 (.p (.mv (t 21)))])
 (.seq (.seq (.reg [a 22 (.p (.mv (t 10))),
 a 23 (.p (.bin .leq (t 22) (k (.int .i64 12))))])
 (.cond (t 23)
 (.seq (.reg [a 24 (.p (.mv (t 0))),
 a 25 (.p (.mv (t 1))),
 a 26 (.p (.mv (t 2))),
 a 27 (.call N_slices_insertionSortOrdered_int [(t 24),(t 25),(t 26)])])
 .ret)
 .skip))
 (.seq (.seq (.reg [a 28 (.p (.mv (t 3))),
 a 29 (.p (.bin .eql (t 28) (k (.int .i64 0))))])
 (.cond (t 29)
 (.seq (.reg [a 30 (.p (.mv (t 0))),
 a 31 (.p (.mv (t 1))),
 a 32 (.p (.mv (t 2))),
 a 33 (.call N_slices_heapSortOrdered_int [(t 30),(t 31),(t 32)])])
 .ret)
 .skip))
 (.seq (.seq (.reg [a 34 (.p (.mv (t 8))),
 a 35 (.p (.un .not (t 34)))])
 (.cond (t 35)
 (.seq (.reg [a 36 (.p (.mv (t 0))),
 a 37 (.p (.mv (t 1))),
 a 38 (.p (.mv (t 2))),
 a 39 (.call N_slices_breakPatternsOrdered_int [(t 36),(t 37),(t 38)])])
 (.reg [a 40 (.p (.mv (t 3))),
 a 41 (.p (.bin .sub (t 40) (k (.int .i64 1)))),
 a 3 (.p (.mv (t 41)))]))
 .skip))
 (.seq (.reg [a 43 (.p (.mv (t 0))),
 a 44 (.p (.mv (t 1))),
 a 45 (.p (.mv (t 2))),
 a 46 (.call N_slices_choosePivotOrdered_int [(t 43),(t 44),(t 45)]),
 a 42 (.p (.mv (t 46))),
 a 47 (.p (.extract (t 42) 0)),
 a 48 (.p (.extract (t 42) 1)),
 a 11 (.p (.mv (t 47))),
 a 12 (.p (.mv (t 48)))])
 (.seq (.seq (.reg [a 49 (.p (.mv (t 12))),
 a 50 (.p (.bin .eql (t 49) (k (.int .i64 2))))])
 (.cond (t 50)
 (.seq (.reg [a 51 (.p (.mv (t 0))),
 a 52 (.p (.mv (t 1))),
 a 53 (.p (.mv (t 2))),
 a 54 (.call N_slices_reverseRangeOrdered_int [(t 51),(t 52),(t 53)])])
 (.seq (.reg [a 55 (.p (.mv (t 2))),
 a 56 (.p (.bin .sub (t 55) (k (.int .i64 1)))),
 a 57 (.p (.mv (t 11))),
 a 58 (.p (.mv (t 1))),
 a 59 (.p (.bin .sub (t 57) (t 58))),
 a 60 (.p (.bin .sub (t 56) (t 59))),
 a 11 (.p (.mv (t 60)))])
 (.reg [a 12 (.p (.mv (k (.int .i64 1))))])))
 .skip))
 (.seq (.seq (.reg [a 61 (.p (.mv (t 8))),
 a 62 (.p (.mv (t 61))),
 c 63 (.p (.mv (t 9))) 62 true,
 a 64 (.p (.sel (t 62) (t 63) (k (.bool false)))),
 a 65 (.p (.mv (t 64))),
 c 66 (.p (.mv (t 12))) 65 true,
 c 67 (.p (.bin .eql (t 66) (k (.int .i64 1)))) 65 true,
 a 68 (.p (.sel (t 65) (t 67) (k (.bool false))))])
 (.cond (t 68)
 (.seq (.reg [a 69 (.p (.mv (t 0))),
 a 70 (.p (.mv (t 1))),
 a 71 (.p (.mv (t 2))),
 a 72 (.call N_slices_partialInsertionSortOrdered_int [(t 69),(t 70),(t 71)])])
 (.cond (t 72)
 .ret
 .skip))
 .skip))
 (.seq (.seq (.dreg [(a 73 (.p (.mv (t 1))), []),
 (a 74 (.p (.bin .gtr (t 73) (k (.int .i64 0)))), []),
 (a 75 (.p (.mv (t 74))), []),
 (c 76 (.p (.mv (t 0))) 75 true, []),
 (c 77 (.p (.mv (t 1))) 75 true, []),
 (c 78 (.p (.bin .sub (t 77) (k (.int .i64 1)))) 75 true, []),
 (c 79 (.p (.idxS 1 (t 76) (t 78))) 75 true, []),
 (c 80 (.r (.load none (t 79))) 75 true, []),
 (c 81 (.p (.mv (t 0))) 75 true, []),
 (c 82 (.p (.mv (t 11))) 75 true, []),
 (c 83 (.p (.idxS 1 (t 81) (t 82))) 75 true, []),
 (c 84 (.r (.load none (t 83))) 75 true, []),
 (c 85 (.call N_cmp_Less_int [(t 80),(t 84)]) 75 true, []),
 (c 86 (.p (.un .not (t 85))) 75 true, []),
 (a 87 (.p (.sel (t 75) (t 86) (k (.bool false)))), [])])
 (.cond (t 87)
 (.seq (.reg [a 88 (.p (.mv (t 0))),
 a 89 (.p (.mv (t 1))),
 a 90 (.p (.mv (t 2))),
 a 91 (.p (.mv (t 11))),
 a 92 (.call N_slices_partitionEqualOrdered_int [(t 88),(t 89),(t 90),(t 91)]),
 a 13 (.p (.mv (t 92)))])
 (.seq (.reg [a 93 (.p (.mv (t 13))),
 a 1 (.p (.mv (t 93)))])
 (.exit 1)))
 .skip))
 (.seq (.reg [a 95 (.p (.mv (t 0))),
 a 96 (.p (.mv (t 1))),
 a 97 (.p (.mv (t 2))),
 a 98 (.p (.mv (t 11))),
 a 99 (.call N_slices_partitionOrdered_int [(t 95),(t 96),(t 97),(t 98)]),
 a 94 (.p (.mv (t 99))),
 a 100 (.p (.extract (t 94) 0)),
 a 101 (.p (.extract (t 94) 1)),
 a 14 (.p (.mv (t 100))),
 a 15 (.p (.mv (t 101)))])
 (.seq (.reg [a 102 (.p (.mv (t 15))),
 a 9 (.p (.mv (t 102)))])
 (.seq (.reg [a 103 (.p (.mv (t 14))),
 a 104 (.p (.mv (t 1))),
 a 105 (.p (.bin .sub (t 103) (t 104))),
 a 106 (.p (.mv (t 2))),
 a 107 (.p (.mv (t 14))),
 a 108 (.p (.bin .sub (t 106) (t 107))),
 a 16 (.p (.mv (t 105))),
 a 17 (.p (.mv (t 108)))])
 (.seq (.reg [a 109 (.p (.mv (t 10))),
 a 110 (.p (.bin .quo (t 109) (k (.int .i64 8)))),
 a 18 (.p (.mv (t 110)))])
 (.seq (.reg [a 111 (.p (.mv (t 16))),
 a 112 (.p (.mv (t 17))),
 a 113 (.p (.bin .lss (t 111) (t 112)))])
 (.cond (t 113)
 (.seq (.reg [a 114 (.p (.mv (t 16))),
 a 115 (.p (.mv (t 18))),
 a 116 (.p (.bin .geq (t 114) (t 115))),
 a 8 (.p (.mv (t 116)))])
 (.seq (.reg [a 117 (.p (.mv (t 0))),
 a 118 (.p (.mv (t 1))),
 a 119 (.p (.mv (t 14))),
 a 120 (.p (.mv (t 3))),
 a 121 (.call N_slices_pdqsortOrdered_int [(t 117),(t 118),(t 119),(t 120)])])
 (.reg [a 122 (.p (.mv (t 14))),
 a 123 (.p (.bin .add (t 122) (k (.int .i64 1)))),
 a 1 (.p (.mv (t 123)))])))
 (.seq (.reg [a 124 (.p (.mv (t 17))),
 a 125 (.p (.mv (t 18))),
 a 126 (.p (.bin .geq (t 124) (t 125))),
 a 8 (.p (.mv (t 126)))])
 (.seq (.reg [a 127 (.p (.mv (t 0))),
 a 128 (.p (.mv (t 14))),
 a 129 (.p (.bin .add (t 128) (k (.int .i64 1)))),
 a 130 (.p (.mv (t 2))),
 a 131 (.p (.mv (t 3))),
 a 132 (.call N_slices_pdqsortOrdered_int [(t 127),(t 129),(t 130),(t 131)])])
 (.reg [a 133 (.p (.mv (t 14))),
 a 2 (.p (.mv (t 133)))])))))))))))))))))))))), []⟩
/-- stoa/stoaref06.Check -/
def F_stoaref06_Check : AFn := ⟨1, 84, (.seq (.reg [a 1 (.n (.box (t 0))),
 a 2 (.p (.mv (k (.int .i64 0))))])
 (.seq (.seq (.reg [a 6 (.p (.fld 0 (t 1))),
 a 7 (.r (.load none (t 6))),
 a 8 (.p (.len false (t 7))),
 a 9 (.p (.bin .lss (t 8) (k (.int .i64 1)))),
 a 10 (.p (.mv (t 9))),
 c 11 (.p (.fld 0 (t 1))) 10 false,
 c 12 (.r (.load none (t 11))) 10 false,
 c 13 (.p (.len false (t 12))) 10 false,
 c 14 (.p (.bin .gtr (t 13) (k (.int .i64 12)))) 10 false,
 a 15 (.p (.sel (t 10) (k (.bool true)) (t 14))),
 a 16 (.p (.mv (t 15))),
 c 17 (.p (.fld 1 (t 1))) 16 false,
 c 18 (.r (.load none (t 17))) 16 false,
 c 19 (.p (.bin .lss (t 18) (k (.int .i64 1)))) 16 false,
 a 20 (.p (.sel (t 16) (k (.bool true)) (t 19))),
 a 21 (.p (.mv (t 20))),
 c 22 (.p (.fld 1 (t 1))) 21 false,
 c 23 (.r (.load none (t 22))) 21 false,
 c 24 (.p (.bin .gtr (t 23) (k (.int .i64 3)))) 21 false,
 a 25 (.p (.sel (t 21) (k (.bool true)) (t 24))),
 a 26 (.p (.mv (t 25))),
 c 27 (.p (.fld 1 (t 1))) 26 false,
 c 28 (.r (.load none (t 27))) 26 false,
 c 29 (.p (.fld 0 (t 1))) 26 false,
 c 30 (.r (.load none (t 29))) 26 false,
 c 31 (.p (.len false (t 30))) 26 false,
 c 32 (.p (.bin .gtr (t 28) (t 31))) 26 false,
 a 33 (.p (.sel (t 26) (k (.bool true)) (t 32)))])
 (.cond (t 33)
 (.seq (.reg [a 2 (.p (.mv (k (.int .i64 60))))])
 .ret)
 .skip))
 (.seq (.seq (.reg [a 3 (.p (.mv (k (.int .i64 0))))])
 (.block 0 (.loop (.seq (.seq (.reg [a 34 (.p (.mv (t 3))),
 a 35 (.p (.fld 0 (t 1))),
 a 36 (.r (.load none (t 35))),
 a 37 (.p (.len false (t 36))),
 a 38 (.p (.bin .lss (t 34) (t 37)))])
 (.cond (t 38)
 .skip
 (.exit 0)))
 (.seq (.block 1 (.seq (.reg [a 41 (.p (.fld 0 (t 1))),
 a 42 (.r (.load none (t 41))),
 a 43 (.p (.mv (t 3))),
 a 44 (.p (.idxS 3 (t 42) (t 43))),
 a 45 (.r (.load (some 3) (t 44))),
 a 4 (.n (.alloc [(.str []),(.int .i64 0),(.bool false)])),
 b (.e (.store 3 (t 4) (t 45)))])
 (.seq (.seq (.reg [a 46 (.p (.fld 0 (t 4))),
 a 47 (.r (.load none (t 46))),
 a 48 (.call N_stoaref06_name [(t 47)]),
 a 49 (.p (.un .not (t 48))),
 a 50 (.p (.mv (t 49))),
 c 51 (.p (.fld 1 (t 4))) 50 false,
 c 52 (.r (.load none (t 51))) 50 false,
 c 53 (.p (.bin .lss (t 52) (k (.int .i64 1)))) 50 false,
 a 54 (.p (.sel (t 50) (k (.bool true)) (t 53))),
 a 55 (.p (.mv (t 54))),
 c 56 (.p (.fld 1 (t 4))) 55 false,
 c 57 (.r (.load none (t 56))) 55 false,
 c 58 (.p (.bin .gtr (t 57) (k (.int .i64 8)))) 55 false,
 a 59 (.p (.sel (t 55) (k (.bool true)) (t 58))),
 a 60 (.p (.mv (t 59))),
 c 61 (.p (.mv (t 3))) 60 false,
 c 62 (.p (.fld 1 (t 1))) 60 false,
 c 63 (.r (.load none (t 62))) 60 false,
 c 64 (.p (.bin .lss (t 61) (t 63))) 60 false,
 c 65 (.p (.mv (t 64))) 60 false,
 c 66 (.p (.fld 2 (t 4))) 65 true,
 c 67 (.r (.load none (t 66))) 65 true,
 c 68 (.p (.sel (t 65) (t 67) (k (.bool false)))) 60 false,
 a 69 (.p (.sel (t 60) (k (.bool true)) (t 68)))])
 (.cond (t 69)
 (.seq (.reg [a 2 (.p (.mv (k (.int .i64 60))))])
 .ret)
 .skip))
 (.seq (.reg [a 5 (.p (.mv (k (.int .i64 0))))])
 (.block 2 (.loop (.seq (.seq (.reg [a 70 (.p (.mv (t 5))),
 a 71 (.p (.mv (t 3))),
 a 72 (.p (.bin .lss (t 70) (t 71)))])
 (.cond (t 72)
 .skip
 (.exit 2)))
 (.seq (.block 3 (.seq (.dreg [(a 75 (.p (.fld 0 (t 1))), []),
 (a 76 (.r (.load none (t 75))), []),
 (a 77 (.p (.mv (t 5))), []),
 (a 78 (.p (.idxS 3 (t 76) (t 77))), []),
 (a 79 (.p (.fld 0 (t 78))), []),
 (a 80 (.r (.load none (t 79))), []),
 (a 81 (.p (.fld 0 (t 4))), []),
 (a 82 (.r (.load none (t 81))), []),
 (a 83 (.p (.bin .eql (t 80) (t 82))), [])])
 (.cond (t 83)
 (.seq (.reg [a 2 (.p (.mv (k (.int .i64 60))))])
 .ret)
 .skip)))
 (.reg [a 73 (.p (.mv (t 5))),
 a 74 (.p (.bin .add (t 73) (k (.int .i64 1)))),
 a 5 (.p (.mv (t 74)))])))))))))
 (.reg [a 39 (.p (.mv (t 3))),
 a 40 (.p (.bin .add (t 39) (k (.int .i64 1)))),
 a 3 (.p (.mv (t 40)))]))))))
 (.seq (.reg [a 2 (.p (.mv (k (.int .i64 0))))])
 .ret)))), [.tmp 2]⟩
/-- stoa/stoaref05.Check -/
def F_stoaref05_Check : AFn := ⟨3, 58, (.seq (.reg [a 5 (.n (.box (t 2))),
 a 6 (.p (.mv (k (.int .i64 0))))])
 (.seq (.seq (.reg [a 7 (.p (.mv (t 0))),
 a 8 (.p (.bin .lss (t 7) (k (.int .i64 1)))),
 a 9 (.p (.mv (t 8))),
 c 10 (.p (.mv (t 0))) 9 false,
 c 11 (.p (.bin .gtr (t 10) (k (.int .i64 8)))) 9 false,
 a 12 (.p (.sel (t 9) (k (.bool true)) (t 11)))])
 (.cond (t 12)
 (.seq (.reg [a 6 (.p (.mv (k (.int .i64 1))))])
 .ret)
 .skip))
 (.seq (.seq (.reg [a 13 (.p (.fld 0 (t 5))),
 a 14 (.r (.load none (t 13)))])
 (.cond (t 14)
 (.seq (.seq (.reg [a 15 (.p (.mv (t 1))),
 a 16 (.p (.un .not (t 15)))])
 (.cond (t 16)
 (.seq (.reg [a 6 (.p (.mv (k (.int .i64 51))))])
 .ret)
 .skip))
 (.seq (.seq (.reg [a 17 (.p (.fld 1 (t 5))),
 a 18 (.r (.load none (t 17))),
 a 19 (.p (.bin .neq (t 18) (k (.int .i64 0)))),
 a 20 (.p (.mv (t 19))),
 c 21 (.p (.fld 2 (t 5))) 20 false,
 c 22 (.r (.load none (t 21))) 20 false,
 c 23 (.p (.len false (t 22))) 20 false,
 c 24 (.p (.bin .gtr (t 23) (k (.int .i64 0)))) 20 false,
 a 25 (.p (.sel (t 20) (k (.bool true)) (t 24)))])
 (.cond (t 25)
 (.seq (.reg [a 6 (.p (.mv (k (.int .i64 50))))])
 .ret)
 .skip))
 (.seq (.reg [a 6 (.p (.mv (k (.int .i64 0))))])
 .ret)))
 .skip))
 (.seq (.seq (.reg [a 26 (.p (.mv (t 0))),
 a 27 (.p (.bin .leq (t 26) (k (.int .i64 6))))])
 (.cond (t 27)
 (.seq (.seq (.reg [a 28 (.p (.fld 2 (t 5))),
 a 29 (.r (.load none (t 28))),
 a 30 (.p (.len false (t 29))),
 a 31 (.p (.bin .gtr (t 30) (k (.int .i64 0))))])
 (.cond (t 31)
 (.seq (.reg [a 6 (.p (.mv (k (.int .i64 50))))])
 .ret)
 .skip))
 (.seq (.seq (.dreg [(a 32 (.p (.fld 1 (t 5))), []),
 (a 33 (.r (.load none (t 32))), []),
 (a 34 (.p (.mv (t 0))), []),
 (a 35 (.call N_stoaref05_Least [(t 34)]), [a 33 (.r (.load none (t 32)))]),
 (a 36 (.p (.bin .lss (t 33) (t 35))), []),
 (a 37 (.p (.mv (t 36))), []),
 (c 38 (.p (.fld 1 (t 5))) 37 false, []),
 (c 39 (.r (.load none (t 38))) 37 false, []),
 (c 40 (.p (.mv (t 0))) 37 false, []),
 (c 41 (.call N_stoaref05_Greatest [(t 40)]) 37 false, [c 39 (.r (.load none (t 38))) 37 false]),
 (c 42 (.p (.bin .gtr (t 39) (t 41))) 37 false, []),
 (a 43 (.p (.sel (t 37) (k (.bool true)) (t 42))), [])])
 (.cond (t 43)
 (.seq (.reg [a 6 (.p (.mv (k (.int .i64 52))))])
 .ret)
 .skip))
 (.seq (.reg [a 6 (.p (.mv (k (.int .i64 0))))])
 .ret)))
 .skip))
 (.seq (.seq (.reg [a 44 (.p (.fld 1 (t 5))),
 a 45 (.r (.load none (t 44))),
 a 46 (.p (.bin .neq (t 45) (k (.int .i64 0))))])
 (.cond (t 46)
 (.seq (.reg [a 6 (.p (.mv (k (.int .i64 50))))])
 .ret)
 .skip))
 (.seq (.seq (.reg [a 47 (.p (.fld 2 (t 5))),
 a 48 (.r (.load none (t 47))),
 a 49 (.p (.len false (t 48))),
 a 50 (.p (.bin .gtr (t 49) (k (.int .i64 200))))])
 (.cond (t 50)
 (.seq (.reg [a 6 (.p (.mv (k (.int .i64 4))))])
 .ret)
 .skip))
 (.seq (.seq (.reg [a 51 (.p (.mv (t 0))),
 a 52 (.p (.bin .eql (t 51) (k (.int .i64 7)))),
 a 53 (.p (.mv (t 52))),
 c 54 (.p (.fld 2 (t 5))) 53 true,
 c 55 (.r (.load none (t 54))) 53 true,
 c 56 (.call N_stoaref05_Zero [(t 55)]) 53 true,
 a 57 (.p (.sel (t 53) (t 56) (k (.bool false))))])
 (.cond (t 57)
 (.seq (.reg [a 6 (.p (.mv (k (.int .i64 5))))])
 .ret)
 .skip))
 (.seq (.reg [a 6 (.p (.mv (k (.int .i64 0))))])
 .ret)))))))), [.tmp 6]⟩
/-- stoa/stoaref01.Cat -/
def F_stoaref01_Cat : AFn := ⟨2, 36, (.seq (.reg [a 4 (.p (.mv (k .nslc)))])
 (.seq (.reg [a 8 (.n (.bslice 1 [] 0 [])),
 a 5 (.p (.mv (t 8)))])
 (.seq (.seq (.reg [a 6 (.p (.mv (k (.int .i64 0))))])
 (.block 0 (.loop (.seq (.seq (.reg [a 9 (.p (.mv (t 6))),
 a 10 (.p (.mv (t 0))),
 a 11 (.p (.len false (t 10))),
 a 12 (.p (.bin .lss (t 9) (t 11)))])
 (.cond (t 12)
 .skip
 (.exit 0)))
 (.seq (.block 1 (.reg [a 15 (.p (.mv (t 5))),
 a 16 (.p (.mv (t 0))),
 a 17 (.p (.mv (t 6))),
 a 18 (.p (.idxS 1 (t 16) (t 17))),
 a 19 (.r (.load none (t 18))),
 a 20 (.n (.bslice 1 [(.int .u8 0)] 1 [(0,1,(t 19))])),
 a 21 (.e (.append 1 1 (t 15) (t 20))),
 a 5 (.p (.mv (t 21)))]))
 (.reg [a 13 (.p (.mv (t 6))),
 a 14 (.p (.bin .add (t 13) (k (.int .i64 1)))),
 a 6 (.p (.mv (t 14)))]))))))
 (.seq (.seq (.reg [a 7 (.p (.mv (k (.int .i64 0))))])
 (.block 2 (.loop (.seq (.seq (.reg [a 22 (.p (.mv (t 7))),
 a 23 (.p (.mv (t 1))),
 a 24 (.p (.len false (t 23))),
 a 25 (.p (.bin .lss (t 22) (t 24)))])
 (.cond (t 25)
 .skip
 (.exit 2)))
 (.seq (.block 3 (.reg [a 28 (.p (.mv (t 5))),
 a 29 (.p (.mv (t 1))),
 a 30 (.p (.mv (t 7))),
 a 31 (.p (.idxS 1 (t 29) (t 30))),
 a 32 (.r (.load none (t 31))),
 a 33 (.n (.bslice 1 [(.int .u8 0)] 1 [(0,1,(t 32))])),
 a 34 (.e (.append 1 1 (t 28) (t 33))),
 a 5 (.p (.mv (t 34)))]))
 (.reg [a 26 (.p (.mv (t 7))),
 a 27 (.p (.bin .add (t 26) (k (.int .i64 1)))),
 a 7 (.p (.mv (t 27)))]))))))
 (.seq (.reg [a 35 (.p (.mv (t 5))),
 a 4 (.p (.mv (t 35)))])
 .ret))))), [.tmp 4]⟩
/-- stoa/stoaref07.put -/
def F_stoaref07_put : AFn := ⟨2, 81, (.seq (.reg [a 3 (.n (.box (t 1))),
 a 4 (.p (.mv (k .nslc)))])
 (.seq (.reg [a 10 (.n (.bslice 1 [] 0 [])),
 a 5 (.p (.mv (t 10)))])
 (.seq (.seq (.reg [a 11 (.p (.mv (t 0))),
 a 12 (.p (.bin .leq (t 11) (k (.int .i64 6))))])
 (.cond (t 12)
 (.seq (.reg [a 13 (.p (.fld 1 (t 3))),
 a 14 (.r (.load none (t 13))),
 a 15 (.p (.conv .u64 (t 14))),
 a 6 (.p (.mv (t 15)))])
 (.seq (.seq (.reg [a 16 (.p (.mv (t 0))),
 a 17 (.p (.bin .leq (t 16) (k (.int .i64 4))))])
 (.cond (t 17)
 (.dreg [(a 18 (.p (.fld 1 (t 3))), []),
 (a 19 (.r (.load none (t 18))), []),
 (a 20 (.p (.conv .u64 (t 19))), []),
 (a 21 (.p (.mv (t 0))), []),
 (a 22 (.call N_stoaref05_Least [(t 21)]), [a 19 (.r (.load none (t 18)))]),
 (a 23 (.p (.conv .u64 (t 22))), []),
 (a 24 (.p (.bin .sub (t 20) (t 23))), []),
 (a 6 (.p (.mv (t 24))), [])])
 .skip))
 (.seq (.reg [a 25 (.p (.mv (t 6))),
 a 26 (.p (.mv (t 0))),
 a 27 (.call N_stoaref07_size [(t 26)]),
 a 28 (.call N_stoaref01_Low [(t 25),(t 27)]),
 a 7 (.p (.mv (t 28)))])
 (.seq (.seq (.reg [a 29 (.p (.mv (t 7))),
 a 30 (.p (.len false (t 29))),
 a 31 (.p (.bin .sub (t 30) (k (.int .i64 1)))),
 a 8 (.p (.mv (t 31)))])
 (.block 0 (.loop (.seq (.seq (.reg [a 32 (.p (.mv (t 8))),
 a 33 (.p (.bin .geq (t 32) (k (.int .i64 0))))])
 (.cond (t 33)
 .skip
 (.exit 0)))
 (.seq (.block 1 (.reg [a 36 (.p (.mv (t 5))),
 a 37 (.p (.mv (t 7))),
 a 38 (.p (.mv (t 8))),
 a 39 (.p (.idxS 1 (t 37) (t 38))),
 a 40 (.r (.load none (t 39))),
 a 41 (.n (.bslice 1 [(.int .u8 0)] 1 [(0,1,(t 40))])),
 a 42 (.e (.append 1 1 (t 36) (t 41))),
 a 5 (.p (.mv (t 42)))]))
 (.reg [a 34 (.p (.mv (t 8))),
 a 35 (.p (.bin .sub (t 34) (k (.int .i64 1)))),
 a 8 (.p (.mv (t 35)))]))))))
 (.seq (.reg [a 43 (.p (.mv (t 5))),
 a 4 (.p (.mv (t 43)))])
 .ret)))))
 .skip))
 (.seq (.seq (.reg [a 9 (.p (.mv (k (.int .i64 0))))])
 (.block 2 (.loop (.seq (.seq (.reg [a 44 (.p (.mv (t 9))),
 a 45 (.p (.fld 2 (t 3))),
 a 46 (.r (.load none (t 45))),
 a 47 (.p (.len false (t 46))),
 a 48 (.p (.bin .lss (t 44) (t 47)))])
 (.cond (t 48)
 .skip
 (.exit 2)))
 (.seq (.block 3 (.seq (.reg [a 51 (.p (.mv (t 5))),
 a 52 (.p (.fld 2 (t 3))),
 a 53 (.r (.load none (t 52))),
 a 54 (.p (.mv (t 9))),
 a 55 (.p (.idxS 1 (t 53) (t 54))),
 a 56 (.r (.load none (t 55))),
 a 57 (.n (.bslice 1 [(.int .u8 0)] 1 [(0,1,(t 56))])),
 a 58 (.e (.append 1 1 (t 51) (t 57))),
 a 5 (.p (.mv (t 58)))])
 (.seq (.reg [a 59 (.p (.mv (t 0))),
 a 60 (.p (.bin .eql (t 59) (k (.int .i64 8)))),
 a 61 (.p (.mv (t 60))),
 c 62 (.p (.fld 2 (t 3))) 61 true,
 c 63 (.r (.load none (t 62))) 61 true,
 c 64 (.p (.mv (t 9))) 61 true,
 c 65 (.p (.idxS 1 (t 63) (t 64))) 61 true,
 c 66 (.r (.load none (t 65))) 61 true,
 c 67 (.p (.bin .eql (t 66) (k (.int .u8 0)))) 61 true,
 a 68 (.p (.sel (t 61) (t 67) (k (.bool false))))])
 (.cond (t 68)
 (.reg [a 69 (.p (.mv (t 5))),
 a 70 (.n (.bslice 1 [(.int .u8 0)] 1 [(0,1,(k (.int .u8 255)))])),
 a 71 (.e (.append 1 1 (t 69) (t 70))),
 a 5 (.p (.mv (t 71)))])
 .skip))))
 (.reg [a 49 (.p (.mv (t 9))),
 a 50 (.p (.bin .add (t 49) (k (.int .i64 1)))),
 a 9 (.p (.mv (t 50)))]))))))
 (.seq (.reg [a 72 (.p (.mv (t 5))),
 a 73 (.n (.bslice 1 [(.int .u8 0)] 1 [(0,1,(k (.int .u8 0)))])),
 a 74 (.e (.append 1 1 (t 72) (t 73))),
 a 5 (.p (.mv (t 74)))])
 (.seq (.seq (.reg [a 75 (.p (.mv (t 0))),
 a 76 (.p (.bin .eql (t 75) (k (.int .i64 8))))])
 (.cond (t 76)
 (.reg [a 77 (.p (.mv (t 5))),
 a 78 (.n (.bslice 1 [(.int .u8 0)] 1 [(0,1,(k (.int .u8 0)))])),
 a 79 (.e (.append 1 1 (t 77) (t 78))),
 a 5 (.p (.mv (t 79)))])
 .skip))
 (.seq (.reg [a 80 (.p (.mv (t 5))),
 a 4 (.p (.mv (t 80)))])
 .ret))))))), [.tmp 4]⟩
/-- stoa/schema.badName -/
def F_schema_badName : AFn := ⟨1, 15, (.seq (.reg [a 2 (.p (.mv (k (.bool false))))])
 (.seq (.reg [a 3 (.p (.mv (t 0))),
 a 4 (.p (.bin .eql (t 3) (k (.str [])))),
 a 5 (.p (.mv (t 4))),
 c 6 (.p (.mv (t 0))) 5 false,
 c 7 (.p (.len true (t 6))) 5 false,
 c 8 (.p (.bin .gtr (t 7) (k (.int .i64 24)))) 5 false,
 a 9 (.p (.sel (t 5) (k (.bool true)) (t 8))),
 a 10 (.p (.mv (t 9))),
 c 11 (.p (.mv (t 0))) 10 false,
 c 12 (.call N_strings_Trim [(t 11),(k (.str [97,98,99,100,101,102,103,104,105,106,107,108,109,110,111,112,113,114,115,116,117,118,119,120,121,122,48,49,50,51,52,53,54,55,56,57,95]))]) 10 false,
 c 13 (.p (.bin .neq (t 12) (k (.str [])))) 10 false,
 a 14 (.p (.sel (t 10) (k (.bool true)) (t 13))),
 a 2 (.p (.mv (t 14)))])
 .ret)), [.tmp 2]⟩
/-- stoa/merge.byKey -/
def F_merge_byKey : AFn := ⟨2, 10, (.seq (.reg [a 2 (.n (.box (t 0))),
 a 3 (.n (.box (t 1))),
 a 4 (.p (.mv (k (.int .i64 0))))])
 (.seq (.reg [a 5 (.p (.fld 0 (t 2))),
 a 6 (.r (.load none (t 5))),
 a 7 (.p (.fld 0 (t 3))),
 a 8 (.r (.load none (t 7))),
 a 9 (.call N_bytes_Compare [(t 6),(t 8)]),
 a 4 (.p (.mv (t 9)))])
 .ret)), [.tmp 4]⟩
/-- stoa/merge.changes -/
def F_merge_changes : AFn := ⟨1, 19, (.seq (.reg [a 2 (.p (.mv (k .nslc)))])
 (.seq (.reg [a 3 (.p (.mv (k .nslc)))])
 (.seq (.seq (.reg [a 6 (.p (.mv (t 0))),
 a 7 (.p (.len false (t 6))),
 a 8 (.p (.mv (k (.int .i64 0))))])
 (.block 0 (.loop (.seq (.reg [a 9 (.p (.bin .lss (t 8) (t 7)))])
 (.seq (.cond (t 9)
 .skip
 (.exit 0))
 (.seq (.block 1 (.seq (.reg [a 10 (.p (.idxS 4 (t 6) (t 8))),
 a 11 (.r (.load (some 4) (t 10))),
 a 5 (.n (.alloc [(.int .i64 0),(.int .i64 0),.nslc,.nslc])),
 b (.e (.store 4 (t 5) (t 11)))])
 (.reg [a 12 (.p (.mv (t 3))),
 a 13 (.r (.load (some 4) (t 5))),
 a 14 (.call N_merge_clone [(t 13)]),
 a 15 (.n (.bslice 4 [(.int .i64 0),(.int .i64 0),.nslc,.nslc] 1 [(0,4,(t 14))])),
 a 16 (.e (.append 4 64 (t 12) (t 15))),
 a 3 (.p (.mv (t 16)))])))
 (.reg [a 17 (.p (.bin .add (t 8) (k (.int .i64 1)))),
 a 8 (.p (.mv (t 17)))])))))))
 (.seq (.reg [a 18 (.p (.mv (t 3))),
 a 2 (.p (.mv (t 18)))])
 .ret)))), [.tmp 2]⟩
/-- slices.SortStableFunc(()stoa/api.History,stoa/api.History) -/
def F_slices_SortStableFunc_api_History_api_History : AFn := ⟨2, 9, (.reg [a 4 (.p (.mv (t 0))),
 a 5 (.p (.mv (t 0))),
 a 6 (.p (.len false (t 5))),
 a 7 (.p (.mv (t 1))),
 a 8 (.call N_slices_stableCmpFunc_api_History [(t 4),(t 6),(t 7)])]), []⟩
/-- slices.SortStableFunc(()stoa/api.Change,stoa/api.Change) -/
def F_slices_SortStableFunc_api_Change_api_Change : AFn := ⟨2, 9, (.reg [a 4 (.p (.mv (t 0))),
 a 5 (.p (.mv (t 0))),
 a 6 (.p (.len false (t 5))),
 a 7 (.p (.mv (t 1))),
 a 8 (.call N_slices_stableCmpFunc_api_Change [(t 4),(t 6),(t 7)])]), []⟩
/-- stoa/merge.byTime -/
def F_merge_byTime : AFn := ⟨2, 10, (.seq (.reg [a 2 (.n (.box (t 0))),
 a 3 (.n (.box (t 1))),
 a 4 (.p (.mv (k (.int .i64 0))))])
 (.seq (.reg [a 5 (.p (.fld 0 (t 2))),
 a 6 (.r (.load none (t 5))),
 a 7 (.p (.fld 0 (t 3))),
 a 8 (.r (.load none (t 7))),
 a 9 (.call N_cmp_Compare_int64 [(t 6),(t 8)]),
 a 4 (.p (.mv (t 9)))])
 .ret)), [.tmp 4]⟩
/-- stoa/memstore.Chain -/
def F_memstore_Chain : AFn := ⟨3, 77, (.seq (.reg [a 3 (.n (.box (t 0))),
 a 6 (.p (.mv (k (.int .i64 0))))])
 (.seq (.seq (.reg [a 16 (.r (.load (some 2) (t 3))),
 a 17 (.call N_schema_Check [(t 16)]),
 a 7 (.p (.mv (t 17)))])
 (.seq (.reg [a 18 (.p (.mv (t 7))),
 a 19 (.p (.bin .neq (t 18) (k (.int .i64 0))))])
 (.cond (t 19)
 (.seq (.reg [a 20 (.p (.mv (t 7))),
 a 6 (.p (.mv (t 20)))])
 .ret)
 .skip)))
 (.seq (.seq (.reg [a 22 (.r (.load (some 2) (t 3))),
 a 23 (.p (.mv (t 1))),
 a 24 (.call N_keys_Decode [(t 22),(t 23)]),
 a 21 (.p (.mv (t 24))),
 a 25 (.p (.extract (t 21) 0)),
 a 26 (.p (.extract (t 21) 1)),
 a 8 (.p (.mv (t 25))),
 a 9 (.p (.mv (t 26)))])
 (.seq (.reg [a 27 (.p (.mv (t 9))),
 a 28 (.p (.bin .neq (t 27) (k (.int .i64 0)))),
 a 29 (.p (.mv (t 28))),
 c 30 (.p (.mv (t 1))) 29 false,
 c 31 (.p (.len false (t 30))) 29 false,
 c 32 (.p (.bin .gtr (t 31) (k (.int .i64 200)))) 29 false,
 a 33 (.p (.sel (t 29) (k (.bool true)) (t 32)))])
 (.cond (t 33)
 (.seq (.reg [a 6 (.p (.mv (k (.int .i64 70))))])
 .ret)
 .skip)))
 (.seq (.reg [a 10 (.p (.mv (k (.bool false))))])
 (.seq (.reg [a 11 (.p (.mv (k (.int .i64 (-1)))))])
 (.seq (.seq (.reg [a 34 (.p (.mv (t 2))),
 a 35 (.p (.len false (t 34))),
 a 36 (.p (.mv (k (.int .i64 0))))])
 (.block 0 (.loop (.seq (.reg [a 37 (.p (.bin .lss (t 36) (t 35)))])
 (.seq (.cond (t 37)
 .skip
 (.exit 0))
 (.seq (.block 1 (.seq (.reg [a 38 (.p (.idxS 4 (t 34) (t 36))),
 a 39 (.r (.load (some 4) (t 38))),
 a 13 (.n (.alloc [(.int .i64 0),(.int .i64 0),.nslc,.nslc])),
 b (.e (.store 4 (t 13) (t 39)))])
 (.seq (.seq (.reg [a 40 (.p (.fld 0 (t 13))),
 a 41 (.r (.load none (t 40))),
 a 42 (.call N_memstore_badTime [(t 41)]),
 a 43 (.p (.mv (t 42))),
 c 44 (.p (.fld 1 (t 13))) 43 false,
 c 45 (.r (.load none (t 44))) 43 false,
 c 46 (.p (.bin .lss (t 45) (k (.int .i64 1)))) 43 false,
 a 47 (.p (.sel (t 43) (k (.bool true)) (t 46))),
 a 48 (.p (.mv (t 47))),
 c 49 (.p (.fld 1 (t 13))) 48 false,
 c 50 (.r (.load none (t 49))) 48 false,
 c 51 (.p (.bin .gtr (t 50) (k (.int .i64 3)))) 48 false,
 a 52 (.p (.sel (t 48) (k (.bool true)) (t 51)))])
 (.cond (t 52)
 (.seq (.reg [a 6 (.p (.mv (k (.int .i64 1))))])
 .ret)
 .skip))
 (.seq (.seq (.reg [a 53 (.p (.fld 0 (t 13))),
 a 54 (.r (.load none (t 53))),
 a 55 (.p (.mv (t 11))),
 a 56 (.p (.bin .leq (t 54) (t 55)))])
 (.cond (t 56)
 (.seq (.reg [a 6 (.p (.mv (k (.int .i64 192))))])
 .ret)
 .skip))
 (.seq (.seq (.reg [a 57 (.r (.load (some 2) (t 3))),
 a 58 (.p (.mv (t 1))),
 a 59 (.r (.load (some 4) (t 13))),
 a 60 (.call N_memstore_link [(t 57),(t 58),(t 59)]),
 a 14 (.p (.mv (t 60)))])
 (.seq (.reg [a 61 (.p (.mv (t 14))),
 a 62 (.p (.bin .neq (t 61) (k (.int .i64 0))))])
 (.cond (t 62)
 (.seq (.reg [a 63 (.p (.mv (t 14))),
 a 6 (.p (.mv (t 63)))])
 .ret)
 .skip)))
 (.seq (.seq (.reg [a 64 (.p (.fld 1 (t 13))),
 a 65 (.r (.load none (t 64))),
 a 66 (.p (.mv (t 10))),
 a 67 (.call N_memstore_there [(t 65),(t 66)]),
 a 15 (.p (.mv (t 67)))])
 (.seq (.reg [a 68 (.p (.mv (t 15))),
 a 69 (.p (.bin .neq (t 68) (k (.int .i64 0))))])
 (.cond (t 69)
 (.seq (.reg [a 70 (.p (.mv (t 15))),
 a 6 (.p (.mv (t 70)))])
 .ret)
 .skip)))
 (.dreg [(a 71 (.p (.fld 1 (t 13))), []),
 (a 72 (.r (.load none (t 71))), []),
 (a 73 (.p (.bin .neq (t 72) (k (.int .i64 3)))), []),
 (a 74 (.p (.fld 0 (t 13))), []),
 (a 75 (.r (.load none (t 74))), []),
 (a 10 (.p (.mv (t 73))), []),
 (a 11 (.p (.mv (t 75))), [])])))))))
 (.reg [a 76 (.p (.bin .add (t 36) (k (.int .i64 1)))),
 a 36 (.p (.mv (t 76)))])))))))
 (.seq (.reg [a 6 (.p (.mv (k (.int .i64 0))))])
 .ret))))))), [.tmp 6]⟩
/-- slices.Clone(()stoa/api.Cell,stoa/api.Cell) -/
def F_slices_Clone_api_Cell_api_Cell : AFn := ⟨1, 8, (.seq (.reg [a 2 (.p (.mv (k .nslc)))])
 (.seq (.seq (.reg [a 3 (.p (.mv (t 0))),
 a 4 (.p (.eqk false .slice (t 3) (k .nslc)))])
 (.cond (t 4)
 (.seq (.reg [a 2 (.p (.mv (k .nslc)))])
 .ret)
 .skip))
 (.seq (.reg [a 5 (.n (.bslice 3 [] 0 [])),
 a 6 (.p (.mv (t 0))),
 a 7 (.e (.append 3 40 (t 5) (t 6))),
 a 2 (.p (.mv (t 7)))])
 .ret))), [.tmp 2]⟩
/-- stoa/memstore.clone -/
def F_memstore_clone : AFn := ⟨1, 24, (.seq (.reg [a 2 (.p (.mv (k .nslc)))])
 (.seq (.reg [a 6 (.p (.mv (t 0))),
 a 7 (.call N_slices_Clone_api_Cell_api_Cell [(t 6)]),
 a 3 (.p (.mv (t 7)))])
 (.seq (.seq (.reg [a 8 (.p (.mv (t 3))),
 a 9 (.p (.len false (t 8))),
 a 10 (.p (.mv (k (.int .i64 0))))])
 (.block 0 (.loop (.seq (.reg [a 11 (.p (.bin .lss (t 10) (t 9)))])
 (.seq (.cond (t 11)
 .skip
 (.exit 0))
 (.seq (.block 1 (.seq (.reg [a 12 (.p (.mv (t 10))),
 a 13 (.p (.idxS 3 (t 8) (t 10))),
 a 14 (.r (.load (some 3) (t 13))),
 a 5 (.n (.alloc [(.bool false),(.int .i64 0),.nslc])),
 a 4 (.p (.mv (t 12))),
 b (.e (.store 3 (t 5) (t 14)))])
 (.reg [a 15 (.p (.mv (t 3))),
 a 16 (.p (.mv (t 4))),
 a 17 (.p (.fld 2 (t 5))),
 a 18 (.r (.load none (t 17))),
 a 19 (.call N_bytes_Clone [(t 18)]),
 a 20 (.p (.idxS 3 (t 15) (t 16))),
 a 21 (.p (.fld 2 (t 20))),
 b (.e (.store 1 (t 21) (t 19)))])))
 (.reg [a 22 (.p (.bin .add (t 10) (k (.int .i64 1)))),
 a 10 (.p (.mv (t 22)))])))))))
 (.seq (.reg [a 23 (.p (.mv (t 3))),
 a 2 (.p (.mv (t 23)))])
 .ret)))), [.tmp 2]⟩
/-- stoa/merge.cells -/
def F_merge_cells : AFn := ⟨1, 24, (.seq (.reg [a 2 (.p (.mv (k .nslc)))])
 (.seq (.reg [a 6 (.p (.mv (t 0))),
 a 7 (.call N_slices_Clone_api_Cell_api_Cell [(t 6)]),
 a 3 (.p (.mv (t 7)))])
 (.seq (.seq (.reg [a 8 (.p (.mv (t 3))),
 a 9 (.p (.len false (t 8))),
 a 10 (.p (.mv (k (.int .i64 0))))])
 (.block 0 (.loop (.seq (.reg [a 11 (.p (.bin .lss (t 10) (t 9)))])
 (.seq (.cond (t 11)
 .skip
 (.exit 0))
 (.seq (.block 1 (.seq (.reg [a 12 (.p (.mv (t 10))),
 a 13 (.p (.idxS 3 (t 8) (t 10))),
 a 14 (.r (.load (some 3) (t 13))),
 a 5 (.n (.alloc [(.bool false),(.int .i64 0),.nslc])),
 a 4 (.p (.mv (t 12))),
 b (.e (.store 3 (t 5) (t 14)))])
 (.reg [a 15 (.p (.mv (t 3))),
 a 16 (.p (.mv (t 4))),
 a 17 (.p (.fld 2 (t 5))),
 a 18 (.r (.load none (t 17))),
 a 19 (.call N_bytes_Clone [(t 18)]),
 a 20 (.p (.idxS 3 (t 15) (t 16))),
 a 21 (.p (.fld 2 (t 20))),
 b (.e (.store 1 (t 21) (t 19)))])))
 (.reg [a 22 (.p (.bin .add (t 10) (k (.int .i64 1)))),
 a 10 (.p (.mv (t 22)))])))))))
 (.seq (.reg [a 23 (.p (.mv (t 3))),
 a 2 (.p (.mv (t 23)))])
 .ret)))), [.tmp 2]⟩
/-- slices.Clone(()stoa/api.Set,stoa/api.Set) -/
def F_slices_Clone_api_Set_api_Set : AFn := ⟨1, 8, (.seq (.reg [a 2 (.p (.mv (k .nslc)))])
 (.seq (.seq (.reg [a 3 (.p (.mv (t 0))),
 a 4 (.p (.eqk false .slice (t 3) (k .nslc)))])
 (.cond (t 4)
 (.seq (.reg [a 2 (.p (.mv (k .nslc)))])
 .ret)
 .skip))
 (.seq (.reg [a 5 (.n (.bslice 4 [] 0 [])),
 a 6 (.p (.mv (t 0))),
 a 7 (.e (.append 4 48 (t 5) (t 6))),
 a 2 (.p (.mv (t 7)))])
 .ret))), [.tmp 2]⟩
/-- stoa/keys.Within -/
def F_keys_Within : AFn := ⟨3, 22, (.seq (.reg [a 6 (.p (.mv (k (.bool false))))])
 (.seq (.reg [a 7 (.p (.mv (t 0))),
 a 8 (.p (.mv (t 1))),
 a 9 (.call N_bytes_Compare [(t 7),(t 8)]),
 a 10 (.p (.bin .geq (t 9) (k (.int .i64 0)))),
 a 11 (.p (.mv (t 10))),
 c 12 (.p (.mv (t 2))) 11 true,
 c 13 (.p (.len false (t 12))) 11 true,
 c 14 (.p (.bin .eql (t 13) (k (.int .i64 0)))) 11 true,
 c 15 (.p (.mv (t 14))) 11 true,
 c 16 (.p (.mv (t 0))) 15 false,
 c 17 (.p (.mv (t 2))) 15 false,
 c 18 (.call N_bytes_Compare [(t 16),(t 17)]) 15 false,
 c 19 (.p (.bin .lss (t 18) (k (.int .i64 0)))) 15 false,
 c 20 (.p (.sel (t 15) (k (.bool true)) (t 19))) 11 true,
 a 21 (.p (.sel (t 11) (t 20) (k (.bool false)))),
 a 6 (.p (.mv (t 21)))])
 .ret)), [.tmp 6]⟩
/-- slices.insertionSortCmpFunc(stoa/merge.span) -/
def F_slices_insertionSortCmpFunc_merge_span : AFn := ⟨4, 53, (.seq (.reg [a 10 (.p (.mv (t 1))),
 a 11 (.p (.bin .add (t 10) (k (.int .i64 1)))),
 a 8 (.p (.mv (t 11)))])
 (.block 0 (.loop (.seq (.seq (.reg [a 12 (.p (.mv (t 8))),
 a 13 (.p (.mv (t 2))),
 a 14 (.p (.bin .lss (t 12) (t 13)))])
 (.cond (t 14)
 .skip
 (.exit 0)))
 (.seq (.block 1 (.seq (.reg [a 17 (.p (.mv (t 8))),
 a 9 (.p (.mv (t 17)))])
 (.block 2 (.loop (.seq (.seq (.dreg [(a 18 (.p (.mv (t 9))), []),
 (a 19 (.p (.mv (t 1))), []),
 (a 20 (.p (.bin .gtr (t 18) (t 19))), []),
 (a 21 (.p (.mv (t 20))), []),
 (c 22 (.p (.mv (t 3))) 21 true, []),
 (c 23 (.p (.mv (t 0))) 21 true, []),
 (c 24 (.p (.mv (t 9))) 21 true, []),
 (c 25 (.p (.idxS 2 (t 23) (t 24))) 21 true, []),
 (c 26 (.r (.load (some 2) (t 25))) 21 true, []),
 (c 27 (.p (.mv (t 0))) 21 true, []),
 (c 28 (.p (.mv (t 9))) 21 true, []),
 (c 29 (.p (.bin .sub (t 28) (k (.int .i64 1)))) 21 true, []),
 (c 30 (.p (.idxS 2 (t 27) (t 29))) 21 true, []),
 (c 31 (.r (.load (some 2) (t 30))) 21 true, []),
 (c 32 (.callv (t 22) [(t 26),(t 31)]) 21 true, []),
 (c 33 (.p (.bin .lss (t 32) (k (.int .i64 0)))) 21 true, []),
 (a 34 (.p (.sel (t 21) (t 33) (k (.bool false)))), [])])
 (.cond (t 34)
 .skip
 (.exit 2)))
 (.seq (.block 3 (.dreg [(a 37 (.p (.mv (t 0))), []),
 (a 38 (.p (.mv (t 9))), []),
 (a 39 (.p (.mv (t 0))), []),
 (a 40 (.p (.mv (t 9))), []),
 (a 41 (.p (.bin .sub (t 40) (k (.int .i64 1)))), []),
 (a 42 (.p (.mv (t 0))), []),
 (a 43 (.p (.mv (t 9))), []),
 (a 44 (.p (.bin .sub (t 43) (k (.int .i64 1)))), []),
 (a 45 (.p (.idxS 2 (t 42) (t 44))), []),
 (a 46 (.r (.load (some 2) (t 45))), []),
 (a 47 (.p (.mv (t 0))), []),
 (a 48 (.p (.mv (t 9))), []),
 (a 49 (.p (.idxS 2 (t 47) (t 48))), []),
 (a 50 (.r (.load (some 2) (t 49))), []),
 (a 51 (.p (.idxS 2 (t 37) (t 38))), []),
 (b (.e (.store 2 (t 51) (t 46))), []),
 (a 52 (.p (.idxS 2 (t 39) (t 41))), []),
 (b (.e (.store 2 (t 52) (t 50))), [])]))
 (.reg [a 35 (.p (.mv (t 9))),
 a 36 (.p (.bin .sub (t 35) (k (.int .i64 1)))),
 a 9 (.p (.mv (t 36)))])))))))
 (.reg [a 15 (.p (.mv (t 8))),
 a 16 (.p (.bin .add (t 15) (k (.int .i64 1)))),
 a 8 (.p (.mv (t 16)))])))))), []⟩
/-- slices.heapSortCmpFunc(stoa/merge.span) -/
def F_slices_heapSortCmpFunc_merge_span : AFn := ⟨4, 60, (.seq (.reg [a 13 (.p (.mv (t 1))),
 a 8 (.p (.mv (t 13)))])
 (.seq (.reg [a 9 (.p (.mv (k (.int .i64 0))))])
 (.seq (.reg [a 14 (.p (.mv (t 2))),
 a 15 (.p (.mv (t 1))),
 a 16 (.p (.bin .sub (t 14) (t 15))),
 a 10 (.p (.mv (t 16)))])
 (.seq (.seq (.reg [a 17 (.p (.mv (t 10))),
 a 18 (.p (.bin .sub (t 17) (k (.int .i64 1)))),
 a 19 (.p (.bin .quo (t 18) (k (.int .i64 2)))),
 a 11 (.p (.mv (t 19)))])
 (.block 0 (.loop (.seq (.seq (.reg [a 20 (.p (.mv (t 11))),
 a 21 (.p (.bin .geq (t 20) (k (.int .i64 0))))])
 (.cond (t 21)
 .skip
 (.exit 0)))
 (.seq (.block 1 (.reg [a 24 (.p (.mv (t 0))),
 a 25 (.p (.mv (t 11))),
 a 26 (.p (.mv (t 10))),
 a 27 (.p (.mv (t 8))),
 a 28 (.p (.mv (t 3))),
 a 29 (.call N_slices_siftDownCmpFunc_merge_span [(t 24),(t 25),(t 26),(t 27),(t 28)])]))
 (.reg [a 22 (.p (.mv (t 11))),
 a 23 (.p (.bin .sub (t 22) (k (.int .i64 1)))),
 a 11 (.p (.mv (t 23)))]))))))
 (.seq (.reg [a 30 (.p (.mv (t 10))),
 a 31 (.p (.bin .sub (t 30) (k (.int .i64 1)))),
 a 12 (.p (.mv (t 31)))])
 (.block 2 (.loop (.seq (.seq (.reg [a 32 (.p (.mv (t 12))),
 a 33 (.p (.bin .geq (t 32) (k (.int .i64 0))))])
 (.cond (t 33)
 .skip
 (.exit 2)))
 (.seq (.block 3 (.seq (.dreg [(a 36 (.p (.mv (t 0))), []),
 (a 37 (.p (.mv (t 8))), []),
 (a 38 (.p (.mv (t 0))), []),
 (a 39 (.p (.mv (t 8))), []),
 (a 40 (.p (.mv (t 12))), []),
 (a 41 (.p (.bin .add (t 39) (t 40))), []),
 (a 42 (.p (.mv (t 0))), []),
 (a 43 (.p (.mv (t 8))), []),
 (a 44 (.p (.mv (t 12))), []),
 (a 45 (.p (.bin .add (t 43) (t 44))), []),
 (a 46 (.p (.idxS 2 (t 42) (t 45))), []),
 (a 47 (.r (.load (some 2) (t 46))), []),
 (a 48 (.p (.mv (t 0))), []),
 (a 49 (.p (.mv (t 8))), []),
 (a 50 (.p (.idxS 2 (t 48) (t 49))), []),
 (a 51 (.r (.load (some 2) (t 50))), []),
 (a 52 (.p (.idxS 2 (t 36) (t 37))), []),
 (b (.e (.store 2 (t 52) (t 47))), []),
 (a 53 (.p (.idxS 2 (t 38) (t 41))), []),
 (b (.e (.store 2 (t 53) (t 51))), [])])
 (.reg [a 54 (.p (.mv (t 0))),
 a 55 (.p (.mv (t 9))),
 a 56 (.p (.mv (t 12))),
 a 57 (.p (.mv (t 8))),
 a 58 (.p (.mv (t 3))),
 a 59 (.call N_slices_siftDownCmpFunc_merge_span [(t 54),(t 55),(t 56),(t 57),(t 58)])])))
 (.reg [a 34 (.p (.mv (t 12))),
 a 35 (.p (.bin .sub (t 34) (k (.int .i64 1)))),
 a 12 (.p (.mv (t 35)))])))))))))), []⟩
/-- slices.breakPatternsCmpFunc(stoa/merge.span) -/
def F_slices_breakPatternsCmpFunc_merge_span : AFn := ⟨4, 67, (.seq (.reg [a 13 (.p (.mv (t 2))),
 a 14 (.p (.mv (t 1))),
 a 15 (.p (.bin .sub (t 13) (t 14))),
 a 8 (.p (.mv (t 15)))])
 (.seq (.reg [a 16 (.p (.mv (t 8))),
 a 17 (.p (.bin .geq (t 16) (k (.int .i64 8))))])
 (.cond (t 17)
 (.seq (.reg [a 18 (.p (.mv (t 8))),
 a 19 (.p (.conv .u64 (t 18))),
 a 9 (.n (.alloc [(.int .u64 0)])),
 b (.e (.store 1 (t 9) (t 19)))])
 (.seq (.reg [a 20 (.p (.mv (t 8))),
 a 21 (.call N_slices_nextPowerOfTwo [(t 20)]),
 a 10 (.p (.mv (t 21)))])
 (.seq (.reg [a 22 (.p (.mv (t 1))),
 a 23 (.p (.mv (t 8))),
 a 24 (.p (.bin .quo (t 23) (k (.int .i64 4)))),
 a 25 (.p (.bin .mul (t 24) (k (.int .i64 2)))),
 a 26 (.p (.bin .add (t 22) (t 25))),
 a 27 (.p (.bin .sub (t 26) (k (.int .i64 1)))),
 a 11 (.p (.mv (t 27)))])
 (.block 0 (.loop (.seq (.seq (.reg [a 28 (.p (.mv (t 11))),
 a 29 (.p (.mv (t 1))),
 a 30 (.p (.mv (t 8))),
 a 31 (.p (.bin .quo (t 30) (k (.int .i64 4)))),
 a 32 (.p (.bin .mul (t 31) (k (.int .i64 2)))),
 a 33 (.p (.bin .add (t 29) (t 32))),
 a 34 (.p (.bin .add (t 33) (k (.int .i64 1)))),
 a 35 (.p (.bin .leq (t 28) (t 34)))])
 (.cond (t 35)
 .skip
 (.exit 0)))
 (.seq (.block 1 (.seq (.reg [a 38 (.call N_slices_xorshift_Next [(t 9)]),
 a 39 (.p (.mv (t 10))),
 a 40 (.p (.bin .sub (t 39) (k (.int .u64 1)))),
 a 41 (.p (.bin .and (t 38) (t 40))),
 a 42 (.p (.conv .i64 (t 41))),
 a 12 (.p (.mv (t 42)))])
 (.seq (.seq (.reg [a 43 (.p (.mv (t 12))),
 a 44 (.p (.mv (t 8))),
 a 45 (.p (.bin .geq (t 43) (t 44)))])
 (.cond (t 45)
 (.reg [a 46 (.p (.mv (t 12))),
 a 47 (.p (.mv (t 8))),
 a 48 (.p (.bin .sub (t 46) (t 47))),
 a 12 (.p (.mv (t 48)))])
 .skip))
 (.dreg [(a 49 (.p (.mv (t 0))), []),
 (a 50 (.p (.mv (t 11))), []),
 (a 51 (.p (.mv (t 0))), []),
 (a 52 (.p (.mv (t 1))), []),
 (a 53 (.p (.mv (t 12))), []),
 (a 54 (.p (.bin .add (t 52) (t 53))), []),
 (a 55 (.p (.mv (t 0))), []),
 (a 56 (.p (.mv (t 1))), []),
 (a 57 (.p (.mv (t 12))), []),
 (a 58 (.p (.bin .add (t 56) (t 57))), []),
 (a 59 (.p (.idxS 2 (t 55) (t 58))), []),
 (a 60 (.r (.load (some 2) (t 59))), []),
 (a 61 (.p (.mv (t 0))), []),
 (a 62 (.p (.mv (t 11))), []),
 (a 63 (.p (.idxS 2 (t 61) (t 62))), []),
 (a 64 (.r (.load (some 2) (t 63))), []),
 (a 65 (.p (.idxS 2 (t 49) (t 50))), []),
 (b (.e (.store 2 (t 65) (t 60))), []),
 (a 66 (.p (.idxS 2 (t 51) (t 54))), []),
 (b (.e (.store 2 (t 66) (t 64))), [])]))))
 (.reg [a 36 (.p (.mv (t 11))),
 a 37 (.p (.bin .add (t 36) (k (.int .i64 1)))),
 a 11 (.p (.mv (t 37)))]))))))))
 .skip))), []⟩
/-- slices.choosePivotCmpFunc(stoa/merge.span) -/
def F_slices_choosePivotCmpFunc_merge_span : AFn := ⟨4, 63, (.seq (.reg [a 8 (.p (.mv (k (.int .i64 0)))),
 a 9 (.p (.mv (k (.int .i64 0))))])
 (.seq (.reg [a 15 (.p (.mv (t 2))),
 a 16 (.p (.mv (t 1))),
 a 17 (.p (.bin .sub (t 15) (t 16))),
 a 10 (.p (.mv (t 17)))])
 (.seq (.reg [a 11 (.n (.alloc [(.int .i64 0)]))])
 (.seq (.reg [a 18 (.p (.mv (t 1))),
 a 19 (.p (.mv (t 10))),
 a 20 (.p (.bin .quo (t 19) (k (.int .i64 4)))),
 a 21 (.p (.bin .mul (t 20) (k (.int .i64 1)))),
 a 22 (.p (.bin .add (t 18) (t 21))),
 a 12 (.p (.mv (t 22)))])
 (.seq (.reg [a 23 (.p (.mv (t 1))),
 a 24 (.p (.mv (t 10))),
 a 25 (.p (.bin .quo (t 24) (k (.int .i64 4)))),
 a 26 (.p (.bin .mul (t 25) (k (.int .i64 2)))),
 a 27 (.p (.bin .add (t 23) (t 26))),
 a 13 (.p (.mv (t 27)))])
 (.seq (.reg [a 28 (.p (.mv (t 1))),
 a 29 (.p (.mv (t 10))),
 a 30 (.p (.bin .quo (t 29) (k (.int .i64 4)))),
 a 31 (.p (.bin .mul (t 30) (k (.int .i64 3)))),
 a 32 (.p (.bin .add (t 28) (t 31))),
 a 14 (.p (.mv (t 32)))])
 (.seq (.seq (.reg [a 33 (.p (.mv (t 10))),
 a 34 (.p (.bin .geq (t 33) (k (.int .i64 8))))])
 (.cond (t 34)
 (.seq (.seq (.reg [a 35 (.p (.mv (t 10))),
 a 36 (.p (.bin .geq (t 35) (k (.int .i64 50))))])
 (.cond (t 36)
 (.seq (.reg [a 37 (.p (.mv (t 0))),
 a 38 (.p (.mv (t 12))),
 a 39 (.p (.mv (t 3))),
 a 40 (.call N_slices_medianAdjacentCmpFunc_merge_span [(t 37),(t 38),(t 11),(t 39)]),
 a 12 (.p (.mv (t 40)))])
 (.seq (.reg [a 41 (.p (.mv (t 0))),
 a 42 (.p (.mv (t 13))),
 a 43 (.p (.mv (t 3))),
 a 44 (.call N_slices_medianAdjacentCmpFunc_merge_span [(t 41),(t 42),(t 11),(t 43)]),
 a 13 (.p (.mv (t 44)))])
 (.reg [a 45 (.p (.mv (t 0))),
 a 46 (.p (.mv (t 14))),
 a 47 (.p (.mv (t 3))),
 a 48 (.call N_slices_medianAdjacentCmpFunc_merge_span [(t 45),(t 46),(t 11),(t 47)]),
 a 14 (.p (.mv (t 48)))])))
 .skip))
 (.reg [a 49 (.p (.mv (t 0))),
 a 50 (.p (.mv (t 12))),
 a 51 (.p (.mv (t 13))),
 a 52 (.p (.mv (t 14))),
 a 53 (.p (.mv (t 3))),
 a 54 (.call N_slices_medianCmpFunc_merge_span [(t 49),(t 50),(t 51),(t 52),(t 11),(t 53)]),
 a 13 (.p (.mv (t 54)))]))
 .skip))
 (.seq (.reg [a 55 (.r (.load none (t 11)))])
 (.block 0 (.seq (.reg [a 58 (.p (.bin .eql (t 55) (k (.int .i64 0)))),
 a 57 (.p (.mv (t 58)))])
 (.cond (t 57)
 (.seq (.reg [a 59 (.p (.mv (t 13))),
 a 8 (.p (.mv (t 59))),
 a 9 (.p (.mv (k (.int .i64 1))))])
 .ret)
 (.seq (.reg [a 61 (.p (.bin .eql (t 55) (k (.int .i64 12)))),
 a 60 (.p (.mv (t 61)))])
 (.cond (t 60)
 (.seq (.reg [a 62 (.p (.mv (t 13))),
 a 8 (.p (.mv (t 62))),
 a 9 (.p (.mv (k (.int .i64 2))))])
 .ret)
 (.seq (.reg [a 56 (.p (.mv (t 13))),
 a 8 (.p (.mv (t 56))),
 a 9 (.p (.mv (k (.int .i64 0))))])
 .ret)))))))))))))), [.tmp 8,.tmp 9]⟩
/-- slices.reverseRangeCmpFunc(stoa/merge.span) -/
def F_slices_reverseRangeCmpFunc_merge_span : AFn := ⟨4, 34, (.seq (.reg [a 10 (.p (.mv (t 1))),
 a 8 (.p (.mv (t 10)))])
 (.seq (.reg [a 11 (.p (.mv (t 2))),
 a 12 (.p (.bin .sub (t 11) (k (.int .i64 1)))),
 a 9 (.p (.mv (t 12)))])
 (.block 0 (.loop (.seq (.seq (.reg [a 13 (.p (.mv (t 8))),
 a 14 (.p (.mv (t 9))),
 a 15 (.p (.bin .lss (t 13) (t 14)))])
 (.cond (t 15)
 .skip
 (.exit 0)))
 (.block 1 (.seq (.dreg [(a 16 (.p (.mv (t 0))), []),
 (a 17 (.p (.mv (t 8))), []),
 (a 18 (.p (.mv (t 0))), []),
 (a 19 (.p (.mv (t 9))), []),
 (a 20 (.p (.mv (t 0))), []),
 (a 21 (.p (.mv (t 9))), []),
 (a 22 (.p (.idxS 2 (t 20) (t 21))), []),
 (a 23 (.r (.load (some 2) (t 22))), []),
 (a 24 (.p (.mv (t 0))), []),
 (a 25 (.p (.mv (t 8))), []),
 (a 26 (.p (.idxS 2 (t 24) (t 25))), []),
 (a 27 (.r (.load (some 2) (t 26))), []),
 (a 28 (.p (.idxS 2 (t 16) (t 17))), []),
 (b (.e (.store 2 (t 28) (t 23))), []),
 (a 29 (.p (.idxS 2 (t 18) (t 19))), []),
 (b (.e (.store 2 (t 29) (t 27))), [])])
 (.seq (.reg [a 30 (.p (.mv (t 8))),
 a 31 (.p (.bin .add (t 30) (k (.int .i64 1)))),
 a 8 (.p (.mv (t 31)))])
 (.reg [a 32 (.p (.mv (t 9))),
 a 33 (.p (.bin .sub (t 32) (k (.int .i64 1)))),
 a 9 (.p (.mv (t 33)))]))))))))), []⟩
/-- slices.partialInsertionSortCmpFunc(stoa/merge.span) -/
def F_slices_partialInsertionSortCmpFunc_merge_span : AFn := ⟨4, 141, (.seq (.reg [a 8 (.p (.mv (k (.bool false))))])
 (.seq (.reg [a 13 (.p (.mv (t 1))),
 a 14 (.p (.bin .add (t 13) (k (.int .i64 1)))),
 a 9 (.p (.mv (t 14)))])
 (.seq (.seq (.reg [a 10 (.p (.mv (k (.int .i64 0))))])
 (.block 0 (.loop (.seq (.seq (.reg [a 15 (.p (.mv (t 10))),
 a 16 (.p (.bin .lss (t 15) (k (.int .i64 5))))])
 (.cond (t 16)
 .skip
 (.exit 0)))
 (.seq (.block 1 (.seq (.block 2 (.loop (.seq (.seq (.dreg [(a 19 (.p (.mv (t 9))), []),
 (a 20 (.p (.mv (t 2))), []),
 (a 21 (.p (.bin .lss (t 19) (t 20))), []),
 (a 22 (.p (.mv (t 21))), []),
 (c 23 (.p (.mv (t 3))) 22 true, []),
 (c 24 (.p (.mv (t 0))) 22 true, []),
 (c 25 (.p (.mv (t 9))) 22 true, []),
 (c 26 (.p (.idxS 2 (t 24) (t 25))) 22 true, []),
 (c 27 (.r (.load (some 2) (t 26))) 22 true, []),
 (c 28 (.p (.mv (t 0))) 22 true, []),
 (c 29 (.p (.mv (t 9))) 22 true, []),
 (c 30 (.p (.bin .sub (t 29) (k (.int .i64 1)))) 22 true, []),
 (c 31 (.p (.idxS 2 (t 28) (t 30))) 22 true, []),
 (c 32 (.r (.load (some 2) (t 31))) 22 true, []),
 (c 33 (.callv (t 23) [(t 27),(t 32)]) 22 true, []),
 (c 34 (.p (.bin .lss (t 33) (k (.int .i64 0)))) 22 true, []),
 (c 35 (.p (.un .not (t 34))) 22 true, []),
 (a 36 (.p (.sel (t 22) (t 35) (k (.bool false)))), [])])
 (.cond (t 36)
 .skip
 (.exit 2)))
 (.block 3 (.reg [a 37 (.p (.mv (t 9))),
 a 38 (.p (.bin .add (t 37) (k (.int .i64 1)))),
 a 9 (.p (.mv (t 38)))])))))
 (.seq (.seq (.reg [a 39 (.p (.mv (t 9))),
 a 40 (.p (.mv (t 2))),
 a 41 (.p (.bin .eql (t 39) (t 40)))])
 (.cond (t 41)
 (.seq (.reg [a 8 (.p (.mv (k (.bool true))))])
 .ret)
 .skip))
 (.seq (.seq (.reg [a 42 (.p (.mv (t 2))),
 a 43 (.p (.mv (t 1))),
 a 44 (.p (.bin .sub (t 42) (t 43))),
 a 45 (.p (.bin .lss (t 44) (k (.int .i64 50))))])
 (.cond (t 45)
 (.seq (.reg [a 8 (.p (.mv (k (.bool false))))])
 .ret)
 .skip))
 (.seq (.dreg [(a 46 (.p (.mv (t 0))), []),
 (a 47 (.p (.mv (t 9))), []),
 (a 48 (.p (.mv (t 0))), []),
 (a 49 (.p (.mv (t 9))), []),
 (a 50 (.p (.bin .sub (t 49) (k (.int .i64 1)))), []),
 (a 51 (.p (.mv (t 0))), []),
 (a 52 (.p (.mv (t 9))), []),
 (a 53 (.p (.bin .sub (t 52) (k (.int .i64 1)))), []),
 (a 54 (.p (.idxS 2 (t 51) (t 53))), []),
 (a 55 (.r (.load (some 2) (t 54))), []),
 (a 56 (.p (.mv (t 0))), []),
 (a 57 (.p (.mv (t 9))), []),
 (a 58 (.p (.idxS 2 (t 56) (t 57))), []),
 (a 59 (.r (.load (some 2) (t 58))), []),
 (a 60 (.p (.idxS 2 (t 46) (t 47))), []),
 (b (.e (.store 2 (t 60) (t 55))), []),
 (a 61 (.p (.idxS 2 (t 48) (t 50))), []),
 (b (.e (.store 2 (t 61) (t 59))), [])])
 (.seq (.seq (.reg [a 62 (.p (.mv (t 9))),
 a 63 (.p (.mv (t 1))),
 a 64 (.p (.bin .sub (t 62) (t 63))),
 a 65 (.p (.bin .geq (t 64) (k (.int .i64 2))))])
 (.cond (t 65)
 (.seq (.reg [a 66 (.p (.mv (t 9))),
 a 67 (.p (.bin .sub (t 66) (k (.int .i64 1)))),
 a 11 (.p (.mv (t 67)))])
 (.block 4 (.loop (.seq (.seq (.reg [a 68 (.p (.mv (t 11))),
 a 69 (.p (.bin .geq (t 68) (k (.int .i64 1))))])
 (.cond (t 69)
 .skip
 (.exit 4)))
 (.seq (.block 5 (.seq (.seq (.dreg [(a 72 (.p (.mv (t 3))), []),
 (a 73 (.p (.mv (t 0))), []),
 (a 74 (.p (.mv (t 11))), []),
 (a 75 (.p (.idxS 2 (t 73) (t 74))), []),
 (a 76 (.r (.load (some 2) (t 75))), []),
 (a 77 (.p (.mv (t 0))), []),
 (a 78 (.p (.mv (t 11))), []),
 (a 79 (.p (.bin .sub (t 78) (k (.int .i64 1)))), []),
 (a 80 (.p (.idxS 2 (t 77) (t 79))), []),
 (a 81 (.r (.load (some 2) (t 80))), []),
 (a 82 (.callv (t 72) [(t 76),(t 81)]), []),
 (a 83 (.p (.bin .lss (t 82) (k (.int .i64 0)))), []),
 (a 84 (.p (.un .not (t 83))), [])])
 (.cond (t 84)
 (.exit 4)
 .skip))
 (.dreg [(a 85 (.p (.mv (t 0))), []),
 (a 86 (.p (.mv (t 11))), []),
 (a 87 (.p (.mv (t 0))), []),
 (a 88 (.p (.mv (t 11))), []),
 (a 89 (.p (.bin .sub (t 88) (k (.int .i64 1)))), []),
 (a 90 (.p (.mv (t 0))), []),
 (a 91 (.p (.mv (t 11))), []),
 (a 92 (.p (.bin .sub (t 91) (k (.int .i64 1)))), []),
 (a 93 (.p (.idxS 2 (t 90) (t 92))), []),
 (a 94 (.r (.load (some 2) (t 93))), []),
 (a 95 (.p (.mv (t 0))), []),
 (a 96 (.p (.mv (t 11))), []),
 (a 97 (.p (.idxS 2 (t 95) (t 96))), []),
 (a 98 (.r (.load (some 2) (t 97))), []),
 (a 99 (.p (.idxS 2 (t 85) (t 86))), []),
 (b (.e (.store 2 (t 99) (t 94))), []),
 (a 100 (.p (.idxS 2 (t 87) (t 89))), []),
 (b (.e (.store 2 (t 100) (t 98))), [])])))
 (.reg [a 70 (.p (.mv (t 11))),
 a 71 (.p (.bin .sub (t 70) (k (.int .i64 1)))),
 a 11 (.p (.mv (t 71)))]))))))
 .skip))
 (.seq (.reg [a 101 (.p (.mv (t 2))),
 a 102 (.p (.mv (t 9))),
 a 103 (.p (.bin .sub (t 101) (t 102))),
 a 104 (.p (.bin .geq (t 103) (k (.int .i64 2))))])
 (.cond (t 104)
 (.seq (.reg [a 105 (.p (.mv (t 9))),
 a 106 (.p (.bin .add (t 105) (k (.int .i64 1)))),
 a 12 (.p (.mv (t 106)))])
 (.block 6 (.loop (.seq (.seq (.reg [a 107 (.p (.mv (t 12))),
 a 108 (.p (.mv (t 2))),
 a 109 (.p (.bin .lss (t 107) (t 108)))])
 (.cond (t 109)
 .skip
 (.exit 6)))
 (.seq (.block 7 (.seq (.seq (.dreg [(a 112 (.p (.mv (t 3))), []),
 (a 113 (.p (.mv (t 0))), []),
 (a 114 (.p (.mv (t 12))), []),
 (a 115 (.p (.idxS 2 (t 113) (t 114))), []),
 (a 116 (.r (.load (some 2) (t 115))), []),
 (a 117 (.p (.mv (t 0))), []),
 (a 118 (.p (.mv (t 12))), []),
 (a 119 (.p (.bin .sub (t 118) (k (.int .i64 1)))), []),
 (a 120 (.p (.idxS 2 (t 117) (t 119))), []),
 (a 121 (.r (.load (some 2) (t 120))), []),
 (a 122 (.callv (t 112) [(t 116),(t 121)]), []),
 (a 123 (.p (.bin .lss (t 122) (k (.int .i64 0)))), []),
 (a 124 (.p (.un .not (t 123))), [])])
 (.cond (t 124)
 (.exit 6)
 .skip))
 (.dreg [(a 125 (.p (.mv (t 0))), []),
 (a 126 (.p (.mv (t 12))), []),
 (a 127 (.p (.mv (t 0))), []),
 (a 128 (.p (.mv (t 12))), []),
 (a 129 (.p (.bin .sub (t 128) (k (.int .i64 1)))), []),
 (a 130 (.p (.mv (t 0))), []),
 (a 131 (.p (.mv (t 12))), []),
 (a 132 (.p (.bin .sub (t 131) (k (.int .i64 1)))), []),
 (a 133 (.p (.idxS 2 (t 130) (t 132))), []),
 (a 134 (.r (.load (some 2) (t 133))), []),
 (a 135 (.p (.mv (t 0))), []),
 (a 136 (.p (.mv (t 12))), []),
 (a 137 (.p (.idxS 2 (t 135) (t 136))), []),
 (a 138 (.r (.load (some 2) (t 137))), []),
 (a 139 (.p (.idxS 2 (t 125) (t 126))), []),
 (b (.e (.store 2 (t 139) (t 134))), []),
 (a 140 (.p (.idxS 2 (t 127) (t 129))), []),
 (b (.e (.store 2 (t 140) (t 138))), [])])))
 (.reg [a 110 (.p (.mv (t 12))),
 a 111 (.p (.bin .add (t 110) (k (.int .i64 1)))),
 a 12 (.p (.mv (t 111)))]))))))
 .skip))))))))
 (.reg [a 17 (.p (.mv (t 10))),
 a 18 (.p (.bin .add (t 17) (k (.int .i64 1)))),
 a 10 (.p (.mv (t 18)))]))))))
 (.seq (.reg [a 8 (.p (.mv (k (.bool false))))])
 .ret)))), [.tmp 8]⟩
/-- slices.partitionEqualCmpFunc(stoa/merge.span) -/
def F_slices_partitionEqualCmpFunc_merge_span : AFn := ⟨5, 90, (.seq (.reg [a 10 (.p (.mv (k (.int .i64 0))))])
 (.seq (.dreg [(a 13 (.p (.mv (t 0))), []),
 (a 14 (.p (.mv (t 1))), []),
 (a 15 (.p (.mv (t 0))), []),
 (a 16 (.p (.mv (t 3))), []),
 (a 17 (.p (.mv (t 0))), []),
 (a 18 (.p (.mv (t 3))), []),
 (a 19 (.p (.idxS 2 (t 17) (t 18))), []),
 (a 20 (.r (.load (some 2) (t 19))), []),
 (a 21 (.p (.mv (t 0))), []),
 (a 22 (.p (.mv (t 1))), []),
 (a 23 (.p (.idxS 2 (t 21) (t 22))), []),
 (a 24 (.r (.load (some 2) (t 23))), []),
 (a 25 (.p (.idxS 2 (t 13) (t 14))), []),
 (b (.e (.store 2 (t 25) (t 20))), []),
 (a 26 (.p (.idxS 2 (t 15) (t 16))), []),
 (b (.e (.store 2 (t 26) (t 24))), [])])
 (.seq (.reg [a 27 (.p (.mv (t 1))),
 a 28 (.p (.bin .add (t 27) (k (.int .i64 1)))),
 a 29 (.p (.mv (t 2))),
 a 30 (.p (.bin .sub (t 29) (k (.int .i64 1)))),
 a 11 (.p (.mv (t 28))),
 a 12 (.p (.mv (t 30)))])
 (.seq (.block 0 (.loop (.block 1 (.seq (.block 2 (.loop (.seq (.seq (.dreg [(a 31 (.p (.mv (t 11))), []),
 (a 32 (.p (.mv (t 12))), []),
 (a 33 (.p (.bin .leq (t 31) (t 32))), []),
 (a 34 (.p (.mv (t 33))), []),
 (c 35 (.p (.mv (t 4))) 34 true, []),
 (c 36 (.p (.mv (t 0))) 34 true, []),
 (c 37 (.p (.mv (t 1))) 34 true, []),
 (c 38 (.p (.idxS 2 (t 36) (t 37))) 34 true, []),
 (c 39 (.r (.load (some 2) (t 38))) 34 true, []),
 (c 40 (.p (.mv (t 0))) 34 true, []),
 (c 41 (.p (.mv (t 11))) 34 true, []),
 (c 42 (.p (.idxS 2 (t 40) (t 41))) 34 true, []),
 (c 43 (.r (.load (some 2) (t 42))) 34 true, []),
 (c 44 (.callv (t 35) [(t 39),(t 43)]) 34 true, []),
 (c 45 (.p (.bin .lss (t 44) (k (.int .i64 0)))) 34 true, []),
 (c 46 (.p (.un .not (t 45))) 34 true, []),
 (a 47 (.p (.sel (t 34) (t 46) (k (.bool false)))), [])])
 (.cond (t 47)
 .skip
 (.exit 2)))
 (.block 3 (.reg [a 48 (.p (.mv (t 11))),
 a 49 (.p (.bin .add (t 48) (k (.int .i64 1)))),
 a 11 (.p (.mv (t 49)))])))))
 (.seq (.block 4 (.loop (.seq (.seq (.dreg [(a 50 (.p (.mv (t 11))), []),
 (a 51 (.p (.mv (t 12))), []),
 (a 52 (.p (.bin .leq (t 50) (t 51))), []),
 (a 53 (.p (.mv (t 52))), []),
 (c 54 (.p (.mv (t 4))) 53 true, []),
 (c 55 (.p (.mv (t 0))) 53 true, []),
 (c 56 (.p (.mv (t 1))) 53 true, []),
 (c 57 (.p (.idxS 2 (t 55) (t 56))) 53 true, []),
 (c 58 (.r (.load (some 2) (t 57))) 53 true, []),
 (c 59 (.p (.mv (t 0))) 53 true, []),
 (c 60 (.p (.mv (t 12))) 53 true, []),
 (c 61 (.p (.idxS 2 (t 59) (t 60))) 53 true, []),
 (c 62 (.r (.load (some 2) (t 61))) 53 true, []),
 (c 63 (.callv (t 54) [(t 58),(t 62)]) 53 true, []),
 (c 64 (.p (.bin .lss (t 63) (k (.int .i64 0)))) 53 true, []),
 (a 65 (.p (.sel (t 53) (t 64) (k (.bool false)))), [])])
 (.cond (t 65)
 .skip
 (.exit 4)))
 (.block 5 (.reg [a 66 (.p (.mv (t 12))),
 a 67 (.p (.bin .sub (t 66) (k (.int .i64 1)))),
 a 12 (.p (.mv (t 67)))])))))
 (.seq (.seq (.reg [a 68 (.p (.mv (t 11))),
 a 69 (.p (.mv (t 12))),
 a 70 (.p (.bin .gtr (t 68) (t 69)))])
 (.cond (t 70)
 (.exit 0)
 .skip))
 (.seq (.dreg [(a 71 (.p (.mv (t 0))), []),
 (a 72 (.p (.mv (t 11))), []),
 (a 73 (.p (.mv (t 0))), []),
 (a 74 (.p (.mv (t 12))), []),
 (a 75 (.p (.mv (t 0))), []),
 (a 76 (.p (.mv (t 12))), []),
 (a 77 (.p (.idxS 2 (t 75) (t 76))), []),
 (a 78 (.r (.load (some 2) (t 77))), []),
 (a 79 (.p (.mv (t 0))), []),
 (a 80 (.p (.mv (t 11))), []),
 (a 81 (.p (.idxS 2 (t 79) (t 80))), []),
 (a 82 (.r (.load (some 2) (t 81))), []),
 (a 83 (.p (.idxS 2 (t 71) (t 72))), []),
 (b (.e (.store 2 (t 83) (t 78))), []),
 (a 84 (.p (.idxS 2 (t 73) (t 74))), []),
 (b (.e (.store 2 (t 84) (t 82))), [])])
 (.seq (.reg [a 85 (.p (.mv (t 11))),
 a 86 (.p (.bin .add (t 85) (k (.int .i64 1)))),
 a 11 (.p (.mv (t 86)))])
 (.reg [a 87 (.p (.mv (t 12))),
 a 88 (.p (.bin .sub (t 87) (k (.int .i64 1)))),
 a 12 (.p (.mv (t 88)))])))))))))
 (.seq (.reg [a 89 (.p (.mv (t 11))),
 a 10 (.p (.mv (t 89)))])
 .ret))))), [.tmp 10]⟩
/-- slices.partitionCmpFunc(stoa/merge.span) -/
def F_slices_partitionCmpFunc_merge_span : AFn := ⟨5, 178, (.seq (.reg [a 10 (.p (.mv (k (.int .i64 0)))),
 a 11 (.p (.mv (k (.bool false))))])
 (.seq (.dreg [(a 14 (.p (.mv (t 0))), []),
 (a 15 (.p (.mv (t 1))), []),
 (a 16 (.p (.mv (t 0))), []),
 (a 17 (.p (.mv (t 3))), []),
 (a 18 (.p (.mv (t 0))), []),
 (a 19 (.p (.mv (t 3))), []),
 (a 20 (.p (.idxS 2 (t 18) (t 19))), []),
 (a 21 (.r (.load (some 2) (t 20))), []),
 (a 22 (.p (.mv (t 0))), []),
 (a 23 (.p (.mv (t 1))), []),
 (a 24 (.p (.idxS 2 (t 22) (t 23))), []),
 (a 25 (.r (.load (some 2) (t 24))), []),
 (a 26 (.p (.idxS 2 (t 14) (t 15))), []),
 (b (.e (.store 2 (t 26) (t 21))), []),
 (a 27 (.p (.idxS 2 (t 16) (t 17))), []),
 (b (.e (.store 2 (t 27) (t 25))), [])])
 (.seq (.reg [a 28 (.p (.mv (t 1))),
 a 29 (.p (.bin .add (t 28) (k (.int .i64 1)))),
 a 30 (.p (.mv (t 2))),
 a 31 (.p (.bin .sub (t 30) (k (.int .i64 1)))),
 a 12 (.p (.mv (t 29))),
 a 13 (.p (.mv (t 31)))])
 (.seq (.block 0 (.loop (.seq (.seq (.dreg [(a 32 (.p (.mv (t 12))), []),
 (a 33 (.p (.mv (t 13))), []),
 (a 34 (.p (.bin .leq (t 32) (t 33))), []),
 (a 35 (.p (.mv (t 34))), []),
 (c 36 (.p (.mv (t 4))) 35 true, []),
 (c 37 (.p (.mv (t 0))) 35 true, []),
 (c 38 (.p (.mv (t 12))) 35 true, []),
 (c 39 (.p (.idxS 2 (t 37) (t 38))) 35 true, []),
 (c 40 (.r (.load (some 2) (t 39))) 35 true, []),
 (c 41 (.p (.mv (t 0))) 35 true, []),
 (c 42 (.p (.mv (t 1))) 35 true, []),
 (c 43 (.p (.idxS 2 (t 41) (t 42))) 35 true, []),
 (c 44 (.r (.load (some 2) (t 43))) 35 true, []),
 (c 45 (.callv (t 36) [(t 40),(t 44)]) 35 true, []),
 (c 46 (.p (.bin .lss (t 45) (k (.int .i64 0)))) 35 true, []),
 (a 47 (.p (.sel (t 35) (t 46) (k (.bool false)))), [])])
 (.cond (t 47)
 .skip
 (.exit 0)))
 (.block 1 (.reg [a 48 (.p (.mv (t 12))),
 a 49 (.p (.bin .add (t 48) (k (.int .i64 1)))),
 a 12 (.p (.mv (t 49)))])))))
 (.seq (.block 2 (.loop (.seq (.seq (.dreg [(a 50 (.p (.mv (t 12))), []),
 (a 51 (.p (.mv (t 13))), []),
 (a 52 (.p (.bin .leq (t 50) (t 51))), []),
 (a 53 (.p (.mv (t 52))), []),
 (c 54 (.p (.mv (t 4))) 53 true, []),
 (c 55 (.p (.mv (t 0))) 53 true, []),
 (c 56 (.p (.mv (t 13))) 53 true, []),
 (c 57 (.p (.idxS 2 (t 55) (t 56))) 53 true, []),
 (c 58 (.r (.load (some 2) (t 57))) 53 true, []),
 (c 59 (.p (.mv (t 0))) 53 true, []),
 (c 60 (.p (.mv (t 1))) 53 true, []),
 (c 61 (.p (.idxS 2 (t 59) (t 60))) 53 true, []),
 (c 62 (.r (.load (some 2) (t 61))) 53 true, []),
 (c 63 (.callv (t 54) [(t 58),(t 62)]) 53 true, []),
 (c 64 (.p (.bin .lss (t 63) (k (.int .i64 0)))) 53 true, []),
 (c 65 (.p (.un .not (t 64))) 53 true, []),
 (a 66 (.p (.sel (t 53) (t 65) (k (.bool false)))), [])])
 (.cond (t 66)
 .skip
 (.exit 2)))
 (.block 3 (.reg [a 67 (.p (.mv (t 13))),
 a 68 (.p (.bin .sub (t 67) (k (.int .i64 1)))),
 a 13 (.p (.mv (t 68)))])))))
 (.seq (.seq (.reg [a 69 (.p (.mv (t 12))),
 a 70 (.p (.mv (t 13))),
 a 71 (.p (.bin .gtr (t 69) (t 70)))])
 (.cond (t 71)
 (.seq (.dreg [(a 72 (.p (.mv (t 0))), []),
 (a 73 (.p (.mv (t 13))), []),
 (a 74 (.p (.mv (t 0))), []),
 (a 75 (.p (.mv (t 1))), []),
 (a 76 (.p (.mv (t 0))), []),
 (a 77 (.p (.mv (t 1))), []),
 (a 78 (.p (.idxS 2 (t 76) (t 77))), []),
 (a 79 (.r (.load (some 2) (t 78))), []),
 (a 80 (.p (.mv (t 0))), []),
 (a 81 (.p (.mv (t 13))), []),
 (a 82 (.p (.idxS 2 (t 80) (t 81))), []),
 (a 83 (.r (.load (some 2) (t 82))), []),
 (a 84 (.p (.idxS 2 (t 72) (t 73))), []),
 (b (.e (.store 2 (t 84) (t 79))), []),
 (a 85 (.p (.idxS 2 (t 74) (t 75))), []),
 (b (.e (.store 2 (t 85) (t 83))), [])])
 (.seq (.reg [a 86 (.p (.mv (t 13))),
 a 10 (.p (.mv (t 86))),
 a 11 (.p (.mv (k (.bool true))))])
 .ret))
 .skip))
 (.seq (.dreg [(a 87 (.p (.mv (t 0))), []),
 (a 88 (.p (.mv (t 12))), []),
 (a 89 (.p (.mv (t 0))), []),
 (a 90 (.p (.mv (t 13))), []),
 (a 91 (.p (.mv (t 0))), []),
 (a 92 (.p (.mv (t 13))), []),
 (a 93 (.p (.idxS 2 (t 91) (t 92))), []),
 (a 94 (.r (.load (some 2) (t 93))), []),
 (a 95 (.p (.mv (t 0))), []),
 (a 96 (.p (.mv (t 12))), []),
 (a 97 (.p (.idxS 2 (t 95) (t 96))), []),
 (a 98 (.r (.load (some 2) (t 97))), []),
 (a 99 (.p (.idxS 2 (t 87) (t 88))), []),
 (b (.e (.store 2 (t 99) (t 94))), []),
 (a 100 (.p (.idxS 2 (t 89) (t 90))), []),
 (b (.e (.store 2 (t 100) (t 98))), [])])
 (.seq (.reg [a 101 (.p (.mv (t 12))),
 a 102 (.p (.bin .add (t 101) (k (.int .i64 1)))),
 a 12 (.p (.mv (t 102)))])
 (.seq (.reg [a 103 (.p (.mv (t 13))),
 a 104 (.p (.bin .sub (t 103) (k (.int .i64 1)))),
 a 13 (.p (.mv (t 104)))])
 (.seq (.block 4 (.loop (.block 5 (.seq (.block 6 (.loop (.seq (.seq (.dreg [(a 105 (.p (.mv (t 12))), []),
 (a 106 (.p (.mv (t 13))), []),
 (a 107 (.p (.bin .leq (t 105) (t 106))), []),
 (a 108 (.p (.mv (t 107))), []),
 (c 109 (.p (.mv (t 4))) 108 true, []),
 (c 110 (.p (.mv (t 0))) 108 true, []),
 (c 111 (.p (.mv (t 12))) 108 true, []),
 (c 112 (.p (.idxS 2 (t 110) (t 111))) 108 true, []),
 (c 113 (.r (.load (some 2) (t 112))) 108 true, []),
 (c 114 (.p (.mv (t 0))) 108 true, []),
 (c 115 (.p (.mv (t 1))) 108 true, []),
 (c 116 (.p (.idxS 2 (t 114) (t 115))) 108 true, []),
 (c 117 (.r (.load (some 2) (t 116))) 108 true, []),
 (c 118 (.callv (t 109) [(t 113),(t 117)]) 108 true, []),
 (c 119 (.p (.bin .lss (t 118) (k (.int .i64 0)))) 108 true, []),
 (a 120 (.p (.sel (t 108) (t 119) (k (.bool false)))), [])])
 (.cond (t 120)
 .skip
 (.exit 6)))
 (.block 7 (.reg [a 121 (.p (.mv (t 12))),
 a 122 (.p (.bin .add (t 121) (k (.int .i64 1)))),
 a 12 (.p (.mv (t 122)))])))))
 (.seq (.block 8 (.loop (.seq (.seq (.dreg [(a 123 (.p (.mv (t 12))), []),
 (a 124 (.p (.mv (t 13))), []),
 (a 125 (.p (.bin .leq (t 123) (t 124))), []),
 (a 126 (.p (.mv (t 125))), []),
 (c 127 (.p (.mv (t 4))) 126 true, []),
 (c 128 (.p (.mv (t 0))) 126 true, []),
 (c 129 (.p (.mv (t 13))) 126 true, []),
 (c 130 (.p (.idxS 2 (t 128) (t 129))) 126 true, []),
 (c 131 (.r (.load (some 2) (t 130))) 126 true, []),
 (c 132 (.p (.mv (t 0))) 126 true, []),
 (c 133 (.p (.mv (t 1))) 126 true, []),
 (c 134 (.p (.idxS 2 (t 132) (t 133))) 126 true, []),
 (c 135 (.r (.load (some 2) (t 134))) 126 true, []),
 (c 136 (.callv (t 127) [(t 131),(t 135)]) 126 true, []),
 (c 137 (.p (.bin .lss (t 136) (k (.int .i64 0)))) 126 true, []),
 (c 138 (.p (.un .not (t 137))) 126 true, []),
 (a 139 (.p (.sel (t 126) (t 138) (k (.bool false)))), [])])
 (.cond (t 139)
 .skip
 (.exit 8)))
 (.block 9 (.reg [a 140 (.p (.mv (t 13))),
 a 141 (.p (.bin .sub (t 140) (k (.int .i64 1)))),
 a 13 (.p (.mv (t 141)))])))))
 (.seq (.seq (.reg [a 142 (.p (.mv (t 12))),
 a 143 (.p (.mv (t 13))),
 a 144 (.p (.bin .gtr (t 142) (t 143)))])
 (.cond (t 144)
 (.exit 4)
 .skip))
 (.seq (.dreg [(a 145 (.p (.mv (t 0))), []),
 (a 146 (.p (.mv (t 12))), []),
 (a 147 (.p (.mv (t 0))), []),
 (a 148 (.p (.mv (t 13))), []),
 (a 149 (.p (.mv (t 0))), []),
 (a 150 (.p (.mv (t 13))), []),
 (a 151 (.p (.idxS 2 (t 149) (t 150))), []),
 (a 152 (.r (.load (some 2) (t 151))), []),
 (a 153 (.p (.mv (t 0))), []),
 (a 154 (.p (.mv (t 12))), []),
 (a 155 (.p (.idxS 2 (t 153) (t 154))), []),
 (a 156 (.r (.load (some 2) (t 155))), []),
 (a 157 (.p (.idxS 2 (t 145) (t 146))), []),
 (b (.e (.store 2 (t 157) (t 152))), []),
 (a 158 (.p (.idxS 2 (t 147) (t 148))), []),
 (b (.e (.store 2 (t 158) (t 156))), [])])
 (.seq (.reg [a 159 (.p (.mv (t 12))),
 a 160 (.p (.bin .add (t 159) (k (.int .i64 1)))),
 a 12 (.p (.mv (t 160)))])
 (.reg [a 161 (.p (.mv (t 13))),
 a 162 (.p (.bin .sub (t 161) (k (.int .i64 1)))),
 a 13 (.p (.mv (t 162)))])))))))))
 (.seq (.dreg [(a 163 (.p (.mv (t 0))), []),
 (a 164 (.p (.mv (t 13))), []),
 (a 165 (.p (.mv (t 0))), []),
 (a 166 (.p (.mv (t 1))), []),
 (a 167 (.p (.mv (t 0))), []),
 (a 168 (.p (.mv (t 1))), []),
 (a 169 (.p (.idxS 2 (t 167) (t 168))), []),
 (a 170 (.r (.load (some 2) (t 169))), []),
 (a 171 (.p (.mv (t 0))), []),
 (a 172 (.p (.mv (t 13))), []),
 (a 173 (.p (.idxS 2 (t 171) (t 172))), []),
 (a 174 (.r (.load (some 2) (t 173))), []),
 (a 175 (.p (.idxS 2 (t 163) (t 164))), []),
 (b (.e (.store 2 (t 175) (t 170))), []),
 (a 176 (.p (.idxS 2 (t 165) (t 166))), []),
 (b (.e (.store 2 (t 176) (t 174))), [])])
 (.seq (.reg [a 177 (.p (.mv (t 13))),
 a 10 (.p (.mv (t 177))),
 a 11 (.p (.mv (k (.bool false))))])
 .ret)))))))))))), [.tmp 10,.tmp 11]⟩
/-- math/bits.Len32 -/
def F_math_bits_Len32 : AFn := ⟨1, 19, (.seq (.reg [a 2 (.p (.mv (k (.int .i64 0))))])
 (.seq (.seq (.reg [a 3 (.p (.mv (t 0))),
 a 4 (.p (.bin .geq (t 3) (k (.int .u32 65536))))])
 (.cond (t 4)
 (.seq (.reg [a 5 (.p (.mv (t 0))),
 a 6 (.p (.bin .shr (t 5) (k (.int .u64 16)))),
 a 0 (.p (.mv (t 6)))])
 (.reg [a 2 (.p (.mv (k (.int .i64 16))))]))
 .skip))
 (.seq (.seq (.reg [a 7 (.p (.mv (t 0))),
 a 8 (.p (.bin .geq (t 7) (k (.int .u32 256))))])
 (.cond (t 8)
 (.seq (.reg [a 9 (.p (.mv (t 0))),
 a 10 (.p (.bin .shr (t 9) (k (.int .u64 8)))),
 a 0 (.p (.mv (t 10)))])
 (.reg [a 11 (.p (.mv (t 2))),
 a 12 (.p (.bin .add (t 11) (k (.int .i64 8)))),
 a 2 (.p (.mv (t 12)))]))
 .skip))
 (.seq (.reg [a 13 (.p (.mv (t 2))),
 a 14 (.p (.mv (t 0))),
 a 15 (.p (.conv .u8 (t 14))),
 a 16 (.p (.strIdx (k (.str [0,1,2,2,3,3,3,3,4,4,4,4,4,4,4,4,5,5,5,5,5,5,5,5,5,5,5,5,5,5,5,5,6,6,6,6,6,6,6,6,6,6,6,6,6,6,6,6,6,6,6,6,6,6,6,6,6,6,6,6,6,6,6,6,7,7,7,7,7,7,7,7,7,7,7,7,7,7,7,7,7,7,7,7,7,7,7,7,7,7,7,7,7,7,7,7,7,7,7,7,7,7,7,7,7,7,7,7,7,7,7,7,7,7,7,7,7,7,7,7,7,7,7,7,7,7,7,7,8,8,8,8,8,8,8,8,8,8,8,8,8,8,8,8,8,8,8,8,8,8,8,8,8,8,8,8,8,8,8,8,8,8,8,8,8,8,8,8,8,8,8,8,8,8,8,8,8,8,8,8,8,8,8,8,8,8,8,8,8,8,8,8,8,8,8,8,8,8,8,8,8,8,8,8,8,8,8,8,8,8,8,8,8,8,8,8,8,8,8,8,8,8,8,8,8,8,8,8,8,8,8,8,8,8,8,8,8,8,8,8,8,8,8,8,8,8,8,8,8,8,8,8,8,8,8,8])) (t 15))),
 a 17 (.p (.conv .i64 (t 16))),
 a 18 (.p (.bin .add (t 13) (t 17))),
 a 2 (.p (.mv (t 18)))])
 .ret)))), [.tmp 2]⟩
/-- math/bits.Len64 -/
def F_math_bits_Len64 : AFn := ⟨1, 25, (.seq (.reg [a 2 (.p (.mv (k (.int .i64 0))))])
 (.seq (.seq (.reg [a 3 (.p (.mv (t 0))),
 a 4 (.p (.bin .geq (t 3) (k (.int .u64 4294967296))))])
 (.cond (t 4)
 (.seq (.reg [a 5 (.p (.mv (t 0))),
 a 6 (.p (.bin .shr (t 5) (k (.int .u64 32)))),
 a 0 (.p (.mv (t 6)))])
 (.reg [a 2 (.p (.mv (k (.int .i64 32))))]))
 .skip))
 (.seq (.seq (.reg [a 7 (.p (.mv (t 0))),
 a 8 (.p (.bin .geq (t 7) (k (.int .u64 65536))))])
 (.cond (t 8)
 (.seq (.reg [a 9 (.p (.mv (t 0))),
 a 10 (.p (.bin .shr (t 9) (k (.int .u64 16)))),
 a 0 (.p (.mv (t 10)))])
 (.reg [a 11 (.p (.mv (t 2))),
 a 12 (.p (.bin .add (t 11) (k (.int .i64 16)))),
 a 2 (.p (.mv (t 12)))]))
 .skip))
 (.seq (.seq (.reg [a 13 (.p (.mv (t 0))),
 a 14 (.p (.bin .geq (t 13) (k (.int .u64 256))))])
 (.cond (t 14)
 (.seq (.reg [a 15 (.p (.mv (t 0))),
 a 16 (.p (.bin .shr (t 15) (k (.int .u64 8)))),
 a 0 (.p (.mv (t 16)))])
 (.reg [a 17 (.p (.mv (t 2))),
 a 18 (.p (.bin .add (t 17) (k (.int .i64 8)))),
 a 2 (.p (.mv (t 18)))]))
 .skip))
 (.seq (.reg [a 19 (.p (.mv (t 2))),
 a 20 (.p (.mv (t 0))),
 a 21 (.p (.conv .u8 (t 20))),
 a 22 (.p (.strIdx (k (.str [0,1,2,2,3,3,3,3,4,4,4,4,4,4,4,4,5,5,5,5,5,5,5,5,5,5,5,5,5,5,5,5,6,6,6,6,6,6,6,6,6,6,6,6,6,6,6,6,6,6,6,6,6,6,6,6,6,6,6,6,6,6,6,6,7,7,7,7,7,7,7,7,7,7,7,7,7,7,7,7,7,7,7,7,7,7,7,7,7,7,7,7,7,7,7,7,7,7,7,7,7,7,7,7,7,7,7,7,7,7,7,7,7,7,7,7,7,7,7,7,7,7,7,7,7,7,7,7,8,8,8,8,8,8,8,8,8,8,8,8,8,8,8,8,8,8,8,8,8,8,8,8,8,8,8,8,8,8,8,8,8,8,8,8,8,8,8,8,8,8,8,8,8,8,8,8,8,8,8,8,8,8,8,8,8,8,8,8,8,8,8,8,8,8,8,8,8,8,8,8,8,8,8,8,8,8,8,8,8,8,8,8,8,8,8,8,8,8,8,8,8,8,8,8,8,8,8,8,8,8,8,8,8,8,8,8,8,8,8,8,8,8,8,8,8,8,8,8,8,8,8,8,8,8,8,8])) (t 21))),
 a 23 (.p (.conv .i64 (t 22))),
 a 24 (.p (.bin .add (t 19) (t 23))),
 a 2 (.p (.mv (t 24)))])
 .ret))))), [.tmp 2]⟩
/-- slices.insertionSortOrdered(int) -/
def F_slices_insertionSortOrdered_int : AFn := ⟨3, 49, (.seq (.reg [a 8 (.p (.mv (t 1))),
 a 9 (.p (.bin .add (t 8) (k (.int .i64 1)))),
 a 6 (.p (.mv (t 9)))])
 (.block 0 (.loop (.seq (.seq (.reg [a 10 (.p (.mv (t 6))),
 a 11 (.p (.mv (t 2))),
 a 12 (.p (.bin .lss (t 10) (t 11)))])
 (.cond (t 12)
 .skip
 (.exit 0)))
 (.seq (.block 1 (.seq (.reg [a 15 (.p (.mv (t 6))),
 a 7 (.p (.mv (t 15)))])
 (.block 2 (.loop (.seq (.seq (.dreg [(a 16 (.p (.mv (t 7))), []),
 (a 17 (.p (.mv (t 1))), []),
 (a 18 (.p (.bin .gtr (t 16) (t 17))), []),
 (a 19 (.p (.mv (t 18))), []),
 (c 20 (.p (.mv (t 0))) 19 true, []),
 (c 21 (.p (.mv (t 7))) 19 true, []),
 (c 22 (.p (.idxS 1 (t 20) (t 21))) 19 true, []),
 (c 23 (.r (.load none (t 22))) 19 true, []),
 (c 24 (.p (.mv (t 0))) 19 true, []),
 (c 25 (.p (.mv (t 7))) 19 true, []),
 (c 26 (.p (.bin .sub (t 25) (k (.int .i64 1)))) 19 true, []),
 (c 27 (.p (.idxS 1 (t 24) (t 26))) 19 true, []),
 (c 28 (.r (.load none (t 27))) 19 true, []),
 (c 29 (.call N_cmp_Less_int [(t 23),(t 28)]) 19 true, []),
 (a 30 (.p (.sel (t 19) (t 29) (k (.bool false)))), [])])
 (.cond (t 30)
 .skip
 (.exit 2)))
 (.seq (.block 3 (.dreg [(a 33 (.p (.mv (t 0))), []),
 (a 34 (.p (.mv (t 7))), []),
 (a 35 (.p (.mv (t 0))), []),
 (a 36 (.p (.mv (t 7))), []),
 (a 37 (.p (.bin .sub (t 36) (k (.int .i64 1)))), []),
 (a 38 (.p (.mv (t 0))), []),
 (a 39 (.p (.mv (t 7))), []),
 (a 40 (.p (.bin .sub (t 39) (k (.int .i64 1)))), []),
 (a 41 (.p (.idxS 1 (t 38) (t 40))), []),
 (a 42 (.r (.load none (t 41))), []),
 (a 43 (.p (.mv (t 0))), []),
 (a 44 (.p (.mv (t 7))), []),
 (a 45 (.p (.idxS 1 (t 43) (t 44))), []),
 (a 46 (.r (.load none (t 45))), []),
 (a 47 (.p (.idxS 1 (t 33) (t 34))), []),
 (b (.e (.store 1 (t 47) (t 42))), []),
 (a 48 (.p (.idxS 1 (t 35) (t 37))), []),
 (b (.e (.store 1 (t 48) (t 46))), [])]))
 (.reg [a 31 (.p (.mv (t 7))),
 a 32 (.p (.bin .sub (t 31) (k (.int .i64 1)))),
 a 7 (.p (.mv (t 32)))])))))))
 (.reg [a 13 (.p (.mv (t 6))),
 a 14 (.p (.bin .add (t 13) (k (.int .i64 1)))),
 a 6 (.p (.mv (t 14)))])))))), []⟩
/-- slices.heapSortOrdered(int) -/
def F_slices_heapSortOrdered_int : AFn := ⟨3, 56, (.seq (.reg [a 11 (.p (.mv (t 1))),
 a 6 (.p (.mv (t 11)))])
 (.seq (.reg [a 7 (.p (.mv (k (.int .i64 0))))])
 (.seq (.reg [a 12 (.p (.mv (t 2))),
 a 13 (.p (.mv (t 1))),
 a 14 (.p (.bin .sub (t 12) (t 13))),
 a 8 (.p (.mv (t 14)))])
 (.seq (.seq (.reg [a 15 (.p (.mv (t 8))),
 a 16 (.p (.bin .sub (t 15) (k (.int .i64 1)))),
 a 17 (.p (.bin .quo (t 16) (k (.int .i64 2)))),
 a 9 (.p (.mv (t 17)))])
 (.block 0 (.loop (.seq (.seq (.reg [a 18 (.p (.mv (t 9))),
 a 19 (.p (.bin .geq (t 18) (k (.int .i64 0))))])
 (.cond (t 19)
 .skip
 (.exit 0)))
 (.seq (.block 1 (.reg [a 22 (.p (.mv (t 0))),
 a 23 (.p (.mv (t 9))),
 a 24 (.p (.mv (t 8))),
 a 25 (.p (.mv (t 6))),
 a 26 (.call N_slices_siftDownOrdered_int [(t 22),(t 23),(t 24),(t 25)])]))
 (.reg [a 20 (.p (.mv (t 9))),
 a 21 (.p (.bin .sub (t 20) (k (.int .i64 1)))),
 a 9 (.p (.mv (t 21)))]))))))
 (.seq (.reg [a 27 (.p (.mv (t 8))),
 a 28 (.p (.bin .sub (t 27) (k (.int .i64 1)))),
 a 10 (.p (.mv (t 28)))])
 (.block 2 (.loop (.seq (.seq (.reg [a 29 (.p (.mv (t 10))),
 a 30 (.p (.bin .geq (t 29) (k (.int .i64 0))))])
 (.cond (t 30)
 .skip
 (.exit 2)))
 (.seq (.block 3 (.seq (.dreg [(a 33 (.p (.mv (t 0))), []),
 (a 34 (.p (.mv (t 6))), []),
 (a 35 (.p (.mv (t 0))), []),
 (a 36 (.p (.mv (t 6))), []),
 (a 37 (.p (.mv (t 10))), []),
 (a 38 (.p (.bin .add (t 36) (t 37))), []),
 (a 39 (.p (.mv (t 0))), []),
 (a 40 (.p (.mv (t 6))), []),
 (a 41 (.p (.mv (t 10))), []),
 (a 42 (.p (.bin .add (t 40) (t 41))), []),
 (a 43 (.p (.idxS 1 (t 39) (t 42))), []),
 (a 44 (.r (.load none (t 43))), []),
 (a 45 (.p (.mv (t 0))), []),
 (a 46 (.p (.mv (t 6))), []),
 (a 47 (.p (.idxS 1 (t 45) (t 46))), []),
 (a 48 (.r (.load none (t 47))), []),
 (a 49 (.p (.idxS 1 (t 33) (t 34))), []),
 (b (.e (.store 1 (t 49) (t 44))), []),
 (a 50 (.p (.idxS 1 (t 35) (t 38))), []),
 (b (.e (.store 1 (t 50) (t 48))), [])])
 (.reg [a 51 (.p (.mv (t 0))),
 a 52 (.p (.mv (t 7))),
 a 53 (.p (.mv (t 10))),
 a 54 (.p (.mv (t 6))),
 a 55 (.call N_slices_siftDownOrdered_int [(t 51),(t 52),(t 53),(t 54)])])))
 (.reg [a 31 (.p (.mv (t 10))),
 a 32 (.p (.bin .sub (t 31) (k (.int .i64 1)))),
 a 10 (.p (.mv (t 32)))])))))))))), []⟩
/-- slices.breakPatternsOrdered(int) -/
def F_slices_breakPatternsOrdered_int : AFn := ⟨3, 65, (.seq (.reg [a 11 (.p (.mv (t 2))),
 a 12 (.p (.mv (t 1))),
 a 13 (.p (.bin .sub (t 11) (t 12))),
 a 6 (.p (.mv (t 13)))])
 (.seq (.reg [a 14 (.p (.mv (t 6))),
 a 15 (.p (.bin .geq (t 14) (k (.int .i64 8))))])
 (.cond (t 15)
 (.seq (.reg [a 16 (.p (.mv (t 6))),
 a 17 (.p (.conv .u64 (t 16))),
 a 7 (.n (.alloc [(.int .u64 0)])),
 b (.e (.store 1 (t 7) (t 17)))])
 (.seq (.reg [a 18 (.p (.mv (t 6))),
 a 19 (.call N_slices_nextPowerOfTwo [(t 18)]),
 a 8 (.p (.mv (t 19)))])
 (.seq (.reg [a 20 (.p (.mv (t 1))),
 a 21 (.p (.mv (t 6))),
 a 22 (.p (.bin .quo (t 21) (k (.int .i64 4)))),
 a 23 (.p (.bin .mul (t 22) (k (.int .i64 2)))),
 a 24 (.p (.bin .add (t 20) (t 23))),
 a 25 (.p (.bin .sub (t 24) (k (.int .i64 1)))),
 a 9 (.p (.mv (t 25)))])
 (.block 0 (.loop (.seq (.seq (.reg [a 26 (.p (.mv (t 9))),
 a 27 (.p (.mv (t 1))),
 a 28 (.p (.mv (t 6))),
 a 29 (.p (.bin .quo (t 28) (k (.int .i64 4)))),
 a 30 (.p (.bin .mul (t 29) (k (.int .i64 2)))),
 a 31 (.p (.bin .add (t 27) (t 30))),
 a 32 (.p (.bin .add (t 31) (k (.int .i64 1)))),
 a 33 (.p (.bin .leq (t 26) (t 32)))])
 (.cond (t 33)
 .skip
 (.exit 0)))
 (.seq (.block 1 (.seq (.reg [a 36 (.call N_slices_xorshift_Next [(t 7)]),
 a 37 (.p (.mv (t 8))),
 a 38 (.p (.bin .sub (t 37) (k (.int .u64 1)))),
 a 39 (.p (.bin .and (t 36) (t 38))),
 a 40 (.p (.conv .i64 (t 39))),
 a 10 (.p (.mv (t 40)))])
 (.seq (.seq (.reg [a 41 (.p (.mv (t 10))),
 a 42 (.p (.mv (t 6))),
 a 43 (.p (.bin .geq (t 41) (t 42)))])
 (.cond (t 43)
 (.reg [a 44 (.p (.mv (t 10))),
 a 45 (.p (.mv (t 6))),
 a 46 (.p (.bin .sub (t 44) (t 45))),
 a 10 (.p (.mv (t 46)))])
 .skip))
 (.dreg [(a 47 (.p (.mv (t 0))), []),
 (a 48 (.p (.mv (t 9))), []),
 (a 49 (.p (.mv (t 0))), []),
 (a 50 (.p (.mv (t 1))), []),
 (a 51 (.p (.mv (t 10))), []),
 (a 52 (.p (.bin .add (t 50) (t 51))), []),
 (a 53 (.p (.mv (t 0))), []),
 (a 54 (.p (.mv (t 1))), []),
 (a 55 (.p (.mv (t 10))), []),
 (a 56 (.p (.bin .add (t 54) (t 55))), []),
 (a 57 (.p (.idxS 1 (t 53) (t 56))), []),
 (a 58 (.r (.load none (t 57))), []),
 (a 59 (.p (.mv (t 0))), []),
 (a 60 (.p (.mv (t 9))), []),
 (a 61 (.p (.idxS 1 (t 59) (t 60))), []),
 (a 62 (.r (.load none (t 61))), []),
 (a 63 (.p (.idxS 1 (t 47) (t 48))), []),
 (b (.e (.store 1 (t 63) (t 58))), []),
 (a 64 (.p (.idxS 1 (t 49) (t 52))), []),
 (b (.e (.store 1 (t 64) (t 62))), [])]))))
 (.reg [a 34 (.p (.mv (t 9))),
 a 35 (.p (.bin .add (t 34) (k (.int .i64 1)))),
 a 9 (.p (.mv (t 35)))]))))))))
 .skip))), []⟩
/-- slices.choosePivotOrdered(int) -/
def F_slices_choosePivotOrdered_int : AFn := ⟨3, 57, (.seq (.reg [a 6 (.p (.mv (k (.int .i64 0)))),
 a 7 (.p (.mv (k (.int .i64 0))))])
 (.seq (.reg [a 13 (.p (.mv (t 2))),
 a 14 (.p (.mv (t 1))),
 a 15 (.p (.bin .sub (t 13) (t 14))),
 a 8 (.p (.mv (t 15)))])
 (.seq (.reg [a 9 (.n (.alloc [(.int .i64 0)]))])
 (.seq (.reg [a 16 (.p (.mv (t 1))),
 a 17 (.p (.mv (t 8))),
 a 18 (.p (.bin .quo (t 17) (k (.int .i64 4)))),
 a 19 (.p (.bin .mul (t 18) (k (.int .i64 1)))),
 a 20 (.p (.bin .add (t 16) (t 19))),
 a 10 (.p (.mv (t 20)))])
 (.seq (.reg [a 21 (.p (.mv (t 1))),
 a 22 (.p (.mv (t 8))),
 a 23 (.p (.bin .quo (t 22) (k (.int .i64 4)))),
 a 24 (.p (.bin .mul (t 23) (k (.int .i64 2)))),
 a 25 (.p (.bin .add (t 21) (t 24))),
 a 11 (.p (.mv (t 25)))])
 (.seq (.reg [a 26 (.p (.mv (t 1))),
 a 27 (.p (.mv (t 8))),
 a 28 (.p (.bin .quo (t 27) (k (.int .i64 4)))),
 a 29 (.p (.bin .mul (t 28) (k (.int .i64 3)))),
 a 30 (.p (.bin .add (t 26) (t 29))),
 a 12 (.p (.mv (t 30)))])
 (.seq (.seq (.reg [a 31 (.p (.mv (t 8))),
 a 32 (.p (.bin .geq (t 31) (k (.int .i64 8))))])
 (.cond (t 32)
 (.seq (.seq (.reg [a 33 (.p (.mv (t 8))),
 a 34 (.p (.bin .geq (t 33) (k (.int .i64 50))))])
 (.cond (t 34)
 (.seq (.reg [a 35 (.p (.mv (t 0))),
 a 36 (.p (.mv (t 10))),
 a 37 (.call N_slices_medianAdjacentOrdered_int [(t 35),(t 36),(t 9)]),
 a 10 (.p (.mv (t 37)))])
 (.seq (.reg [a 38 (.p (.mv (t 0))),
 a 39 (.p (.mv (t 11))),
 a 40 (.call N_slices_medianAdjacentOrdered_int [(t 38),(t 39),(t 9)]),
 a 11 (.p (.mv (t 40)))])
 (.reg [a 41 (.p (.mv (t 0))),
 a 42 (.p (.mv (t 12))),
 a 43 (.call N_slices_medianAdjacentOrdered_int [(t 41),(t 42),(t 9)]),
 a 12 (.p (.mv (t 43)))])))
 .skip))
 (.reg [a 44 (.p (.mv (t 0))),
 a 45 (.p (.mv (t 10))),
 a 46 (.p (.mv (t 11))),
 a 47 (.p (.mv (t 12))),
 a 48 (.call N_slices_medianOrdered_int [(t 44),(t 45),(t 46),(t 47),(t 9)]),
 a 11 (.p (.mv (t 48)))]))
 .skip))
 (.seq (.reg [a 49 (.r (.load none (t 9)))])
 (.block 0 (.seq (.reg [a 52 (.p (.bin .eql (t 49) (k (.int .i64 0)))),
 a 51 (.p (.mv (t 52)))])
 (.cond (t 51)
 (.seq (.reg [a 53 (.p (.mv (t 11))),
 a 6 (.p (.mv (t 53))),
 a 7 (.p (.mv (k (.int .i64 1))))])
 .ret)
 (.seq (.reg [a 55 (.p (.bin .eql (t 49) (k (.int .i64 12)))),
 a 54 (.p (.mv (t 55)))])
 (.cond (t 54)
 (.seq (.reg [a 56 (.p (.mv (t 11))),
 a 6 (.p (.mv (t 56))),
 a 7 (.p (.mv (k (.int .i64 2))))])
 .ret)
 (.seq (.reg [a 50 (.p (.mv (t 11))),
 a 6 (.p (.mv (t 50))),
 a 7 (.p (.mv (k (.int .i64 0))))])
 .ret)))))))))))))), [.tmp 6,.tmp 7]⟩
/-- slices.reverseRangeOrdered(int) -/
def F_slices_reverseRangeOrdered_int : AFn := ⟨3, 32, (.seq (.reg [a 8 (.p (.mv (t 1))),
 a 6 (.p (.mv (t 8)))])
 (.seq (.reg [a 9 (.p (.mv (t 2))),
 a 10 (.p (.bin .sub (t 9) (k (.int .i64 1)))),
 a 7 (.p (.mv (t 10)))])
 (.block 0 (.loop (.seq (.seq (.reg [a 11 (.p (.mv (t 6))),
 a 12 (.p (.mv (t 7))),
 a 13 (.p (.bin .lss (t 11) (t 12)))])
 (.cond (t 13)
 .skip
 (.exit 0)))
 (.block 1 (.seq (.dreg [(a 14 (.p (.mv (t 0))), []),
 (a 15 (.p (.mv (t 6))), []),
 (a 16 (.p (.mv (t 0))), []),
 (a 17 (.p (.mv (t 7))), []),
 (a 18 (.p (.mv (t 0))), []),
 (a 19 (.p (.mv (t 7))), []),
 (a 20 (.p (.idxS 1 (t 18) (t 19))), []),
 (a 21 (.r (.load none (t 20))), []),
 (a 22 (.p (.mv (t 0))), []),
 (a 23 (.p (.mv (t 6))), []),
 (a 24 (.p (.idxS 1 (t 22) (t 23))), []),
 (a 25 (.r (.load none (t 24))), []),
 (a 26 (.p (.idxS 1 (t 14) (t 15))), []),
 (b (.e (.store 1 (t 26) (t 21))), []),
 (a 27 (.p (.idxS 1 (t 16) (t 17))), []),
 (b (.e (.store 1 (t 27) (t 25))), [])])
 (.seq (.reg [a 28 (.p (.mv (t 6))),
 a 29 (.p (.bin .add (t 28) (k (.int .i64 1)))),
 a 6 (.p (.mv (t 29)))])
 (.reg [a 30 (.p (.mv (t 7))),
 a 31 (.p (.bin .sub (t 30) (k (.int .i64 1)))),
 a 7 (.p (.mv (t 31)))]))))))))), []⟩
/-- slices.partialInsertionSortOrdered(int) -/
def F_slices_partialInsertionSortOrdered_int : AFn := ⟨3, 133, (.seq (.reg [a 6 (.p (.mv (k (.bool false))))])
 (.seq (.reg [a 11 (.p (.mv (t 1))),
 a 12 (.p (.bin .add (t 11) (k (.int .i64 1)))),
 a 7 (.p (.mv (t 12)))])
 (.seq (.seq (.reg [a 8 (.p (.mv (k (.int .i64 0))))])
 (.block 0 (.loop (.seq (.seq (.reg [a 13 (.p (.mv (t 8))),
 a 14 (.p (.bin .lss (t 13) (k (.int .i64 5))))])
 (.cond (t 14)
 .skip
 (.exit 0)))
 (.seq (.block 1 (.seq (.block 2 (.loop (.seq (.seq (.dreg [(a 17 (.p (.mv (t 7))), []),
 (a 18 (.p (.mv (t 2))), []),
 (a 19 (.p (.bin .lss (t 17) (t 18))), []),
 (a 20 (.p (.mv (t 19))), []),
 (c 21 (.p (.mv (t 0))) 20 true, []),
 (c 22 (.p (.mv (t 7))) 20 true, []),
 (c 23 (.p (.idxS 1 (t 21) (t 22))) 20 true, []),
 (c 24 (.r (.load none (t 23))) 20 true, []),
 (c 25 (.p (.mv (t 0))) 20 true, []),
 (c 26 (.p (.mv (t 7))) 20 true, []),
 (c 27 (.p (.bin .sub (t 26) (k (.int .i64 1)))) 20 true, []),
 (c 28 (.p (.idxS 1 (t 25) (t 27))) 20 true, []),
 (c 29 (.r (.load none (t 28))) 20 true, []),
 (c 30 (.call N_cmp_Less_int [(t 24),(t 29)]) 20 true, []),
 (c 31 (.p (.un .not (t 30))) 20 true, []),
 (a 32 (.p (.sel (t 20) (t 31) (k (.bool false)))), [])])
 (.cond (t 32)
 .skip
 (.exit 2)))
 (.block 3 (.reg [a 33 (.p (.mv (t 7))),
 a 34 (.p (.bin .add (t 33) (k (.int .i64 1)))),
 a 7 (.p (.mv (t 34)))])))))
 (.seq (.seq (.reg [a 35 (.p (.mv (t 7))),
 a 36 (.p (.mv (t 2))),
 a 37 (.p (.bin .eql (t 35) (t 36)))])
 (.cond (t 37)
 (.seq (.reg [a 6 (.p (.mv (k (.bool true))))])
 .ret)
 .skip))
 (.seq (.seq (.reg [a 38 (.p (.mv (t 2))),
 a 39 (.p (.mv (t 1))),
 a 40 (.p (.bin .sub (t 38) (t 39))),
 a 41 (.p (.bin .lss (t 40) (k (.int .i64 50))))])
 (.cond (t 41)
 (.seq (.reg [a 6 (.p (.mv (k (.bool false))))])
 .ret)
 .skip))
 (.seq (.dreg [(a 42 (.p (.mv (t 0))), []),
 (a 43 (.p (.mv (t 7))), []),
 (a 44 (.p (.mv (t 0))), []),
 (a 45 (.p (.mv (t 7))), []),
 (a 46 (.p (.bin .sub (t 45) (k (.int .i64 1)))), []),
 (a 47 (.p (.mv (t 0))), []),
 (a 48 (.p (.mv (t 7))), []),
 (a 49 (.p (.bin .sub (t 48) (k (.int .i64 1)))), []),
 (a 50 (.p (.idxS 1 (t 47) (t 49))), []),
 (a 51 (.r (.load none (t 50))), []),
 (a 52 (.p (.mv (t 0))), []),
 (a 53 (.p (.mv (t 7))), []),
 (a 54 (.p (.idxS 1 (t 52) (t 53))), []),
 (a 55 (.r (.load none (t 54))), []),
 (a 56 (.p (.idxS 1 (t 42) (t 43))), []),
 (b (.e (.store 1 (t 56) (t 51))), []),
 (a 57 (.p (.idxS 1 (t 44) (t 46))), []),
 (b (.e (.store 1 (t 57) (t 55))), [])])
 (.seq (.seq (.reg [a 58 (.p (.mv (t 7))),
 a 59 (.p (.mv (t 1))),
 a 60 (.p (.bin .sub (t 58) (t 59))),
 a 61 (.p (.bin .geq (t 60) (k (.int .i64 2))))])
 (.cond (t 61)
 (.seq (.reg [a 62 (.p (.mv (t 7))),
 a 63 (.p (.bin .sub (t 62) (k (.int .i64 1)))),
 a 9 (.p (.mv (t 63)))])
 (.block 4 (.loop (.seq (.seq (.reg [a 64 (.p (.mv (t 9))),
 a 65 (.p (.bin .geq (t 64) (k (.int .i64 1))))])
 (.cond (t 65)
 .skip
 (.exit 4)))
 (.seq (.block 5 (.seq (.seq (.dreg [(a 68 (.p (.mv (t 0))), []),
 (a 69 (.p (.mv (t 9))), []),
 (a 70 (.p (.idxS 1 (t 68) (t 69))), []),
 (a 71 (.r (.load none (t 70))), []),
 (a 72 (.p (.mv (t 0))), []),
 (a 73 (.p (.mv (t 9))), []),
 (a 74 (.p (.bin .sub (t 73) (k (.int .i64 1)))), []),
 (a 75 (.p (.idxS 1 (t 72) (t 74))), []),
 (a 76 (.r (.load none (t 75))), []),
 (a 77 (.call N_cmp_Less_int [(t 71),(t 76)]), []),
 (a 78 (.p (.un .not (t 77))), [])])
 (.cond (t 78)
 (.exit 4)
 .skip))
 (.dreg [(a 79 (.p (.mv (t 0))), []),
 (a 80 (.p (.mv (t 9))), []),
 (a 81 (.p (.mv (t 0))), []),
 (a 82 (.p (.mv (t 9))), []),
 (a 83 (.p (.bin .sub (t 82) (k (.int .i64 1)))), []),
 (a 84 (.p (.mv (t 0))), []),
 (a 85 (.p (.mv (t 9))), []),
 (a 86 (.p (.bin .sub (t 85) (k (.int .i64 1)))), []),
 (a 87 (.p (.idxS 1 (t 84) (t 86))), []),
 (a 88 (.r (.load none (t 87))), []),
 (a 89 (.p (.mv (t 0))), []),
 (a 90 (.p (.mv (t 9))), []),
 (a 91 (.p (.idxS 1 (t 89) (t 90))), []),
 (a 92 (.r (.load none (t 91))), []),
 (a 93 (.p (.idxS 1 (t 79) (t 80))), []),
 (b (.e (.store 1 (t 93) (t 88))), []),
 (a 94 (.p (.idxS 1 (t 81) (t 83))), []),
 (b (.e (.store 1 (t 94) (t 92))), [])])))
 (.reg [a 66 (.p (.mv (t 9))),
 a 67 (.p (.bin .sub (t 66) (k (.int .i64 1)))),
 a 9 (.p (.mv (t 67)))]))))))
 .skip))
 (.seq (.reg [a 95 (.p (.mv (t 2))),
 a 96 (.p (.mv (t 7))),
 a 97 (.p (.bin .sub (t 95) (t 96))),
 a 98 (.p (.bin .geq (t 97) (k (.int .i64 2))))])
 (.cond (t 98)
 (.seq (.reg [a 99 (.p (.mv (t 7))),
 a 100 (.p (.bin .add (t 99) (k (.int .i64 1)))),
 a 10 (.p (.mv (t 100)))])
 (.block 6 (.loop (.seq (.seq (.reg [a 101 (.p (.mv (t 10))),
 a 102 (.p (.mv (t 2))),
 a 103 (.p (.bin .lss (t 101) (t 102)))])
 (.cond (t 103)
 .skip
 (.exit 6)))
 (.seq (.block 7 (.seq (.seq (.dreg [(a 106 (.p (.mv (t 0))), []),
 (a 107 (.p (.mv (t 10))), []),
 (a 108 (.p (.idxS 1 (t 106) (t 107))), []),
 (a 109 (.r (.load none (t 108))), []),
 (a 110 (.p (.mv (t 0))), []),
 (a 111 (.p (.mv (t 10))), []),
 (a 112 (.p (.bin .sub (t 111) (k (.int .i64 1)))), []),
 (a 113 (.p (.idxS 1 (t 110) (t 112))), []),
 (a 114 (.r (.load none (t 113))), []),
 (a 115 (.call N_cmp_Less_int [(t 109),(t 114)]), []),
 (a 116 (.p (.un .not (t 115))), [])])
 (.cond (t 116)
 (.exit 6)
 .skip))
 (.dreg [(a 117 (.p (.mv (t 0))), []),
 (a 118 (.p (.mv (t 10))), []),
 (a 119 (.p (.mv (t 0))), []),
 (a 120 (.p (.mv (t 10))), []),
 (a 121 (.p (.bin .sub (t 120) (k (.int .i64 1)))), []),
 (a 122 (.p (.mv (t 0))), []),
 (a 123 (.p (.mv (t 10))), []),
 (a 124 (.p (.bin .sub (t 123) (k (.int .i64 1)))), []),
 (a 125 (.p (.idxS 1 (t 122) (t 124))), []),
 (a 126 (.r (.load none (t 125))), []),
 (a 127 (.p (.mv (t 0))), []),
 (a 128 (.p (.mv (t 10))), []),
 (a 129 (.p (.idxS 1 (t 127) (t 128))), []),
 (a 130 (.r (.load none (t 129))), []),
 (a 131 (.p (.idxS 1 (t 117) (t 118))), []),
 (b (.e (.store 1 (t 131) (t 126))), []),
 (a 132 (.p (.idxS 1 (t 119) (t 121))), []),
 (b (.e (.store 1 (t 132) (t 130))), [])])))
 (.reg [a 104 (.p (.mv (t 10))),
 a 105 (.p (.bin .add (t 104) (k (.int .i64 1)))),
 a 10 (.p (.mv (t 105)))]))))))
 .skip))))))))
 (.reg [a 15 (.p (.mv (t 8))),
 a 16 (.p (.bin .add (t 15) (k (.int .i64 1)))),
 a 8 (.p (.mv (t 16)))]))))))
 (.seq (.reg [a 6 (.p (.mv (k (.bool false))))])
 .ret)))), [.tmp 6]⟩
/-- cmp.Less(int) -/
def F_cmp_Less_int : AFn := ⟨2, 17, (.seq (.reg [a 4 (.p (.mv (k (.bool false))))])
 (.seq (.reg [a 5 (.p (.mv (t 0))),
 a 6 (.call N_cmp_isNaN_int [(t 5)]),
 a 7 (.p (.mv (t 6))),
 c 8 (.p (.mv (t 1))) 7 true,
 c 9 (.call N_cmp_isNaN_int [(t 8)]) 7 true,
 c 10 (.p (.un .not (t 9))) 7 true,
 a 11 (.p (.sel (t 7) (t 10) (k (.bool false)))),
 a 12 (.p (.mv (t 11))),
 c 13 (.p (.mv (t 0))) 12 false,
 c 14 (.p (.mv (t 1))) 12 false,
 c 15 (.p (.bin .lss (t 13) (t 14))) 12 false,
 a 16 (.p (.sel (t 12) (k (.bool true)) (t 15))),
 a 4 (.p (.mv (t 16)))])
 .ret)), [.tmp 4]⟩
/-- slices.partitionEqualOrdered(int) -/
def F_slices_partitionEqualOrdered_int : AFn := ⟨4, 84, (.seq (.reg [a 8 (.p (.mv (k (.int .i64 0))))])
 (.seq (.dreg [(a 11 (.p (.mv (t 0))), []),
 (a 12 (.p (.mv (t 1))), []),
 (a 13 (.p (.mv (t 0))), []),
 (a 14 (.p (.mv (t 3))), []),
 (a 15 (.p (.mv (t 0))), []),
 (a 16 (.p (.mv (t 3))), []),
 (a 17 (.p (.idxS 1 (t 15) (t 16))), []),
 (a 18 (.r (.load none (t 17))), []),
 (a 19 (.p (.mv (t 0))), []),
 (a 20 (.p (.mv (t 1))), []),
 (a 21 (.p (.idxS 1 (t 19) (t 20))), []),
 (a 22 (.r (.load none (t 21))), []),
 (a 23 (.p (.idxS 1 (t 11) (t 12))), []),
 (b (.e (.store 1 (t 23) (t 18))), []),
 (a 24 (.p (.idxS 1 (t 13) (t 14))), []),
 (b (.e (.store 1 (t 24) (t 22))), [])])
 (.seq (.reg [a 25 (.p (.mv (t 1))),
 a 26 (.p (.bin .add (t 25) (k (.int .i64 1)))),
 a 27 (.p (.mv (t 2))),
 a 28 (.p (.bin .sub (t 27) (k (.int .i64 1)))),
 a 9 (.p (.mv (t 26))),
 a 10 (.p (.mv (t 28)))])
 (.seq (.block 0 (.loop (.block 1 (.seq (.block 2 (.loop (.seq (.seq (.dreg [(a 29 (.p (.mv (t 9))), []),
 (a 30 (.p (.mv (t 10))), []),
 (a 31 (.p (.bin .leq (t 29) (t 30))), []),
 (a 32 (.p (.mv (t 31))), []),
 (c 33 (.p (.mv (t 0))) 32 true, []),
 (c 34 (.p (.mv (t 1))) 32 true, []),
 (c 35 (.p (.idxS 1 (t 33) (t 34))) 32 true, []),
 (c 36 (.r (.load none (t 35))) 32 true, []),
 (c 37 (.p (.mv (t 0))) 32 true, []),
 (c 38 (.p (.mv (t 9))) 32 true, []),
 (c 39 (.p (.idxS 1 (t 37) (t 38))) 32 true, []),
 (c 40 (.r (.load none (t 39))) 32 true, []),
 (c 41 (.call N_cmp_Less_int [(t 36),(t 40)]) 32 true, []),
 (c 42 (.p (.un .not (t 41))) 32 true, []),
 (a 43 (.p (.sel (t 32) (t 42) (k (.bool false)))), [])])
 (.cond (t 43)
 .skip
 (.exit 2)))
 (.block 3 (.reg [a 44 (.p (.mv (t 9))),
 a 45 (.p (.bin .add (t 44) (k (.int .i64 1)))),
 a 9 (.p (.mv (t 45)))])))))
 (.seq (.block 4 (.loop (.seq (.seq (.dreg [(a 46 (.p (.mv (t 9))), []),
 (a 47 (.p (.mv (t 10))), []),
 (a 48 (.p (.bin .leq (t 46) (t 47))), []),
 (a 49 (.p (.mv (t 48))), []),
 (c 50 (.p (.mv (t 0))) 49 true, []),
 (c 51 (.p (.mv (t 1))) 49 true, []),
 (c 52 (.p (.idxS 1 (t 50) (t 51))) 49 true, []),
 (c 53 (.r (.load none (t 52))) 49 true, []),
 (c 54 (.p (.mv (t 0))) 49 true, []),
 (c 55 (.p (.mv (t 10))) 49 true, []),
 (c 56 (.p (.idxS 1 (t 54) (t 55))) 49 true, []),
 (c 57 (.r (.load none (t 56))) 49 true, []),
 (c 58 (.call N_cmp_Less_int [(t 53),(t 57)]) 49 true, []),
 (a 59 (.p (.sel (t 49) (t 58) (k (.bool false)))), [])])
 (.cond (t 59)
 .skip
 (.exit 4)))
 (.block 5 (.reg [a 60 (.p (.mv (t 10))),
 a 61 (.p (.bin .sub (t 60) (k (.int .i64 1)))),
 a 10 (.p (.mv (t 61)))])))))
 (.seq (.seq (.reg [a 62 (.p (.mv (t 9))),
 a 63 (.p (.mv (t 10))),
 a 64 (.p (.bin .gtr (t 62) (t 63)))])
 (.cond (t 64)
 (.exit 0)
 .skip))
 (.seq (.dreg [(a 65 (.p (.mv (t 0))), []),
 (a 66 (.p (.mv (t 9))), []),
 (a 67 (.p (.mv (t 0))), []),
 (a 68 (.p (.mv (t 10))), []),
 (a 69 (.p (.mv (t 0))), []),
 (a 70 (.p (.mv (t 10))), []),
 (a 71 (.p (.idxS 1 (t 69) (t 70))), []),
 (a 72 (.r (.load none (t 71))), []),
 (a 73 (.p (.mv (t 0))), []),
 (a 74 (.p (.mv (t 9))), []),
 (a 75 (.p (.idxS 1 (t 73) (t 74))), []),
 (a 76 (.r (.load none (t 75))), []),
 (a 77 (.p (.idxS 1 (t 65) (t 66))), []),
 (b (.e (.store 1 (t 77) (t 72))), []),
 (a 78 (.p (.idxS 1 (t 67) (t 68))), []),
 (b (.e (.store 1 (t 78) (t 76))), [])])
 (.seq (.reg [a 79 (.p (.mv (t 9))),
 a 80 (.p (.bin .add (t 79) (k (.int .i64 1)))),
 a 9 (.p (.mv (t 80)))])
 (.reg [a 81 (.p (.mv (t 10))),
 a 82 (.p (.bin .sub (t 81) (k (.int .i64 1)))),
 a 10 (.p (.mv (t 82)))])))))))))
 (.seq (.reg [a 83 (.p (.mv (t 9))),
 a 8 (.p (.mv (t 83)))])
 .ret))))), [.tmp 8]⟩
/-- slices.partitionOrdered(int) -/
def F_slices_partitionOrdered_int : AFn := ⟨4, 168, (.seq (.reg [a 8 (.p (.mv (k (.int .i64 0)))),
 a 9 (.p (.mv (k (.bool false))))])
 (.seq (.dreg [(a 12 (.p (.mv (t 0))), []),
 (a 13 (.p (.mv (t 1))), []),
 (a 14 (.p (.mv (t 0))), []),
 (a 15 (.p (.mv (t 3))), []),
 (a 16 (.p (.mv (t 0))), []),
 (a 17 (.p (.mv (t 3))), []),
 (a 18 (.p (.idxS 1 (t 16) (t 17))), []),
 (a 19 (.r (.load none (t 18))), []),
 (a 20 (.p (.mv (t 0))), []),
 (a 21 (.p (.mv (t 1))), []),
 (a 22 (.p (.idxS 1 (t 20) (t 21))), []),
 (a 23 (.r (.load none (t 22))), []),
 (a 24 (.p (.idxS 1 (t 12) (t 13))), []),
 (b (.e (.store 1 (t 24) (t 19))), []),
 (a 25 (.p (.idxS 1 (t 14) (t 15))), []),
 (b (.e (.store 1 (t 25) (t 23))), [])])
 (.seq (.reg [a 26 (.p (.mv (t 1))),
 a 27 (.p (.bin .add (t 26) (k (.int .i64 1)))),
 a 28 (.p (.mv (t 2))),
 a 29 (.p (.bin .sub (t 28) (k (.int .i64 1)))),
 a 10 (.p (.mv (t 27))),
 a 11 (.p (.mv (t 29)))])
 (.seq (.block 0 (.loop (.seq (.seq (.dreg [(a 30 (.p (.mv (t 10))), []),
 (a 31 (.p (.mv (t 11))), []),
 (a 32 (.p (.bin .leq (t 30) (t 31))), []),
 (a 33 (.p (.mv (t 32))), []),
 (c 34 (.p (.mv (t 0))) 33 true, []),
 (c 35 (.p (.mv (t 10))) 33 true, []),
 (c 36 (.p (.idxS 1 (t 34) (t 35))) 33 true, []),
 (c 37 (.r (.load none (t 36))) 33 true, []),
 (c 38 (.p (.mv (t 0))) 33 true, []),
 (c 39 (.p (.mv (t 1))) 33 true, []),
 (c 40 (.p (.idxS 1 (t 38) (t 39))) 33 true, []),
 (c 41 (.r (.load none (t 40))) 33 true, []),
 (c 42 (.call N_cmp_Less_int [(t 37),(t 41)]) 33 true, []),
 (a 43 (.p (.sel (t 33) (t 42) (k (.bool false)))), [])])
 (.cond (t 43)
 .skip
 (.exit 0)))
 (.block 1 (.reg [a 44 (.p (.mv (t 10))),
 a 45 (.p (.bin .add (t 44) (k (.int .i64 1)))),
 a 10 (.p (.mv (t 45)))])))))
 (.seq (.block 2 (.loop (.seq (.seq (.dreg [(a 46 (.p (.mv (t 10))), []),
 (a 47 (.p (.mv (t 11))), []),
 (a 48 (.p (.bin .leq (t 46) (t 47))), []),
 (a 49 (.p (.mv (t 48))), []),
 (c 50 (.p (.mv (t 0))) 49 true, []),
 (c 51 (.p (.mv (t 11))) 49 true, []),
 (c 52 (.p (.idxS 1 (t 50) (t 51))) 49 true, []),
 (c 53 (.r (.load none (t 52))) 49 true, []),
 (c 54 (.p (.mv (t 0))) 49 true, []),
 (c 55 (.p (.mv (t 1))) 49 true, []),
 (c 56 (.p (.idxS 1 (t 54) (t 55))) 49 true, []),
 (c 57 (.r (.load none (t 56))) 49 true, []),
 (c 58 (.call N_cmp_Less_int [(t 53),(t 57)]) 49 true, []),
 (c 59 (.p (.un .not (t 58))) 49 true, []),
 (a 60 (.p (.sel (t 49) (t 59) (k (.bool false)))), [])])
 (.cond (t 60)
 .skip
 (.exit 2)))
 (.block 3 (.reg [a 61 (.p (.mv (t 11))),
 a 62 (.p (.bin .sub (t 61) (k (.int .i64 1)))),
 a 11 (.p (.mv (t 62)))])))))
 (.seq (.seq (.reg [a 63 (.p (.mv (t 10))),
 a 64 (.p (.mv (t 11))),
 a 65 (.p (.bin .gtr (t 63) (t 64)))])
 (.cond (t 65)
 (.seq (.dreg [(a 66 (.p (.mv (t 0))), []),
 (a 67 (.p (.mv (t 11))), []),
 (a 68 (.p (.mv (t 0))), []),
 (a 69 (.p (.mv (t 1))), []),
 (a 70 (.p (.mv (t 0))), []),
 (a 71 (.p (.mv (t 1))), []),
 (a 72 (.p (.idxS 1 (t 70) (t 71))), []),
 (a 73 (.r (.load none (t 72))), []),
 (a 74 (.p (.mv (t 0))), []),
 (a 75 (.p (.mv (t 11))), []),
 (a 76 (.p (.idxS 1 (t 74) (t 75))), []),
 (a 77 (.r (.load none (t 76))), []),
 (a 78 (.p (.idxS 1 (t 66) (t 67))), []),
 (b (.e (.store 1 (t 78) (t 73))), []),
 (a 79 (.p (.idxS 1 (t 68) (t 69))), []),
 (b (.e (.store 1 (t 79) (t 77))), [])])
 (.seq (.reg [a 80 (.p (.mv (t 11))),
 a 8 (.p (.mv (t 80))),
 a 9 (.p (.mv (k (.bool true))))])
 .ret))
 .skip))
 (.seq (.dreg [(a 81 (.p (.mv (t 0))), []),
 (a 82 (.p (.mv (t 10))), []),
 (a 83 (.p (.mv (t 0))), []),
 (a 84 (.p (.mv (t 11))), []),
 (a 85 (.p (.mv (t 0))), []),
 (a 86 (.p (.mv (t 11))), []),
 (a 87 (.p (.idxS 1 (t 85) (t 86))), []),
 (a 88 (.r (.load none (t 87))), []),
 (a 89 (.p (.mv (t 0))), []),
 (a 90 (.p (.mv (t 10))), []),
 (a 91 (.p (.idxS 1 (t 89) (t 90))), []),
 (a 92 (.r (.load none (t 91))), []),
 (a 93 (.p (.idxS 1 (t 81) (t 82))), []),
 (b (.e (.store 1 (t 93) (t 88))), []),
 (a 94 (.p (.idxS 1 (t 83) (t 84))), []),
 (b (.e (.store 1 (t 94) (t 92))), [])])
 (.seq (.reg [a 95 (.p (.mv (t 10))),
 a 96 (.p (.bin .add (t 95) (k (.int .i64 1)))),
 a 10 (.p (.mv (t 96)))])
 (.seq (.reg [a 97 (.p (.mv (t 11))),
 a 98 (.p (.bin .sub (t 97) (k (.int .i64 1)))),
 a 11 (.p (.mv (t 98)))])
 (.seq (.block 4 (.loop (.block 5 (.seq (.block 6 (.loop (.seq (.seq (.dreg [(a 99 (.p (.mv (t 10))), []),
 (a 100 (.p (.mv (t 11))), []),
 (a 101 (.p (.bin .leq (t 99) (t 100))), []),
 (a 102 (.p (.mv (t 101))), []),
 (c 103 (.p (.mv (t 0))) 102 true, []),
 (c 104 (.p (.mv (t 10))) 102 true, []),
 (c 105 (.p (.idxS 1 (t 103) (t 104))) 102 true, []),
 (c 106 (.r (.load none (t 105))) 102 true, []),
 (c 107 (.p (.mv (t 0))) 102 true, []),
 (c 108 (.p (.mv (t 1))) 102 true, []),
 (c 109 (.p (.idxS 1 (t 107) (t 108))) 102 true, []),
 (c 110 (.r (.load none (t 109))) 102 true, []),
 (c 111 (.call N_cmp_Less_int [(t 106),(t 110)]) 102 true, []),
 (a 112 (.p (.sel (t 102) (t 111) (k (.bool false)))), [])])
 (.cond (t 112)
 .skip
 (.exit 6)))
 (.block 7 (.reg [a 113 (.p (.mv (t 10))),
 a 114 (.p (.bin .add (t 113) (k (.int .i64 1)))),
 a 10 (.p (.mv (t 114)))])))))
 (.seq (.block 8 (.loop (.seq (.seq (.dreg [(a 115 (.p (.mv (t 10))), []),
 (a 116 (.p (.mv (t 11))), []),
 (a 117 (.p (.bin .leq (t 115) (t 116))), []),
 (a 118 (.p (.mv (t 117))), []),
 (c 119 (.p (.mv (t 0))) 118 true, []),
 (c 120 (.p (.mv (t 11))) 118 true, []),
 (c 121 (.p (.idxS 1 (t 119) (t 120))) 118 true, []),
 (c 122 (.r (.load none (t 121))) 118 true, []),
 (c 123 (.p (.mv (t 0))) 118 true, []),
 (c 124 (.p (.mv (t 1))) 118 true, []),
 (c 125 (.p (.idxS 1 (t 123) (t 124))) 118 true, []),
 (c 126 (.r (.load none (t 125))) 118 true, []),
 (c 127 (.call N_cmp_Less_int [(t 122),(t 126)]) 118 true, []),
 (c 128 (.p (.un .not (t 127))) 118 true, []),
 (a 129 (.p (.sel (t 118) (t 128) (k (.bool false)))), [])])
 (.cond (t 129)
 .skip
 (.exit 8)))
 (.block 9 (.reg [a 130 (.p (.mv (t 11))),
 a 131 (.p (.bin .sub (t 130) (k (.int .i64 1)))),
 a 11 (.p (.mv (t 131)))])))))
 (.seq (.seq (.reg [a 132 (.p (.mv (t 10))),
 a 133 (.p (.mv (t 11))),
 a 134 (.p (.bin .gtr (t 132) (t 133)))])
 (.cond (t 134)
 (.exit 4)
 .skip))
 (.seq (.dreg [(a 135 (.p (.mv (t 0))), []),
 (a 136 (.p (.mv (t 10))), []),
 (a 137 (.p (.mv (t 0))), []),
 (a 138 (.p (.mv (t 11))), []),
 (a 139 (.p (.mv (t 0))), []),
 (a 140 (.p (.mv (t 11))), []),
 (a 141 (.p (.idxS 1 (t 139) (t 140))), []),
 (a 142 (.r (.load none (t 141))), []),
 (a 143 (.p (.mv (t 0))), []),
 (a 144 (.p (.mv (t 10))), []),
 (a 145 (.p (.idxS 1 (t 143) (t 144))), []),
 (a 146 (.r (.load none (t 145))), []),
 (a 147 (.p (.idxS 1 (t 135) (t 136))), []),
 (b (.e (.store 1 (t 147) (t 142))), []),
 (a 148 (.p (.idxS 1 (t 137) (t 138))), []),
 (b (.e (.store 1 (t 148) (t 146))), [])])
 (.seq (.reg [a 149 (.p (.mv (t 10))),
 a 150 (.p (.bin .add (t 149) (k (.int .i64 1)))),
 a 10 (.p (.mv (t 150)))])
 (.reg [a 151 (.p (.mv (t 11))),
 a 152 (.p (.bin .sub (t 151) (k (.int .i64 1)))),
 a 11 (.p (.mv (t 152)))])))))))))
 (.seq (.dreg [(a 153 (.p (.mv (t 0))), []),
 (a 154 (.p (.mv (t 11))), []),
 (a 155 (.p (.mv (t 0))), []),
 (a 156 (.p (.mv (t 1))), []),
 (a 157 (.p (.mv (t 0))), []),
 (a 158 (.p (.mv (t 1))), []),
 (a 159 (.p (.idxS 1 (t 157) (t 158))), []),
 (a 160 (.r (.load none (t 159))), []),
 (a 161 (.p (.mv (t 0))), []),
 (a 162 (.p (.mv (t 11))), []),
 (a 163 (.p (.idxS 1 (t 161) (t 162))), []),
 (a 164 (.r (.load none (t 163))), []),
 (a 165 (.p (.idxS 1 (t 153) (t 154))), []),
 (b (.e (.store 1 (t 165) (t 160))), []),
 (a 166 (.p (.idxS 1 (t 155) (t 156))), []),
 (b (.e (.store 1 (t 166) (t 164))), [])])
 (.seq (.reg [a 167 (.p (.mv (t 11))),
 a 8 (.p (.mv (t 167))),
 a 9 (.p (.mv (k (.bool false))))])
 .ret)))))))))))), [.tmp 8,.tmp 9]⟩
/-- stoa/stoaref06.name -/
def F_stoaref06_name : AFn := ⟨1, 41, (.seq (.reg [a 2 (.p (.mv (k (.bool false))))])
 (.seq (.seq (.reg [a 5 (.p (.mv (t 0))),
 a 6 (.p (.len true (t 5))),
 a 7 (.p (.bin .lss (t 6) (k (.int .i64 1)))),
 a 8 (.p (.mv (t 7))),
 c 9 (.p (.mv (t 0))) 8 false,
 c 10 (.p (.len true (t 9))) 8 false,
 c 11 (.p (.bin .gtr (t 10) (k (.int .i64 24)))) 8 false,
 a 12 (.p (.sel (t 8) (k (.bool true)) (t 11)))])
 (.cond (t 12)
 (.seq (.reg [a 2 (.p (.mv (k (.bool false))))])
 .ret)
 .skip))
 (.seq (.seq (.reg [a 3 (.p (.mv (k (.int .i64 0))))])
 (.block 0 (.loop (.seq (.seq (.reg [a 13 (.p (.mv (t 3))),
 a 14 (.p (.mv (t 0))),
 a 15 (.p (.len true (t 14))),
 a 16 (.p (.bin .lss (t 13) (t 15)))])
 (.cond (t 16)
 .skip
 (.exit 0)))
 (.seq (.block 1 (.seq (.reg [a 19 (.p (.mv (t 0))),
 a 20 (.p (.mv (t 3))),
 a 21 (.p (.strIdx (t 19) (t 20))),
 a 4 (.p (.mv (t 21)))])
 (.seq (.reg [a 22 (.p (.mv (t 4))),
 a 23 (.p (.bin .geq (t 22) (k (.int .u8 97)))),
 a 24 (.p (.mv (t 23))),
 c 25 (.p (.mv (t 4))) 24 true,
 c 26 (.p (.bin .leq (t 25) (k (.int .u8 122)))) 24 true,
 a 27 (.p (.sel (t 24) (t 26) (k (.bool false)))),
 a 28 (.p (.mv (t 27))),
 c 29 (.p (.mv (t 4))) 28 false,
 c 30 (.p (.bin .geq (t 29) (k (.int .u8 48)))) 28 false,
 c 31 (.p (.mv (t 30))) 28 false,
 c 32 (.p (.mv (t 4))) 31 true,
 c 33 (.p (.bin .leq (t 32) (k (.int .u8 57)))) 31 true,
 c 34 (.p (.sel (t 31) (t 33) (k (.bool false)))) 28 false,
 a 35 (.p (.sel (t 28) (k (.bool true)) (t 34))),
 a 36 (.p (.mv (t 35))),
 c 37 (.p (.mv (t 4))) 36 false,
 c 38 (.p (.bin .eql (t 37) (k (.int .u8 95)))) 36 false,
 a 39 (.p (.sel (t 36) (k (.bool true)) (t 38))),
 a 40 (.p (.un .not (t 39)))])
 (.cond (t 40)
 (.seq (.reg [a 2 (.p (.mv (k (.bool false))))])
 .ret)
 .skip))))
 (.reg [a 17 (.p (.mv (t 3))),
 a 18 (.p (.bin .add (t 17) (k (.int .i64 1)))),
 a 3 (.p (.mv (t 18)))]))))))
 (.seq (.reg [a 2 (.p (.mv (k (.bool true))))])
 .ret)))), [.tmp 2]⟩
/-- stoa/stoaref05.Least -/
def F_stoaref05_Least : AFn := ⟨1, 12, (.seq (.reg [a 2 (.p (.mv (k (.int .i64 0))))])
 (.seq (.seq (.reg [a 3 (.p (.mv (t 0)))])
 (.block 0 (.seq (.reg [a 5 (.p (.bin .eql (t 3) (k (.int .i64 1)))),
 a 4 (.p (.mv (t 5)))])
 (.cond (t 4)
 (.seq (.reg [a 2 (.p (.mv (k (.int .i64 (-128)))))])
 .ret)
 (.seq (.reg [a 7 (.p (.bin .eql (t 3) (k (.int .i64 2)))),
 a 6 (.p (.mv (t 7)))])
 (.cond (t 6)
 (.seq (.reg [a 2 (.p (.mv (k (.int .i64 (-32768)))))])
 .ret)
 (.seq (.reg [a 9 (.p (.bin .eql (t 3) (k (.int .i64 3)))),
 a 8 (.p (.mv (t 9)))])
 (.cond (t 8)
 (.seq (.reg [a 2 (.p (.mv (k (.int .i64 (-2147483648)))))])
 .ret)
 (.seq (.reg [a 11 (.p (.bin .eql (t 3) (k (.int .i64 4)))),
 a 10 (.p (.mv (t 11)))])
 (.cond (t 10)
 (.seq (.reg [a 2 (.p (.mv (k (.int .i64 (-9223372036854775808)))))])
 .ret)
 .skip))))))))))
 (.seq (.reg [a 2 (.p (.mv (k (.int .i64 0))))])
 .ret))), [.tmp 2]⟩
/-- stoa/stoaref05.Greatest -/
def F_stoaref05_Greatest : AFn := ⟨1, 14, (.seq (.reg [a 2 (.p (.mv (k (.int .i64 0))))])
 (.seq (.seq (.reg [a 3 (.p (.mv (t 0)))])
 (.block 0 (.seq (.reg [a 5 (.p (.bin .eql (t 3) (k (.int .i64 1)))),
 a 4 (.p (.mv (t 5)))])
 (.cond (t 4)
 (.seq (.reg [a 2 (.p (.mv (k (.int .i64 127))))])
 .ret)
 (.seq (.reg [a 7 (.p (.bin .eql (t 3) (k (.int .i64 2)))),
 a 6 (.p (.mv (t 7)))])
 (.cond (t 6)
 (.seq (.reg [a 2 (.p (.mv (k (.int .i64 32767))))])
 .ret)
 (.seq (.reg [a 9 (.p (.bin .eql (t 3) (k (.int .i64 3)))),
 a 8 (.p (.mv (t 9)))])
 (.cond (t 8)
 (.seq (.reg [a 2 (.p (.mv (k (.int .i64 2147483647))))])
 .ret)
 (.seq (.reg [a 11 (.p (.bin .eql (t 3) (k (.int .i64 4)))),
 a 10 (.p (.mv (t 11)))])
 (.cond (t 10)
 (.seq (.reg [a 2 (.p (.mv (k (.int .i64 9223372036854775807))))])
 .ret)
 (.seq (.reg [a 13 (.p (.bin .eql (t 3) (k (.int .i64 5)))),
 a 12 (.p (.mv (t 13)))])
 (.cond (t 12)
 (.seq (.reg [a 2 (.p (.mv (k (.int .i64 65535))))])
 .ret)
 .skip))))))))))))
 (.seq (.reg [a 2 (.p (.mv (k (.int .i64 1))))])
 .ret))), [.tmp 2]⟩
/-- stoa/stoaref05.Zero -/
def F_stoaref05_Zero : AFn := ⟨1, 15, (.seq (.reg [a 2 (.p (.mv (k (.bool false))))])
 (.seq (.seq (.reg [a 3 (.p (.mv (k (.int .i64 0))))])
 (.block 0 (.loop (.seq (.seq (.reg [a 4 (.p (.mv (t 3))),
 a 5 (.p (.mv (t 0))),
 a 6 (.p (.len false (t 5))),
 a 7 (.p (.bin .lss (t 4) (t 6)))])
 (.cond (t 7)
 .skip
 (.exit 0)))
 (.seq (.block 1 (.seq (.reg [a 10 (.p (.mv (t 0))),
 a 11 (.p (.mv (t 3))),
 a 12 (.p (.idxS 1 (t 10) (t 11))),
 a 13 (.r (.load none (t 12))),
 a 14 (.p (.bin .eql (t 13) (k (.int .u8 0))))])
 (.cond (t 14)
 (.seq (.reg [a 2 (.p (.mv (k (.bool true))))])
 .ret)
 .skip)))
 (.reg [a 8 (.p (.mv (t 3))),
 a 9 (.p (.bin .add (t 8) (k (.int .i64 1)))),
 a 3 (.p (.mv (t 9)))]))))))
 (.seq (.reg [a 2 (.p (.mv (k (.bool false))))])
 .ret))), [.tmp 2]⟩
/-- stoa/stoaref01.Low -/
def F_stoaref01_Low : AFn := ⟨2, 22, (.seq (.reg [a 4 (.p (.mv (k .nslc)))])
 (.seq (.reg [a 7 (.n (.bslice 1 [] 0 [])),
 a 5 (.p (.mv (t 7)))])
 (.seq (.seq (.reg [a 6 (.p (.mv (k (.int .i64 0))))])
 (.block 0 (.loop (.seq (.seq (.reg [a 8 (.p (.mv (t 6))),
 a 9 (.p (.mv (t 1))),
 a 10 (.p (.bin .lss (t 8) (t 9)))])
 (.cond (t 10)
 .skip
 (.exit 0)))
 (.seq (.block 1 (.seq (.reg [a 13 (.p (.mv (t 5))),
 a 14 (.p (.mv (t 0))),
 a 15 (.p (.bin .rem (t 14) (k (.int .u64 256)))),
 a 16 (.p (.conv .u8 (t 15))),
 a 17 (.n (.bslice 1 [(.int .u8 0)] 1 [(0,1,(t 16))])),
 a 18 (.e (.append 1 1 (t 13) (t 17))),
 a 5 (.p (.mv (t 18)))])
 (.reg [a 19 (.p (.mv (t 0))),
 a 20 (.p (.bin .quo (t 19) (k (.int .u64 256)))),
 a 0 (.p (.mv (t 20)))])))
 (.reg [a 11 (.p (.mv (t 6))),
 a 12 (.p (.bin .add (t 11) (k (.int .i64 1)))),
 a 6 (.p (.mv (t 12)))]))))))
 (.seq (.reg [a 21 (.p (.mv (t 5))),
 a 4 (.p (.mv (t 21)))])
 .ret)))), [.tmp 4]⟩
/-- stoa/stoaref07.size -/
def F_stoaref07_size : AFn := ⟨1, 12, (.seq (.reg [a 2 (.p (.mv (k (.int .i64 0))))])
 (.seq (.seq (.reg [a 3 (.p (.mv (t 0)))])
 (.block 0 (.seq (.seq (.reg [a 5 (.p (.bin .eql (t 3) (k (.int .i64 1)))),
 a 4 (.p (.mv (t 5)))])
 (.cond (t 4)
 .skip
 (.reg [a 6 (.p (.bin .eql (t 3) (k (.int .i64 6)))),
 a 4 (.p (.mv (t 6)))])))
 (.cond (t 4)
 (.seq (.reg [a 2 (.p (.mv (k (.int .i64 1))))])
 .ret)
 (.seq (.seq (.reg [a 8 (.p (.bin .eql (t 3) (k (.int .i64 2)))),
 a 7 (.p (.mv (t 8)))])
 (.cond (t 7)
 .skip
 (.reg [a 9 (.p (.bin .eql (t 3) (k (.int .i64 5)))),
 a 7 (.p (.mv (t 9)))])))
 (.cond (t 7)
 (.seq (.reg [a 2 (.p (.mv (k (.int .i64 2))))])
 .ret)
 (.seq (.reg [a 11 (.p (.bin .eql (t 3) (k (.int .i64 3)))),
 a 10 (.p (.mv (t 11)))])
 (.cond (t 10)
 (.seq (.reg [a 2 (.p (.mv (k (.int .i64 4))))])
 .ret)
 .skip))))))))
 (.seq (.reg [a 2 (.p (.mv (k (.int .i64 8))))])
 .ret))), [.tmp 2]⟩
/-- strings.Trim -/
def F_strings_Trim : AFn := ⟨2, 43, (.seq (.reg [a 4 (.p (.mv (k (.str []))))])
 (.seq (.seq (.reg [a 7 (.p (.mv (t 0))),
 a 8 (.p (.bin .eql (t 7) (k (.str [])))),
 a 9 (.p (.mv (t 8))),
 c 10 (.p (.mv (t 1))) 9 false,
 c 11 (.p (.bin .eql (t 10) (k (.str [])))) 9 false,
 a 12 (.p (.sel (t 9) (k (.bool true)) (t 11)))])
 (.cond (t 12)
 (.seq (.reg [a 13 (.p (.mv (t 0))),
 a 4 (.p (.mv (t 13)))])
 .ret)
 .skip))
 (.seq (.seq (.reg [a 14 (.p (.mv (t 1))),
 a 15 (.p (.len true (t 14))),
 a 16 (.p (.bin .eql (t 15) (k (.int .i64 1)))),
 a 17 (.p (.mv (t 16))),
 c 18 (.p (.mv (t 1))) 17 true,
 c 19 (.p (.strIdx (t 18) (k (.int .i64 0)))) 17 true,
 c 20 (.p (.bin .lss (t 19) (k (.int .u8 128)))) 17 true,
 a 21 (.p (.sel (t 17) (t 20) (k (.bool false))))])
 (.cond (t 21)
 (.seq (.dreg [(a 22 (.p (.mv (t 0))), []),
 (a 23 (.p (.mv (t 1))), []),
 (a 24 (.p (.strIdx (t 23) (k (.int .i64 0)))), []),
 (a 26 (.p (.mv (t 1))), []),
 (a 27 (.p (.strIdx (t 26) (k (.int .i64 0)))), []),
 (a 25 (.call N_strings_trimRightByte [(t 22),(t 24)]), []),
 (a 28 (.call N_strings_trimLeftByte [(t 25),(t 27)]), []),
 (a 4 (.p (.mv (t 28))), [])])
 .ret)
 .skip))
 (.seq (.seq (.reg [a 30 (.p (.mv (t 1))),
 a 31 (.call N_strings_makeASCIISet [(t 30)]),
 a 29 (.p (.mv (t 31))),
 a 32 (.p (.extract (t 29) 0)),
 a 33 (.p (.extract (t 29) 1)),
 a 5 (.n (.alloc [(.bool false),(.bool false),(.bool false),(.bool false),(.bool false),(.bool false),(.bool false),(.bool false),(.bool false),(.bool false),(.bool false),(.bool false),(.bool false),(.bool false),(.bool false),(.bool false),(.bool false),(.bool false),(.bool false),(.bool false),(.bool false),(.bool false),(.bool false),(.bool false),(.bool false),(.bool false),(.bool false),(.bool false),(.bool false),(.bool false),(.bool false),(.bool false),(.bool false),(.bool false),(.bool false),(.bool false),(.bool false),(.bool false),(.bool false),(.bool false),(.bool false),(.bool false),(.bool false),(.bool false),(.bool false),(.bool false),(.bool false),(.bool false),(.bool false),(.bool false),(.bool false),(.bool false),(.bool false),(.bool false),(.bool false),(.bool false),(.bool false),(.bool false),(.bool false),(.bool false),(.bool false),(.bool false),(.bool false),(.bool false),(.bool false),(.bool false),(.bool false),(.bool false),(.bool false),(.bool false),(.bool false),(.bool false),(.bool false),(.bool false),(.bool false),(.bool false),(.bool false),(.bool false),(.bool false),(.bool false),(.bool false),(.bool false),(.bool false),(.bool false),(.bool false),(.bool false),(.bool false),(.bool false),(.bool false),(.bool false),(.bool false),(.bool false),(.bool false),(.bool false),(.bool false),(.bool false),(.bool false),(.bool false),(.bool false),(.bool false),(.bool false),(.bool false),(.bool false),(.bool false),(.bool false),(.bool false),(.bool false),(.bool false),(.bool false),(.bool false),(.bool false),(.bool false),(.bool false),(.bool false),(.bool false),(.bool false),(.bool false),(.bool false),(.bool false),(.bool false),(.bool false),(.bool false),(.bool false),(.bool false),(.bool false),(.bool false),(.bool false),(.bool false),(.bool false),(.bool false),(.bool false),(.bool false),(.bool false),(.bool false),(.bool false),(.bool false),(.bool false),(.bool false),(.bool false),(.bool false),(.bool false),(.bool false),(.bool false),(.bool false),(.bool false),(.bool false),(.bool false),(.bool false),(.bool false),(.bool false),(.bool false),(.bool false),(.bool false),(.bool false),(.bool false),(.bool false),(.bool false),(.bool false),(.bool false),(.bool false),(.bool false),(.bool false),(.bool false),(.bool false),(.bool false),(.bool false),(.bool false),(.bool false),(.bool false),(.bool false),(.bool false),(.bool false),(.bool false),(.bool false),(.bool false),(.bool false),(.bool false),(.bool false),(.bool false),(.bool false),(.bool false),(.bool false),(.bool false),(.bool false),(.bool false),(.bool false),(.bool false),(.bool false),(.bool false),(.bool false),(.bool false),(.bool false),(.bool false),(.bool false),(.bool false),(.bool false),(.bool false),(.bool false),(.bool false),(.bool false),(.bool false),(.bool false),(.bool false),(.bool false),(.bool false),(.bool false),(.bool false),(.bool false),(.bool false),(.bool false),(.bool false),(.bool false),(.bool false),(.bool false),(.bool false),(.bool false),(.bool false),(.bool false),(.bool false),(.bool false),(.bool false),(.bool false),(.bool false),(.bool false),(.bool false),(.bool false),(.bool false),(.bool false),(.bool false),(.bool false),(.bool false),(.bool false),(.bool false),(.bool false),(.bool false),(.bool false),(.bool false),(.bool false),(.bool false),(.bool false),(.bool false),(.bool false),(.bool false),(.bool false),(.bool false),(.bool false),(.bool false),(.bool false),(.bool false),(.bool false),(.bool false),(.bool false),(.bool false),(.bool false),(.bool false),(.bool false)])),
 b (.e (.store 256 (t 5) (t 32))),
 a 6 (.p (.mv (t 33)))])
 (.seq (.reg [a 34 (.p (.mv (t 6)))])
 (.cond (t 34)
 (.seq (.reg [a 35 (.p (.mv (t 0))),
 a 36 (.call N_strings_trimRightASCII [(t 35),(t 5)]),
 a 37 (.call N_strings_trimLeftASCII [(t 36),(t 5)]),
 a 4 (.p (.mv (t 37)))])
 .ret)
 .skip)))
 (.seq (.reg [a 38 (.p (.mv (t 0))),
 a 39 (.p (.mv (t 1))),
 a 40 (.call N_strings_trimRightUnicode [(t 38),(t 39)]),
 a 41 (.p (.mv (t 1))),
 a 42 (.call N_strings_trimLeftUnicode [(t 40),(t 41)]),
 a 4 (.p (.mv (t 42)))])
 .ret))))), [.tmp 4]⟩
/-- slices.stableCmpFunc(stoa/api.History) -/
def F_slices_stableCmpFunc_api_History : AFn := ⟨3, 63, (.seq (.reg [a 6 (.p (.mv (k (.int .i64 20))))])
 (.seq (.reg [a 10 (.p (.mv (t 6))),
 a 7 (.p (.mv (k (.int .i64 0)))),
 a 8 (.p (.mv (t 10)))])
 (.seq (.block 0 (.loop (.seq (.seq (.reg [a 11 (.p (.mv (t 8))),
 a 12 (.p (.mv (t 1))),
 a 13 (.p (.bin .leq (t 11) (t 12)))])
 (.cond (t 13)
 .skip
 (.exit 0)))
 (.block 1 (.seq (.reg [a 14 (.p (.mv (t 0))),
 a 15 (.p (.mv (t 7))),
 a 16 (.p (.mv (t 8))),
 a 17 (.p (.mv (t 2))),
 a 18 (.call N_slices_insertionSortCmpFunc_api_History [(t 14),(t 15),(t 16),(t 17)])])
 (.seq (.reg [a 19 (.p (.mv (t 8))),
 a 7 (.p (.mv (t 19)))])
 (.reg [a 20 (.p (.mv (t 8))),
 a 21 (.p (.mv (t 6))),
 a 22 (.p (.bin .add (t 20) (t 21))),
 a 8 (.p (.mv (t 22)))])))))))
 (.seq (.reg [a 23 (.p (.mv (t 0))),
 a 24 (.p (.mv (t 7))),
 a 25 (.p (.mv (t 1))),
 a 26 (.p (.mv (t 2))),
 a 27 (.call N_slices_insertionSortCmpFunc_api_History [(t 23),(t 24),(t 25),(t 26)])])
 (.block 2 (.loop (.seq (.seq (.reg [a 28 (.p (.mv (t 6))),
 a 29 (.p (.mv (t 1))),
 a 30 (.p (.bin .lss (t 28) (t 29)))])
 (.cond (t 30)
 .skip
 (.exit 2)))
 (.block 3 (.seq (.reg [a 31 (.p (.mv (t 6))),
 a 32 (.p (.bin .mul (k (.int .i64 2)) (t 31))),
 a 7 (.p (.mv (k (.int .i64 0)))),
 a 8 (.p (.mv (t 32)))])
 (.seq (.block 4 (.loop (.seq (.seq (.reg [a 33 (.p (.mv (t 8))),
 a 34 (.p (.mv (t 1))),
 a 35 (.p (.bin .leq (t 33) (t 34)))])
 (.cond (t 35)
 .skip
 (.exit 4)))
 (.block 5 (.seq (.reg [a 36 (.p (.mv (t 0))),
 a 37 (.p (.mv (t 7))),
 a 38 (.p (.mv (t 7))),
 a 39 (.p (.mv (t 6))),
 a 40 (.p (.bin .add (t 38) (t 39))),
 a 41 (.p (.mv (t 8))),
 a 42 (.p (.mv (t 2))),
 a 43 (.call N_slices_symMergeCmpFunc_api_History [(t 36),(t 37),(t 40),(t 41),(t 42)])])
 (.seq (.reg [a 44 (.p (.mv (t 8))),
 a 7 (.p (.mv (t 44)))])
 (.reg [a 45 (.p (.mv (t 8))),
 a 46 (.p (.mv (t 6))),
 a 47 (.p (.bin .mul (k (.int .i64 2)) (t 46))),
 a 48 (.p (.bin .add (t 45) (t 47))),
 a 8 (.p (.mv (t 48)))])))))))
 (.seq (.seq (.reg [a 49 (.p (.mv (t 7))),
 a 50 (.p (.mv (t 6))),
 a 51 (.p (.bin .add (t 49) (t 50))),
 a 9 (.p (.mv (t 51)))])
 (.seq (.reg [a 52 (.p (.mv (t 9))),
 a 53 (.p (.mv (t 1))),
 a 54 (.p (.bin .lss (t 52) (t 53)))])
 (.cond (t 54)
 (.reg [a 55 (.p (.mv (t 0))),
 a 56 (.p (.mv (t 7))),
 a 57 (.p (.mv (t 9))),
 a 58 (.p (.mv (t 1))),
 a 59 (.p (.mv (t 2))),
 a 60 (.call N_slices_symMergeCmpFunc_api_History [(t 55),(t 56),(t 57),(t 58),(t 59)])])
 .skip)))
 (.reg [a 61 (.p (.mv (t 6))),
 a 62 (.p (.bin .mul (t 61) (k (.int .i64 2)))),
 a 6 (.p (.mv (t 62)))])))))))))))), []⟩
/-- slices.stableCmpFunc(stoa/api.Change) -/
def F_slices_stableCmpFunc_api_Change : AFn := ⟨3, 63, (.seq (.reg [a 6 (.p (.mv (k (.int .i64 20))))])
 (.seq (.reg [a 10 (.p (.mv (t 6))),
 a 7 (.p (.mv (k (.int .i64 0)))),
 a 8 (.p (.mv (t 10)))])
 (.seq (.block 0 (.loop (.seq (.seq (.reg [a 11 (.p (.mv (t 8))),
 a 12 (.p (.mv (t 1))),
 a 13 (.p (.bin .leq (t 11) (t 12)))])
 (.cond (t 13)
 .skip
 (.exit 0)))
 (.block 1 (.seq (.reg [a 14 (.p (.mv (t 0))),
 a 15 (.p (.mv (t 7))),
 a 16 (.p (.mv (t 8))),
 a 17 (.p (.mv (t 2))),
 a 18 (.call N_slices_insertionSortCmpFunc_api_Change [(t 14),(t 15),(t 16),(t 17)])])
 (.seq (.reg [a 19 (.p (.mv (t 8))),
 a 7 (.p (.mv (t 19)))])
 (.reg [a 20 (.p (.mv (t 8))),
 a 21 (.p (.mv (t 6))),
 a 22 (.p (.bin .add (t 20) (t 21))),
 a 8 (.p (.mv (t 22)))])))))))
 (.seq (.reg [a 23 (.p (.mv (t 0))),
 a 24 (.p (.mv (t 7))),
 a 25 (.p (.mv (t 1))),
 a 26 (.p (.mv (t 2))),
 a 27 (.call N_slices_insertionSortCmpFunc_api_Change [(t 23),(t 24),(t 25),(t 26)])])
 (.block 2 (.loop (.seq (.seq (.reg [a 28 (.p (.mv (t 6))),
 a 29 (.p (.mv (t 1))),
 a 30 (.p (.bin .lss (t 28) (t 29)))])
 (.cond (t 30)
 .skip
 (.exit 2)))
 (.block 3 (.seq (.reg [a 31 (.p (.mv (t 6))),
 a 32 (.p (.bin .mul (k (.int .i64 2)) (t 31))),
 a 7 (.p (.mv (k (.int .i64 0)))),
 a 8 (.p (.mv (t 32)))])
 (.seq (.block 4 (.loop (.seq (.seq (.reg [a 33 (.p (.mv (t 8))),
 a 34 (.p (.mv (t 1))),
 a 35 (.p (.bin .leq (t 33) (t 34)))])
 (.cond (t 35)
 .skip
 (.exit 4)))
 (.block 5 (.seq (.reg [a 36 (.p (.mv (t 0))),
 a 37 (.p (.mv (t 7))),
 a 38 (.p (.mv (t 7))),
 a 39 (.p (.mv (t 6))),
 a 40 (.p (.bin .add (t 38) (t 39))),
 a 41 (.p (.mv (t 8))),
 a 42 (.p (.mv (t 2))),
 a 43 (.call N_slices_symMergeCmpFunc_api_Change [(t 36),(t 37),(t 40),(t 41),(t 42)])])
 (.seq (.reg [a 44 (.p (.mv (t 8))),
 a 7 (.p (.mv (t 44)))])
 (.reg [a 45 (.p (.mv (t 8))),
 a 46 (.p (.mv (t 6))),
 a 47 (.p (.bin .mul (k (.int .i64 2)) (t 46))),
 a 48 (.p (.bin .add (t 45) (t 47))),
 a 8 (.p (.mv (t 48)))])))))))
 (.seq (.seq (.reg [a 49 (.p (.mv (t 7))),
 a 50 (.p (.mv (t 6))),
 a 51 (.p (.bin .add (t 49) (t 50))),
 a 9 (.p (.mv (t 51)))])
 (.seq (.reg [a 52 (.p (.mv (t 9))),
 a 53 (.p (.mv (t 1))),
 a 54 (.p (.bin .lss (t 52) (t 53)))])
 (.cond (t 54)
 (.reg [a 55 (.p (.mv (t 0))),
 a 56 (.p (.mv (t 7))),
 a 57 (.p (.mv (t 9))),
 a 58 (.p (.mv (t 1))),
 a 59 (.p (.mv (t 2))),
 a 60 (.call N_slices_symMergeCmpFunc_api_Change [(t 55),(t 56),(t 57),(t 58),(t 59)])])
 .skip)))
 (.reg [a 61 (.p (.mv (t 6))),
 a 62 (.p (.bin .mul (t 61) (k (.int .i64 2)))),
 a 6 (.p (.mv (t 62)))])))))))))))), []⟩
/-- cmp.Compare(int64) -/
def F_cmp_Compare_int64 : AFn := ⟨2, 20, (.seq (.reg [a 4 (.p (.mv (k (.int .i64 0))))])
 (.seq (.reg [a 7 (.p (.mv (t 0))),
 a 8 (.call N_cmp_isNaN_int64 [(t 7)]),
 a 5 (.p (.mv (t 8)))])
 (.seq (.reg [a 9 (.p (.mv (t 1))),
 a 10 (.call N_cmp_isNaN_int64 [(t 9)]),
 a 6 (.p (.mv (t 10)))])
 (.seq (.seq (.reg [a 11 (.p (.mv (t 5)))])
 (.cond (t 11)
 (.seq (.seq (.reg [a 12 (.p (.mv (t 6)))])
 (.cond (t 12)
 (.seq (.reg [a 4 (.p (.mv (k (.int .i64 0))))])
 .ret)
 .skip))
 (.seq (.reg [a 4 (.p (.mv (k (.int .i64 (-1)))))])
 .ret))
 .skip))
 (.seq (.seq (.reg [a 13 (.p (.mv (t 6)))])
 (.cond (t 13)
 (.seq (.reg [a 4 (.p (.mv (k (.int .i64 1))))])
 .ret)
 .skip))
 (.seq (.seq (.reg [a 14 (.p (.mv (t 0))),
 a 15 (.p (.mv (t 1))),
 a 16 (.p (.bin .lss (t 14) (t 15)))])
 (.cond (t 16)
 (.seq (.reg [a 4 (.p (.mv (k (.int .i64 (-1)))))])
 .ret)
 .skip))
 (.seq (.seq (.reg [a 17 (.p (.mv (t 0))),
 a 18 (.p (.mv (t 1))),
 a 19 (.p (.bin .gtr (t 17) (t 18)))])
 (.cond (t 19)
 (.seq (.reg [a 4 (.p (.mv (k (.int .i64 1))))])
 .ret)
 .skip))
 (.seq (.reg [a 4 (.p (.mv (k (.int .i64 0))))])
 .ret)))))))), [.tmp 4]⟩
/-- stoa/keys.Decode -/
def F_keys_Decode : AFn := ⟨2, 57, (.seq (.reg [a 2 (.n (.box (t 0))),
 a 4 (.p (.mv (k .nslc))),
 a 5 (.p (.mv (k (.int .i64 0))))])
 (.seq (.seq (.reg [a 13 (.r (.load (some 2) (t 2))),
 a 14 (.call N_schema_Check [(t 13)]),
 a 6 (.p (.mv (t 14)))])
 (.seq (.reg [a 15 (.p (.mv (t 6))),
 a 16 (.p (.bin .neq (t 15) (k (.int .i64 0))))])
 (.cond (t 16)
 (.seq (.reg [a 17 (.p (.mv (t 6))),
 a 4 (.p (.mv (k .nslc))),
 a 5 (.p (.mv (t 17)))])
 .ret)
 .skip)))
 (.seq (.reg [a 7 (.p (.mv (k .nslc)))])
 (.seq (.seq (.reg [a 18 (.p (.fld 0 (t 2))),
 a 19 (.r (.load none (t 18))),
 a 20 (.p (.fld 1 (t 2))),
 a 21 (.r (.load none (t 20))),
 a 22 (.p (.slcS 3 (t 19) none (some (t 21)) none)),
 a 23 (.p (.len false (t 22))),
 a 24 (.p (.mv (k (.int .i64 0))))])
 (.block 0 (.loop (.seq (.reg [a 25 (.p (.bin .lss (t 24) (t 23)))])
 (.seq (.cond (t 25)
 .skip
 (.exit 0))
 (.seq (.block 1 (.seq (.reg [a 26 (.p (.idxS 3 (t 22) (t 24))),
 a 27 (.r (.load (some 3) (t 26))),
 a 9 (.n (.alloc [(.str []),(.int .i64 0),(.bool false)])),
 b (.e (.store 3 (t 9) (t 27)))])
 (.seq (.reg [a 29 (.p (.fld 1 (t 9))),
 a 30 (.r (.load none (t 29))),
 a 31 (.p (.mv (t 1))),
 a 32 (.call N_keys_read [(t 30),(t 31)]),
 a 28 (.p (.mv (t 32))),
 a 33 (.p (.extract (t 28) 0)),
 a 34 (.p (.extract (t 28) 1)),
 a 35 (.p (.extract (t 28) 2)),
 a 10 (.n (.alloc [(.bool false),(.int .i64 0),.nslc])),
 b (.e (.store 3 (t 10) (t 33))),
 a 11 (.p (.mv (t 34))),
 a 12 (.p (.mv (t 35)))])
 (.seq (.seq (.reg [a 36 (.p (.mv (t 12))),
 a 37 (.p (.un .not (t 36))),
 a 38 (.p (.mv (t 37))),
 c 39 (.p (.fld 1 (t 9))) 38 false,
 c 40 (.r (.load none (t 39))) 38 false,
 c 41 (.r (.load (some 3) (t 10))) 38 false,
 c 42 (.call N_cell_Check [(t 40),(k (.bool false)),(t 41)]) 38 false,
 c 43 (.p (.bin .neq (t 42) (k (.int .i64 0)))) 38 false,
 a 44 (.p (.sel (t 38) (k (.bool true)) (t 43)))])
 (.cond (t 44)
 (.seq (.reg [a 4 (.p (.mv (k .nslc))),
 a 5 (.p (.mv (k (.int .i64 70))))])
 .ret)
 .skip))
 (.seq (.reg [a 45 (.p (.mv (t 7))),
 a 46 (.r (.load (some 3) (t 10))),
 a 47 (.n (.bslice 3 [(.bool false),(.int .i64 0),.nslc] 1 [(0,3,(t 46))])),
 a 48 (.e (.append 3 40 (t 45) (t 47))),
 a 7 (.p (.mv (t 48)))])
 (.reg [a 49 (.p (.mv (t 1))),
 a 50 (.p (.mv (t 11))),
 a 51 (.p (.slcS 1 (t 49) (some (t 50)) none none)),
 a 1 (.p (.mv (t 51)))]))))))
 (.reg [a 52 (.p (.bin .add (t 24) (k (.int .i64 1)))),
 a 24 (.p (.mv (t 52)))])))))))
 (.seq (.seq (.reg [a 53 (.p (.mv (t 1))),
 a 54 (.p (.len false (t 53))),
 a 55 (.p (.bin .gtr (t 54) (k (.int .i64 0))))])
 (.cond (t 55)
 (.seq (.reg [a 4 (.p (.mv (k .nslc))),
 a 5 (.p (.mv (k (.int .i64 70))))])
 .ret)
 .skip))
 (.seq (.reg [a 56 (.p (.mv (t 7))),
 a 4 (.p (.mv (t 56))),
 a 5 (.p (.mv (k (.int .i64 0))))])
 .ret)))))), [.tmp 4,.tmp 5]⟩
/-- stoa/memstore.badTime -/
def F_memstore_badTime : AFn := ⟨1, 9, (.seq (.reg [a 2 (.p (.mv (k (.bool false))))])
 (.seq (.reg [a 3 (.p (.mv (t 0))),
 a 4 (.p (.bin .lss (t 3) (k (.int .i64 0)))),
 a 5 (.p (.mv (t 4))),
 c 6 (.p (.mv (t 0))) 5 false,
 c 7 (.p (.bin .gtr (t 6) (k (.int .i64 1099511627776)))) 5 false,
 a 8 (.p (.sel (t 5) (k (.bool true)) (t 7))),
 a 2 (.p (.mv (t 8)))])
 .ret)), [.tmp 2]⟩
/-- stoa/memstore.link -/
def F_memstore_link : AFn := ⟨3, 59, (.seq (.reg [a 3 (.n (.box (t 0))),
 a 5 (.n (.box (t 2))),
 a 6 (.p (.mv (k (.int .i64 0))))])
 (.seq (.seq (.reg [a 10 (.p (.fld 1 (t 5))),
 a 11 (.r (.load none (t 10)))])
 (.block 0 (.seq (.reg [a 13 (.p (.bin .eql (t 11) (k (.int .i64 1)))),
 a 12 (.p (.mv (t 13)))])
 (.cond (t 12)
 (.seq (.seq (.reg [a 14 (.r (.load (some 2) (t 3))),
 a 15 (.p (.fld 2 (t 5))),
 a 16 (.r (.load none (t 15))),
 a 17 (.call N_schema_Row [(t 14),(t 16)]),
 a 7 (.p (.mv (t 17)))])
 (.seq (.reg [a 18 (.p (.mv (t 7))),
 a 19 (.p (.bin .neq (t 18) (k (.int .i64 0))))])
 (.cond (t 19)
 (.seq (.reg [a 20 (.p (.mv (t 7))),
 a 6 (.p (.mv (t 20)))])
 .ret)
 .skip)))
 (.seq (.seq (.reg [a 21 (.p (.fld 3 (t 5))),
 a 22 (.r (.load none (t 21))),
 a 23 (.p (.len false (t 22))),
 a 24 (.p (.bin .gtr (t 23) (k (.int .i64 0))))])
 (.cond (t 24)
 (.seq (.reg [a 6 (.p (.mv (k (.int .i64 61))))])
 .ret)
 .skip))
 (.seq (.seq (.dreg [(a 26 (.r (.load (some 2) (t 3))), []),
 (a 27 (.p (.fld 2 (t 5))), []),
 (a 28 (.r (.load none (t 27))), []),
 (a 29 (.p (.fld 1 (t 3))), []),
 (a 30 (.r (.load none (t 29))), []),
 (a 31 (.p (.slcS 3 (t 28) none (some (t 30)) none)), []),
 (a 32 (.call N_keys_Encode [(t 26),(t 31)]), []),
 (a 25 (.p (.mv (t 32))), []),
 (a 33 (.p (.extract (t 25) 0)), []),
 (a 34 (.p (.extract (t 25) 1)), []),
 (a 8 (.p (.mv (t 33))), []),
 (a 9 (.p (.mv (t 34))), [])])
 (.seq (.reg [a 35 (.p (.mv (t 8))),
 a 36 (.p (.mv (t 1))),
 a 37 (.call N_bytes_Equal [(t 35),(t 36)]),
 a 38 (.p (.un .not (t 37)))])
 (.cond (t 38)
 (.seq (.reg [a 6 (.p (.mv (k (.int .i64 70))))])
 .ret)
 .skip)))
 (.seq (.reg [a 6 (.p (.mv (k (.int .i64 0))))])
 .ret))))
 (.seq (.reg [a 40 (.p (.bin .eql (t 11) (k (.int .i64 2)))),
 a 39 (.p (.mv (t 40)))])
 (.cond (t 39)
 (.seq (.seq (.reg [a 41 (.p (.fld 2 (t 5))),
 a 42 (.r (.load none (t 41))),
 a 43 (.p (.len false (t 42))),
 a 44 (.p (.bin .gtr (t 43) (k (.int .i64 0))))])
 (.cond (t 44)
 (.seq (.reg [a 6 (.p (.mv (k (.int .i64 61))))])
 .ret)
 .skip))
 (.seq (.reg [a 45 (.r (.load (some 2) (t 3))),
 a 46 (.p (.fld 3 (t 5))),
 a 47 (.r (.load none (t 46))),
 a 48 (.call N_schema_Sets [(t 45),(t 47)]),
 a 6 (.p (.mv (t 48)))])
 .ret))
 .skip))))))
 (.seq (.seq (.reg [a 49 (.p (.fld 2 (t 5))),
 a 50 (.r (.load none (t 49))),
 a 51 (.p (.len false (t 50))),
 a 52 (.p (.bin .gtr (t 51) (k (.int .i64 0)))),
 a 53 (.p (.mv (t 52))),
 c 54 (.p (.fld 3 (t 5))) 53 false,
 c 55 (.r (.load none (t 54))) 53 false,
 c 56 (.p (.len false (t 55))) 53 false,
 c 57 (.p (.bin .gtr (t 56) (k (.int .i64 0)))) 53 false,
 a 58 (.p (.sel (t 53) (k (.bool true)) (t 57)))])
 (.cond (t 58)
 (.seq (.reg [a 6 (.p (.mv (k (.int .i64 61))))])
 .ret)
 .skip))
 (.seq (.reg [a 6 (.p (.mv (k (.int .i64 0))))])
 .ret)))), [.tmp 6]⟩
/-- stoa/memstore.there -/
def F_memstore_there : AFn := ⟨2, 18, (.seq (.reg [a 4 (.p (.mv (k (.int .i64 0))))])
 (.seq (.block 0 (.seq (.reg [a 6 (.p (.mv (t 0))),
 a 7 (.p (.bin .eql (t 6) (k (.int .i64 1)))),
 a 8 (.p (.mv (t 7))),
 c 9 (.p (.mv (t 1))) 8 true,
 a 10 (.p (.sel (t 8) (t 9) (k (.bool false)))),
 a 5 (.p (.mv (t 10)))])
 (.cond (t 5)
 (.seq (.reg [a 4 (.p (.mv (k (.int .i64 190))))])
 .ret)
 (.seq (.reg [a 12 (.p (.mv (t 0))),
 a 13 (.p (.bin .neq (t 12) (k (.int .i64 1)))),
 a 14 (.p (.mv (t 13))),
 c 15 (.p (.mv (t 1))) 14 true,
 c 16 (.p (.un .not (t 15))) 14 true,
 a 17 (.p (.sel (t 14) (t 16) (k (.bool false)))),
 a 11 (.p (.mv (t 17)))])
 (.cond (t 11)
 (.seq (.reg [a 4 (.p (.mv (k (.int .i64 191))))])
 .ret)
 .skip)))))
 (.seq (.reg [a 4 (.p (.mv (k (.int .i64 0))))])
 .ret))), [.tmp 4]⟩
/-- slices.siftDownCmpFunc(stoa/merge.span) -/
def F_slices_siftDownCmpFunc_merge_span : AFn := ⟨5, 82, (.seq (.reg [a 12 (.p (.mv (t 1))),
 a 10 (.p (.mv (t 12)))])
 (.block 0 (.loop (.block 1 (.seq (.reg [a 13 (.p (.mv (t 10))),
 a 14 (.p (.bin .mul (k (.int .i64 2)) (t 13))),
 a 15 (.p (.bin .add (t 14) (k (.int .i64 1)))),
 a 11 (.p (.mv (t 15)))])
 (.seq (.seq (.reg [a 16 (.p (.mv (t 11))),
 a 17 (.p (.mv (t 2))),
 a 18 (.p (.bin .geq (t 16) (t 17)))])
 (.cond (t 18)
 (.exit 0)
 .skip))
 (.seq (.seq (.dreg [(a 19 (.p (.mv (t 11))), []),
 (a 20 (.p (.bin .add (t 19) (k (.int .i64 1)))), []),
 (a 21 (.p (.mv (t 2))), []),
 (a 22 (.p (.bin .lss (t 20) (t 21))), []),
 (a 23 (.p (.mv (t 22))), []),
 (c 24 (.p (.mv (t 4))) 23 true, []),
 (c 25 (.p (.mv (t 0))) 23 true, []),
 (c 26 (.p (.mv (t 3))) 23 true, []),
 (c 27 (.p (.mv (t 11))) 23 true, []),
 (c 28 (.p (.bin .add (t 26) (t 27))) 23 true, []),
 (c 29 (.p (.idxS 2 (t 25) (t 28))) 23 true, []),
 (c 30 (.r (.load (some 2) (t 29))) 23 true, []),
 (c 31 (.p (.mv (t 0))) 23 true, []),
 (c 32 (.p (.mv (t 3))) 23 true, []),
 (c 33 (.p (.mv (t 11))) 23 true, []),
 (c 34 (.p (.bin .add (t 32) (t 33))) 23 true, []),
 (c 35 (.p (.bin .add (t 34) (k (.int .i64 1)))) 23 true, []),
 (c 36 (.p (.idxS 2 (t 31) (t 35))) 23 true, []),
 (c 37 (.r (.load (some 2) (t 36))) 23 true, []),
 (c 38 (.callv (t 24) [(t 30),(t 37)]) 23 true, []),
 (c 39 (.p (.bin .lss (t 38) (k (.int .i64 0)))) 23 true, []),
 (a 40 (.p (.sel (t 23) (t 39) (k (.bool false)))), [])])
 (.cond (t 40)
 (.reg [a 41 (.p (.mv (t 11))),
 a 42 (.p (.bin .add (t 41) (k (.int .i64 1)))),
 a 11 (.p (.mv (t 42)))])
 .skip))
 (.seq (.seq (.dreg [(a 43 (.p (.mv (t 4))), []),
 (a 44 (.p (.mv (t 0))), []),
 (a 45 (.p (.mv (t 3))), []),
 (a 46 (.p (.mv (t 10))), []),
 (a 47 (.p (.bin .add (t 45) (t 46))), []),
 (a 48 (.p (.idxS 2 (t 44) (t 47))), []),
 (a 49 (.r (.load (some 2) (t 48))), []),
 (a 50 (.p (.mv (t 0))), []),
 (a 51 (.p (.mv (t 3))), []),
 (a 52 (.p (.mv (t 11))), []),
 (a 53 (.p (.bin .add (t 51) (t 52))), []),
 (a 54 (.p (.idxS 2 (t 50) (t 53))), []),
 (a 55 (.r (.load (some 2) (t 54))), []),
 (a 56 (.callv (t 43) [(t 49),(t 55)]), []),
 (a 57 (.p (.bin .lss (t 56) (k (.int .i64 0)))), []),
 (a 58 (.p (.un .not (t 57))), [])])
 (.cond (t 58)
 .ret
 .skip))
 (.seq (.dreg [(a 59 (.p (.mv (t 0))), []),
 (a 60 (.p (.mv (t 3))), []),
 (a 61 (.p (.mv (t 10))), []),
 (a 62 (.p (.bin .add (t 60) (t 61))), []),
 (a 63 (.p (.mv (t 0))), []),
 (a 64 (.p (.mv (t 3))), []),
 (a 65 (.p (.mv (t 11))), []),
 (a 66 (.p (.bin .add (t 64) (t 65))), []),
 (a 67 (.p (.mv (t 0))), []),
 (a 68 (.p (.mv (t 3))), []),
 (a 69 (.p (.mv (t 11))), []),
 (a 70 (.p (.bin .add (t 68) (t 69))), []),
 (a 71 (.p (.idxS 2 (t 67) (t 70))), []),
 (a 72 (.r (.load (some 2) (t 71))), []),
 (a 73 (.p (.mv (t 0))), []),
 (a 74 (.p (.mv (t 3))), []),
 (a 75 (.p (.mv (t 10))), []),
 (a 76 (.p (.bin .add (t 74) (t 75))), []),
 (a 77 (.p (.idxS 2 (t 73) (t 76))), []),
 (a 78 (.r (.load (some 2) (t 77))), []),
 (a 79 (.p (.idxS 2 (t 59) (t 62))), []),
 (b (.e (.store 2 (t 79) (t 72))), []),
 (a 80 (.p (.idxS 2 (t 63) (t 66))), []),
 (b (.e (.store 2 (t 80) (t 78))), [])])
 (.reg [a 81 (.p (.mv (t 11))),
 a 10 (.p (.mv (t 81)))])))))))))), []⟩
/-- slices.nextPowerOfTwo -/
def F_slices_nextPowerOfTwo : AFn := ⟨1, 7, (.seq (.reg [a 2 (.p (.mv (k (.int .u64 0))))])
 (.seq (.reg [a 3 (.p (.mv (t 0))),
 a 4 (.p (.conv .u64 (t 3))),
 a 5 (.call N_math_bits_Len [(t 4)]),
 a 6 (.p (.bin .shl (k (.int .u64 1)) (t 5))),
 a 2 (.p (.mv (t 6)))])
 .ret)), [.tmp 2]⟩
/-- (*slices.xorshift).Next -/
def F_slices_xorshift_Next : AFn := ⟨1, 33, (.seq (.reg [a 2 (.p (.mv (k (.int .u64 0))))])
 (.seq (.dreg [(a 3 (.p (.mv (t 0))), []),
 (a 4 (.p (.nilck (t 3))), []),
 (a 5 (.r (.load none (t 4))), []),
 (a 6 (.p (.mv (t 0))), []),
 (a 7 (.p (.nilck (t 6))), []),
 (a 8 (.r (.load none (t 7))), []),
 (a 9 (.p (.bin .shl (t 8) (k (.int .u64 13)))), []),
 (a 10 (.p (.bin .xor (t 5) (t 9))), []),
 (a 11 (.p (.nilck (t 3))), []),
 (b (.e (.store 1 (t 11) (t 10))), [])])
 (.seq (.dreg [(a 12 (.p (.mv (t 0))), []),
 (a 13 (.p (.nilck (t 12))), []),
 (a 14 (.r (.load none (t 13))), []),
 (a 15 (.p (.mv (t 0))), []),
 (a 16 (.p (.nilck (t 15))), []),
 (a 17 (.r (.load none (t 16))), []),
 (a 18 (.p (.bin .shr (t 17) (k (.int .u64 7)))), []),
 (a 19 (.p (.bin .xor (t 14) (t 18))), []),
 (a 20 (.p (.nilck (t 12))), []),
 (b (.e (.store 1 (t 20) (t 19))), [])])
 (.seq (.dreg [(a 21 (.p (.mv (t 0))), []),
 (a 22 (.p (.nilck (t 21))), []),
 (a 23 (.r (.load none (t 22))), []),
 (a 24 (.p (.mv (t 0))), []),
 (a 25 (.p (.nilck (t 24))), []),
 (a 26 (.r (.load none (t 25))), []),
 (a 27 (.p (.bin .shl (t 26) (k (.int .u64 17)))), []),
 (a 28 (.p (.bin .xor (t 23) (t 27))), []),
 (a 29 (.p (.nilck (t 21))), []),
 (b (.e (.store 1 (t 29) (t 28))), [])])
 (.seq (.reg [a 30 (.p (.mv (t 0))),
 a 31 (.p (.nilck (t 30))),
 a 32 (.r (.load none (t 31))),
 a 2 (.p (.mv (t 32)))])
 .ret))))), [.tmp 2]⟩
/-- slices.medianAdjacentCmpFunc(stoa/merge.span) -/
def F_slices_medianAdjacentCmpFunc_merge_span : AFn := ⟨4, 18, (.seq (.reg [a 8 (.p (.mv (k (.int .i64 0))))])
 (.seq (.reg [a 9 (.p (.mv (t 0))),
 a 10 (.p (.mv (t 1))),
 a 11 (.p (.bin .sub (t 10) (k (.int .i64 1)))),
 a 12 (.p (.mv (t 1))),
 a 13 (.p (.mv (t 1))),
 a 14 (.p (.bin .add (t 13) (k (.int .i64 1)))),
 a 15 (.p (.mv (t 2))),
 a 16 (.p (.mv (t 3))),
 a 17 (.call N_slices_medianCmpFunc_merge_span [(t 9),(t 11),(t 12),(t 14),(t 15),(t 16)]),
 a 8 (.p (.mv (t 17)))])
 .ret)), [.tmp 8]⟩
/-- slices.medianCmpFunc(stoa/merge.span) -/
def F_slices_medianCmpFunc_merge_span : AFn := ⟨6, 41, (.seq (.reg [a 12 (.p (.mv (k (.int .i64 0))))])
 (.seq (.reg [a 14 (.p (.mv (t 0))),
 a 15 (.p (.mv (t 1))),
 a 16 (.p (.mv (t 2))),
 a 17 (.p (.mv (t 4))),
 a 18 (.p (.mv (t 5))),
 a 19 (.call N_slices_order2CmpFunc_merge_span [(t 14),(t 15),(t 16),(t 17),(t 18)]),
 a 13 (.p (.mv (t 19))),
 a 20 (.p (.extract (t 13) 0)),
 a 21 (.p (.extract (t 13) 1)),
 a 1 (.p (.mv (t 20))),
 a 2 (.p (.mv (t 21)))])
 (.seq (.reg [a 23 (.p (.mv (t 0))),
 a 24 (.p (.mv (t 2))),
 a 25 (.p (.mv (t 3))),
 a 26 (.p (.mv (t 4))),
 a 27 (.p (.mv (t 5))),
 a 28 (.call N_slices_order2CmpFunc_merge_span [(t 23),(t 24),(t 25),(t 26),(t 27)]),
 a 22 (.p (.mv (t 28))),
 a 29 (.p (.extract (t 22) 0)),
 a 30 (.p (.extract (t 22) 1)),
 a 2 (.p (.mv (t 29))),
 a 3 (.p (.mv (t 30)))])
 (.seq (.reg [a 32 (.p (.mv (t 0))),
 a 33 (.p (.mv (t 1))),
 a 34 (.p (.mv (t 2))),
 a 35 (.p (.mv (t 4))),
 a 36 (.p (.mv (t 5))),
 a 37 (.call N_slices_order2CmpFunc_merge_span [(t 32),(t 33),(t 34),(t 35),(t 36)]),
 a 31 (.p (.mv (t 37))),
 a 38 (.p (.extract (t 31) 0)),
 a 39 (.p (.extract (t 31) 1)),
 a 1 (.p (.mv (t 38))),
 a 2 (.p (.mv (t 39)))])
 (.seq (.reg [a 40 (.p (.mv (t 2))),
 a 12 (.p (.mv (t 40)))])
 .ret))))), [.tmp 12]⟩
/-- slices.siftDownOrdered(int) -/
def F_slices_siftDownOrdered_int : AFn := ⟨4, 76, (.seq (.reg [a 10 (.p (.mv (t 1))),
 a 8 (.p (.mv (t 10)))])
 (.block 0 (.loop (.block 1 (.seq (.reg [a 11 (.p (.mv (t 8))),
 a 12 (.p (.bin .mul (k (.int .i64 2)) (t 11))),
 a 13 (.p (.bin .add (t 12) (k (.int .i64 1)))),
 a 9 (.p (.mv (t 13)))])
 (.seq (.seq (.reg [a 14 (.p (.mv (t 9))),
 a 15 (.p (.mv (t 2))),
 a 16 (.p (.bin .geq (t 14) (t 15)))])
 (.cond (t 16)
 (.exit 0)
 .skip))
 (.seq (.seq (.dreg [(a 17 (.p (.mv (t 9))), []),
 (a 18 (.p (.bin .add (t 17) (k (.int .i64 1)))), []),
 (a 19 (.p (.mv (t 2))), []),
 (a 20 (.p (.bin .lss (t 18) (t 19))), []),
 (a 21 (.p (.mv (t 20))), []),
 (c 22 (.p (.mv (t 0))) 21 true, []),
 (c 23 (.p (.mv (t 3))) 21 true, []),
 (c 24 (.p (.mv (t 9))) 21 true, []),
 (c 25 (.p (.bin .add (t 23) (t 24))) 21 true, []),
 (c 26 (.p (.idxS 1 (t 22) (t 25))) 21 true, []),
 (c 27 (.r (.load none (t 26))) 21 true, []),
 (c 28 (.p (.mv (t 0))) 21 true, []),
 (c 29 (.p (.mv (t 3))) 21 true, []),
 (c 30 (.p (.mv (t 9))) 21 true, []),
 (c 31 (.p (.bin .add (t 29) (t 30))) 21 true, []),
 (c 32 (.p (.bin .add (t 31) (k (.int .i64 1)))) 21 true, []),
 (c 33 (.p (.idxS 1 (t 28) (t 32))) 21 true, []),
 (c 34 (.r (.load none (t 33))) 21 true, []),
 (c 35 (.call N_cmp_Less_int [(t 27),(t 34)]) 21 true, []),
 (a 36 (.p (.sel (t 21) (t 35) (k (.bool false)))), [])])
 (.cond (t 36)
 (.reg [a 37 (.p (.mv (t 9))),
 a 38 (.p (.bin .add (t 37) (k (.int .i64 1)))),
 a 9 (.p (.mv (t 38)))])
 .skip))
 (.seq (.seq (.dreg [(a 39 (.p (.mv (t 0))), []),
 (a 40 (.p (.mv (t 3))), []),
 (a 41 (.p (.mv (t 8))), []),
 (a 42 (.p (.bin .add (t 40) (t 41))), []),
 (a 43 (.p (.idxS 1 (t 39) (t 42))), []),
 (a 44 (.r (.load none (t 43))), []),
 (a 45 (.p (.mv (t 0))), []),
 (a 46 (.p (.mv (t 3))), []),
 (a 47 (.p (.mv (t 9))), []),
 (a 48 (.p (.bin .add (t 46) (t 47))), []),
 (a 49 (.p (.idxS 1 (t 45) (t 48))), []),
 (a 50 (.r (.load none (t 49))), []),
 (a 51 (.call N_cmp_Less_int [(t 44),(t 50)]), []),
 (a 52 (.p (.un .not (t 51))), [])])
 (.cond (t 52)
 .ret
 .skip))
 (.seq (.dreg [(a 53 (.p (.mv (t 0))), []),
 (a 54 (.p (.mv (t 3))), []),
 (a 55 (.p (.mv (t 8))), []),
 (a 56 (.p (.bin .add (t 54) (t 55))), []),
 (a 57 (.p (.mv (t 0))), []),
 (a 58 (.p (.mv (t 3))), []),
 (a 59 (.p (.mv (t 9))), []),
 (a 60 (.p (.bin .add (t 58) (t 59))), []),
 (a 61 (.p (.mv (t 0))), []),
 (a 62 (.p (.mv (t 3))), []),
 (a 63 (.p (.mv (t 9))), []),
 (a 64 (.p (.bin .add (t 62) (t 63))), []),
 (a 65 (.p (.idxS 1 (t 61) (t 64))), []),
 (a 66 (.r (.load none (t 65))), []),
 (a 67 (.p (.mv (t 0))), []),
 (a 68 (.p (.mv (t 3))), []),
 (a 69 (.p (.mv (t 8))), []),
 (a 70 (.p (.bin .add (t 68) (t 69))), []),
 (a 71 (.p (.idxS 1 (t 67) (t 70))), []),
 (a 72 (.r (.load none (t 71))), []),
 (a 73 (.p (.idxS 1 (t 53) (t 56))), []),
 (b (.e (.store 1 (t 73) (t 66))), []),
 (a 74 (.p (.idxS 1 (t 57) (t 60))), []),
 (b (.e (.store 1 (t 74) (t 72))), [])])
 (.reg [a 75 (.p (.mv (t 9))),
 a 8 (.p (.mv (t 75)))])))))))))), []⟩
/-- slices.medianAdjacentOrdered(int) -/
def F_slices_medianAdjacentOrdered_int : AFn := ⟨3, 15, (.seq (.reg [a 6 (.p (.mv (k (.int .i64 0))))])
 (.seq (.reg [a 7 (.p (.mv (t 0))),
 a 8 (.p (.mv (t 1))),
 a 9 (.p (.bin .sub (t 8) (k (.int .i64 1)))),
 a 10 (.p (.mv (t 1))),
 a 11 (.p (.mv (t 1))),
 a 12 (.p (.bin .add (t 11) (k (.int .i64 1)))),
 a 13 (.p (.mv (t 2))),
 a 14 (.call N_slices_medianOrdered_int [(t 7),(t 9),(t 10),(t 12),(t 13)]),
 a 6 (.p (.mv (t 14)))])
 .ret)), [.tmp 6]⟩
/-- slices.medianOrdered(int) -/
def F_slices_medianOrdered_int : AFn := ⟨5, 36, (.seq (.reg [a 10 (.p (.mv (k (.int .i64 0))))])
 (.seq (.reg [a 12 (.p (.mv (t 0))),
 a 13 (.p (.mv (t 1))),
 a 14 (.p (.mv (t 2))),
 a 15 (.p (.mv (t 4))),
 a 16 (.call N_slices_order2Ordered_int [(t 12),(t 13),(t 14),(t 15)]),
 a 11 (.p (.mv (t 16))),
 a 17 (.p (.extract (t 11) 0)),
 a 18 (.p (.extract (t 11) 1)),
 a 1 (.p (.mv (t 17))),
 a 2 (.p (.mv (t 18)))])
 (.seq (.reg [a 20 (.p (.mv (t 0))),
 a 21 (.p (.mv (t 2))),
 a 22 (.p (.mv (t 3))),
 a 23 (.p (.mv (t 4))),
 a 24 (.call N_slices_order2Ordered_int [(t 20),(t 21),(t 22),(t 23)]),
 a 19 (.p (.mv (t 24))),
 a 25 (.p (.extract (t 19) 0)),
 a 26 (.p (.extract (t 19) 1)),
 a 2 (.p (.mv (t 25))),
 a 3 (.p (.mv (t 26)))])
 (.seq (.reg [a 28 (.p (.mv (t 0))),
 a 29 (.p (.mv (t 1))),
 a 30 (.p (.mv (t 2))),
 a 31 (.p (.mv (t 4))),
 a 32 (.call N_slices_order2Ordered_int [(t 28),(t 29),(t 30),(t 31)]),
 a 27 (.p (.mv (t 32))),
 a 33 (.p (.extract (t 27) 0)),
 a 34 (.p (.extract (t 27) 1)),
 a 1 (.p (.mv (t 33))),
 a 2 (.p (.mv (t 34)))])
 (.seq (.reg [a 35 (.p (.mv (t 2))),
 a 10 (.p (.mv (t 35)))])
 .ret))))), [.tmp 10]⟩
/-- strings.trimLeftByte -/
def F_strings_trimLeftByte : AFn := ⟨2, 17, (.seq (.reg [a 4 (.p (.mv (k (.str []))))])
 (.seq (.block 0 (.loop (.seq (.seq (.reg [a 5 (.p (.mv (t 0))),
 a 6 (.p (.len true (t 5))),
 a 7 (.p (.bin .gtr (t 6) (k (.int .i64 0)))),
 a 8 (.p (.mv (t 7))),
 c 9 (.p (.mv (t 0))) 8 true,
 c 10 (.p (.strIdx (t 9) (k (.int .i64 0)))) 8 true,
 c 11 (.p (.mv (t 1))) 8 true,
 c 12 (.p (.bin .eql (t 10) (t 11))) 8 true,
 a 13 (.p (.sel (t 8) (t 12) (k (.bool false))))])
 (.cond (t 13)
 .skip
 (.exit 0)))
 (.block 1 (.reg [a 14 (.p (.mv (t 0))),
 a 15 (.p (.slcStr (t 14) (some (k (.int .i64 1))) none)),
 a 0 (.p (.mv (t 15)))])))))
 (.seq (.reg [a 16 (.p (.mv (t 0))),
 a 4 (.p (.mv (t 16)))])
 .ret))), [.tmp 4]⟩
/-- strings.trimRightByte -/
def F_strings_trimRightByte : AFn := ⟨2, 23, (.seq (.reg [a 4 (.p (.mv (k (.str []))))])
 (.seq (.block 0 (.loop (.seq (.seq (.reg [a 5 (.p (.mv (t 0))),
 a 6 (.p (.len true (t 5))),
 a 7 (.p (.bin .gtr (t 6) (k (.int .i64 0)))),
 a 8 (.p (.mv (t 7))),
 c 9 (.p (.mv (t 0))) 8 true,
 c 10 (.p (.mv (t 0))) 8 true,
 c 11 (.p (.len true (t 10))) 8 true,
 c 12 (.p (.bin .sub (t 11) (k (.int .i64 1)))) 8 true,
 c 13 (.p (.strIdx (t 9) (t 12))) 8 true,
 c 14 (.p (.mv (t 1))) 8 true,
 c 15 (.p (.bin .eql (t 13) (t 14))) 8 true,
 a 16 (.p (.sel (t 8) (t 15) (k (.bool false))))])
 (.cond (t 16)
 .skip
 (.exit 0)))
 (.block 1 (.reg [a 17 (.p (.mv (t 0))),
 a 18 (.p (.mv (t 0))),
 a 19 (.p (.len true (t 18))),
 a 20 (.p (.bin .sub (t 19) (k (.int .i64 1)))),
 a 21 (.p (.slcStr (t 17) none (some (t 20)))),
 a 0 (.p (.mv (t 21)))])))))
 (.seq (.reg [a 22 (.p (.mv (t 0))),
 a 4 (.p (.mv (t 22)))])
 .ret))), [.tmp 4]⟩
/-- strings.makeASCIISet -/
def F_strings_makeASCIISet : AFn := ⟨1, 21, (.seq (.reg [a 2 (.n (.alloc [(.bool false),(.bool false),(.bool false),(.bool false),(.bool false),(.bool false),(.bool false),(.bool false),(.bool false),(.bool false),(.bool false),(.bool false),(.bool false),(.bool false),(.bool false),(.bool false),(.bool false),(.bool false),(.bool false),(.bool false),(.bool false),(.bool false),(.bool false),(.bool false),(.bool false),(.bool false),(.bool false),(.bool false),(.bool false),(.bool false),(.bool false),(.bool false),(.bool false),(.bool false),(.bool false),(.bool false),(.bool false),(.bool false),(.bool false),(.bool false),(.bool false),(.bool false),(.bool false),(.bool false),(.bool false),(.bool false),(.bool false),(.bool false),(.bool false),(.bool false),(.bool false),(.bool false),(.bool false),(.bool false),(.bool false),(.bool false),(.bool false),(.bool false),(.bool false),(.bool false),(.bool false),(.bool false),(.bool false),(.bool false),(.bool false),(.bool false),(.bool false),(.bool false),(.bool false),(.bool false),(.bool false),(.bool false),(.bool false),(.bool false),(.bool false),(.bool false),(.bool false),(.bool false),(.bool false),(.bool false),(.bool false),(.bool false),(.bool false),(.bool false),(.bool false),(.bool false),(.bool false),(.bool false),(.bool false),(.bool false),(.bool false),(.bool false),(.bool false),(.bool false),(.bool false),(.bool false),(.bool false),(.bool false),(.bool false),(.bool false),(.bool false),(.bool false),(.bool false),(.bool false),(.bool false),(.bool false),(.bool false),(.bool false),(.bool false),(.bool false),(.bool false),(.bool false),(.bool false),(.bool false),(.bool false),(.bool false),(.bool false),(.bool false),(.bool false),(.bool false),(.bool false),(.bool false),(.bool false),(.bool false),(.bool false),(.bool false),(.bool false),(.bool false),(.bool false),(.bool false),(.bool false),(.bool false),(.bool false),(.bool false),(.bool false),(.bool false),(.bool false),(.bool false),(.bool false),(.bool false),(.bool false),(.bool false),(.bool false),(.bool false),(.bool false),(.bool false),(.bool false),(.bool false),(.bool false),(.bool false),(.bool false),(.bool false),(.bool false),(.bool false),(.bool false),(.bool false),(.bool false),(.bool false),(.bool false),(.bool false),(.bool false),(.bool false),(.bool false),(.bool false),(.bool false),(.bool false),(.bool false),(.bool false),(.bool false),(.bool false),(.bool false),(.bool false),(.bool false),(.bool false),(.bool false),(.bool false),(.bool false),(.bool false),(.bool false),(.bool false),(.bool false),(.bool false),(.bool false),(.bool false),(.bool false),(.bool false),(.bool false),(.bool false),(.bool false),(.bool false),(.bool false),(.bool false),(.bool false),(.bool false),(.bool false),(.bool false),(.bool false),(.bool false),(.bool false),(.bool false),(.bool false),(.bool false),(.bool false),(.bool false),(.bool false),(.bool false),(.bool false),(.bool false),(.bool false),(.bool false),(.bool false),(.bool false),(.bool false),(.bool false),(.bool false),(.bool false),(.bool false),(.bool false),(.bool false),(.bool false),(.bool false),(.bool false),(.bool false),(.bool false),(.bool false),(.bool false),(.bool false),(.bool false),(.bool false),(.bool false),(.bool false),(.bool false),(.bool false),(.bool false),(.bool false),(.bool false),(.bool false),(.bool false),(.bool false),(.bool false),(.bool false),(.bool false),(.bool false),(.bool false),(.bool false),(.bool false),(.bool false),(.bool false),(.bool false),(.bool false),(.bool false),(.bool false),(.bool false),(.bool false),(.bool false),(.bool false)])),
 a 3 (.p (.mv (k (.bool false))))])
 (.seq (.seq (.reg [a 4 (.p (.mv (k (.int .i64 0))))])
 (.block 0 (.loop (.seq (.seq (.reg [a 6 (.p (.mv (t 4))),
 a 7 (.p (.mv (t 0))),
 a 8 (.p (.len true (t 7))),
 a 9 (.p (.bin .lss (t 6) (t 8)))])
 (.cond (t 9)
 .skip
 (.exit 0)))
 (.seq (.block 1 (.seq (.reg [a 12 (.p (.mv (t 0))),
 a 13 (.p (.mv (t 4))),
 a 14 (.p (.strIdx (t 12) (t 13))),
 a 5 (.p (.mv (t 14)))])
 (.seq (.seq (.reg [a 15 (.p (.mv (t 5))),
 a 16 (.p (.bin .geq (t 15) (k (.int .u8 128))))])
 (.cond (t 16)
 (.seq (.reg [a 17 (.r (.load (some 256) (t 2))),
 b (.e (.store 256 (t 2) (t 17))),
 a 3 (.p (.mv (k (.bool false))))])
 .ret)
 .skip))
 (.reg [a 18 (.p (.mv (t 5))),
 a 19 (.p (.idxA 256 1 (t 2) (t 18))),
 b (.e (.store 1 (t 19) (k (.bool true))))]))))
 (.reg [a 10 (.p (.mv (t 4))),
 a 11 (.p (.bin .add (t 10) (k (.int .i64 1)))),
 a 4 (.p (.mv (t 11)))]))))))
 (.seq (.reg [a 20 (.r (.load (some 256) (t 2))),
 b (.e (.store 256 (t 2) (t 20))),
 a 3 (.p (.mv (k (.bool true))))])
 .ret))), [.cell 2 (some 256),.tmp 3]⟩
/-- strings.trimLeftASCII -/
def F_strings_trimLeftASCII : AFn := ⟨2, 16, (.seq (.reg [a 4 (.p (.mv (k (.str []))))])
 (.seq (.block 0 (.loop (.seq (.seq (.reg [a 5 (.p (.mv (t 0))),
 a 6 (.p (.len true (t 5))),
 a 7 (.p (.bin .gtr (t 6) (k (.int .i64 0))))])
 (.cond (t 7)
 .skip
 (.exit 0)))
 (.block 1 (.seq (.seq (.reg [a 8 (.p (.mv (t 1))),
 a 9 (.p (.mv (t 0))),
 a 10 (.p (.strIdx (t 9) (k (.int .i64 0)))),
 a 11 (.call N_strings_asciiSet_contains [(t 8),(t 10)]),
 a 12 (.p (.un .not (t 11)))])
 (.cond (t 12)
 (.exit 0)
 .skip))
 (.reg [a 13 (.p (.mv (t 0))),
 a 14 (.p (.slcStr (t 13) (some (k (.int .i64 1))) none)),
 a 0 (.p (.mv (t 14)))]))))))
 (.seq (.reg [a 15 (.p (.mv (t 0))),
 a 4 (.p (.mv (t 15)))])
 .ret))), [.tmp 4]⟩
/-- strings.trimRightASCII -/
def F_strings_trimRightASCII : AFn := ⟨2, 22, (.seq (.reg [a 4 (.p (.mv (k (.str []))))])
 (.seq (.block 0 (.loop (.seq (.seq (.reg [a 5 (.p (.mv (t 0))),
 a 6 (.p (.len true (t 5))),
 a 7 (.p (.bin .gtr (t 6) (k (.int .i64 0))))])
 (.cond (t 7)
 .skip
 (.exit 0)))
 (.block 1 (.seq (.seq (.reg [a 8 (.p (.mv (t 1))),
 a 9 (.p (.mv (t 0))),
 a 10 (.p (.mv (t 0))),
 a 11 (.p (.len true (t 10))),
 a 12 (.p (.bin .sub (t 11) (k (.int .i64 1)))),
 a 13 (.p (.strIdx (t 9) (t 12))),
 a 14 (.call N_strings_asciiSet_contains [(t 8),(t 13)]),
 a 15 (.p (.un .not (t 14)))])
 (.cond (t 15)
 (.exit 0)
 .skip))
 (.reg [a 16 (.p (.mv (t 0))),
 a 17 (.p (.mv (t 0))),
 a 18 (.p (.len true (t 17))),
 a 19 (.p (.bin .sub (t 18) (k (.int .i64 1)))),
 a 20 (.p (.slcStr (t 16) none (some (t 19)))),
 a 0 (.p (.mv (t 20)))]))))))
 (.seq (.reg [a 21 (.p (.mv (t 0))),
 a 4 (.p (.mv (t 21)))])
 .ret))), [.tmp 4]⟩
/-- strings.trimLeftUnicode -/
def F_strings_trimLeftUnicode : AFn := ⟨2, 23, (.seq (.reg [a 4 (.p (.mv (k (.str []))))])
 (.seq (.block 0 (.loop (.seq (.seq (.reg [a 7 (.p (.mv (t 0))),
 a 8 (.p (.len true (t 7))),
 a 9 (.p (.bin .gtr (t 8) (k (.int .i64 0))))])
 (.cond (t 9)
 .skip
 (.exit 0)))
 (.block 1 (.seq (.reg [a 11 (.p (.mv (t 0))),
 a 12 (.call N_unicode_utf8_DecodeRuneInString [(t 11)]),
 a 10 (.p (.mv (t 12))),
 a 13 (.p (.extract (t 10) 0)),
 a 14 (.p (.extract (t 10) 1)),
 a 5 (.p (.mv (t 13))),
 a 6 (.p (.mv (t 14)))])
 (.seq (.seq (.reg [a 15 (.p (.mv (t 1))),
 a 16 (.p (.mv (t 5))),
 a 17 (.call N_strings_ContainsRune [(t 15),(t 16)]),
 a 18 (.p (.un .not (t 17)))])
 (.cond (t 18)
 (.exit 0)
 .skip))
 (.reg [a 19 (.p (.mv (t 0))),
 a 20 (.p (.mv (t 6))),
 a 21 (.p (.slcStr (t 19) (some (t 20)) none)),
 a 0 (.p (.mv (t 21)))])))))))
 (.seq (.reg [a 22 (.p (.mv (t 0))),
 a 4 (.p (.mv (t 22)))])
 .ret))), [.tmp 4]⟩
/-- strings.trimRightUnicode -/
def F_strings_trimRightUnicode : AFn := ⟨2, 34, (.seq (.reg [a 4 (.p (.mv (k (.str []))))])
 (.seq (.block 0 (.loop (.seq (.seq (.reg [a 7 (.p (.mv (t 0))),
 a 8 (.p (.len true (t 7))),
 a 9 (.p (.bin .gtr (t 8) (k (.int .i64 0))))])
 (.cond (t 9)
 .skip
 (.exit 0)))
 (.block 1 (.seq (.reg [a 10 (.p (.mv (t 0))),
 a 11 (.p (.mv (t 0))),
 a 12 (.p (.len true (t 11))),
 a 13 (.p (.bin .sub (t 12) (k (.int .i64 1)))),
 a 14 (.p (.strIdx (t 10) (t 13))),
 a 15 (.p (.conv .i32 (t 14))),
 a 5 (.p (.mv (t 15))),
 a 6 (.p (.mv (k (.int .i64 1))))])
 (.seq (.seq (.reg [a 16 (.p (.mv (t 5))),
 a 17 (.p (.bin .geq (t 16) (k (.int .i32 128))))])
 (.cond (t 17)
 (.reg [a 19 (.p (.mv (t 0))),
 a 20 (.call N_unicode_utf8_DecodeLastRuneInString [(t 19)]),
 a 18 (.p (.mv (t 20))),
 a 21 (.p (.extract (t 18) 0)),
 a 22 (.p (.extract (t 18) 1)),
 a 5 (.p (.mv (t 21))),
 a 6 (.p (.mv (t 22)))])
 .skip))
 (.seq (.seq (.reg [a 23 (.p (.mv (t 1))),
 a 24 (.p (.mv (t 5))),
 a 25 (.call N_strings_ContainsRune [(t 23),(t 24)]),
 a 26 (.p (.un .not (t 25)))])
 (.cond (t 26)
 (.exit 0)
 .skip))
 (.reg [a 27 (.p (.mv (t 0))),
 a 28 (.p (.mv (t 0))),
 a 29 (.p (.len true (t 28))),
 a 30 (.p (.mv (t 6))),
 a 31 (.p (.bin .sub (t 29) (t 30))),
 a 32 (.p (.slcStr (t 27) none (some (t 31)))),
 a 0 (.p (.mv (t 32)))]))))))))
 (.seq (.reg [a 33 (.p (.mv (t 0))),
 a 4 (.p (.mv (t 33)))])
 .ret))), [.tmp 4]⟩
/-- slices.insertionSortCmpFunc(stoa/api.History) -/
def F_slices_insertionSortCmpFunc_api_History : AFn := ⟨4, 53, (.seq (.reg [a 10 (.p (.mv (t 1))),
 a 11 (.p (.bin .add (t 10) (k (.int .i64 1)))),
 a 8 (.p (.mv (t 11)))])
 (.block 0 (.loop (.seq (.seq (.reg [a 12 (.p (.mv (t 8))),
 a 13 (.p (.mv (t 2))),
 a 14 (.p (.bin .lss (t 12) (t 13)))])
 (.cond (t 14)
 .skip
 (.exit 0)))
 (.seq (.block 1 (.seq (.reg [a 17 (.p (.mv (t 8))),
 a 9 (.p (.mv (t 17)))])
 (.block 2 (.loop (.seq (.seq (.dreg [(a 18 (.p (.mv (t 9))), []),
 (a 19 (.p (.mv (t 1))), []),
 (a 20 (.p (.bin .gtr (t 18) (t 19))), []),
 (a 21 (.p (.mv (t 20))), []),
 (c 22 (.p (.mv (t 3))) 21 true, []),
 (c 23 (.p (.mv (t 0))) 21 true, []),
 (c 24 (.p (.mv (t 9))) 21 true, []),
 (c 25 (.p (.idxS 2 (t 23) (t 24))) 21 true, []),
 (c 26 (.r (.load (some 2) (t 25))) 21 true, []),
 (c 27 (.p (.mv (t 0))) 21 true, []),
 (c 28 (.p (.mv (t 9))) 21 true, []),
 (c 29 (.p (.bin .sub (t 28) (k (.int .i64 1)))) 21 true, []),
 (c 30 (.p (.idxS 2 (t 27) (t 29))) 21 true, []),
 (c 31 (.r (.load (some 2) (t 30))) 21 true, []),
 (c 32 (.callv (t 22) [(t 26),(t 31)]) 21 true, []),
 (c 33 (.p (.bin .lss (t 32) (k (.int .i64 0)))) 21 true, []),
 (a 34 (.p (.sel (t 21) (t 33) (k (.bool false)))), [])])
 (.cond (t 34)
 .skip
 (.exit 2)))
 (.seq (.block 3 (.dreg [(a 37 (.p (.mv (t 0))), []),
 (a 38 (.p (.mv (t 9))), []),
 (a 39 (.p (.mv (t 0))), []),
 (a 40 (.p (.mv (t 9))), []),
 (a 41 (.p (.bin .sub (t 40) (k (.int .i64 1)))), []),
 (a 42 (.p (.mv (t 0))), []),
 (a 43 (.p (.mv (t 9))), []),
 (a 44 (.p (.bin .sub (t 43) (k (.int .i64 1)))), []),
 (a 45 (.p (.idxS 2 (t 42) (t 44))), []),
 (a 46 (.r (.load (some 2) (t 45))), []),
 (a 47 (.p (.mv (t 0))), []),
 (a 48 (.p (.mv (t 9))), []),
 (a 49 (.p (.idxS 2 (t 47) (t 48))), []),
 (a 50 (.r (.load (some 2) (t 49))), []),
 (a 51 (.p (.idxS 2 (t 37) (t 38))), []),
 (b (.e (.store 2 (t 51) (t 46))), []),
 (a 52 (.p (.idxS 2 (t 39) (t 41))), []),
 (b (.e (.store 2 (t 52) (t 50))), [])]))
 (.reg [a 35 (.p (.mv (t 9))),
 a 36 (.p (.bin .sub (t 35) (k (.int .i64 1)))),
 a 9 (.p (.mv (t 36)))])))))))
 (.reg [a 15 (.p (.mv (t 8))),
 a 16 (.p (.bin .add (t 15) (k (.int .i64 1)))),
 a 8 (.p (.mv (t 16)))])))))), []⟩
/-- slices.symMergeCmpFunc(stoa/api.History) -/
def F_slices_symMergeCmpFunc_api_History : AFn := ⟨5, 220, (.seq (.seq (.reg [a 25 (.p (.mv (t 2))),
 a 26 (.p (.mv (t 1))),
 a 27 (.p (.bin .sub (t 25) (t 26))),
 a 28 (.p (.bin .eql (t 27) (k (.int .i64 1))))])
 (.cond (t 28)
 (.seq (.reg [a 29 (.p (.mv (t 2))),
 a 10 (.p (.mv (t 29)))])
 (.seq (.reg [a 30 (.p (.mv (t 3))),
 a 11 (.p (.mv (t 30)))])
 (.seq (.block 0 (.loop (.seq (.seq (.reg [a 31 (.p (.mv (t 10))),
 a 32 (.p (.mv (t 11))),
 a 33 (.p (.bin .lss (t 31) (t 32)))])
 (.cond (t 33)
 .skip
 (.exit 0)))
 (.block 1 (.seq (.reg [a 34 (.p (.mv (t 10))),
 a 35 (.p (.mv (t 11))),
 a 36 (.p (.bin .add (t 34) (t 35))),
 a 37 (.p (.conv .u64 (t 36))),
 a 38 (.p (.bin .shr (t 37) (k (.int .u64 1)))),
 a 39 (.p (.conv .i64 (t 38))),
 a 12 (.p (.mv (t 39)))])
 (.seq (.dreg [(a 40 (.p (.mv (t 4))), []),
 (a 41 (.p (.mv (t 0))), []),
 (a 42 (.p (.mv (t 12))), []),
 (a 43 (.p (.idxS 2 (t 41) (t 42))), []),
 (a 44 (.r (.load (some 2) (t 43))), []),
 (a 45 (.p (.mv (t 0))), []),
 (a 46 (.p (.mv (t 1))), []),
 (a 47 (.p (.idxS 2 (t 45) (t 46))), []),
 (a 48 (.r (.load (some 2) (t 47))), []),
 (a 49 (.callv (t 40) [(t 44),(t 48)]), []),
 (a 50 (.p (.bin .lss (t 49) (k (.int .i64 0)))), [])])
 (.cond (t 50)
 (.reg [a 51 (.p (.mv (t 12))),
 a 52 (.p (.bin .add (t 51) (k (.int .i64 1)))),
 a 10 (.p (.mv (t 52)))])
 (.reg [a 53 (.p (.mv (t 12))),
 a 11 (.p (.mv (t 53)))]))))))))
 (.seq (.seq (.reg [a 54 (.p (.mv (t 1))),
 a 13 (.p (.mv (t 54)))])
 (.block 2 (.loop (.seq (.seq (.reg [a 55 (.p (.mv (t 13))),
 a 56 (.p (.mv (t 10))),
 a 57 (.p (.bin .sub (t 56) (k (.int .i64 1)))),
 a 58 (.p (.bin .lss (t 55) (t 57)))])
 (.cond (t 58)
 .skip
 (.exit 2)))
 (.seq (.block 3 (.dreg [(a 61 (.p (.mv (t 0))), []),
 (a 62 (.p (.mv (t 13))), []),
 (a 63 (.p (.mv (t 0))), []),
 (a 64 (.p (.mv (t 13))), []),
 (a 65 (.p (.bin .add (t 64) (k (.int .i64 1)))), []),
 (a 66 (.p (.mv (t 0))), []),
 (a 67 (.p (.mv (t 13))), []),
 (a 68 (.p (.bin .add (t 67) (k (.int .i64 1)))), []),
 (a 69 (.p (.idxS 2 (t 66) (t 68))), []),
 (a 70 (.r (.load (some 2) (t 69))), []),
 (a 71 (.p (.mv (t 0))), []),
 (a 72 (.p (.mv (t 13))), []),
 (a 73 (.p (.idxS 2 (t 71) (t 72))), []),
 (a 74 (.r (.load (some 2) (t 73))), []),
 (a 75 (.p (.idxS 2 (t 61) (t 62))), []),
 (b (.e (.store 2 (t 75) (t 70))), []),
 (a 76 (.p (.idxS 2 (t 63) (t 65))), []),
 (b (.e (.store 2 (t 76) (t 74))), [])]))
 (.reg [a 59 (.p (.mv (t 13))),
 a 60 (.p (.bin .add (t 59) (k (.int .i64 1)))),
 a 13 (.p (.mv (t 60)))]))))))
 .ret))))
 .skip))
 (.seq (.seq (.reg [a 77 (.p (.mv (t 3))),
 a 78 (.p (.mv (t 2))),
 a 79 (.p (.bin .sub (t 77) (t 78))),
 a 80 (.p (.bin .eql (t 79) (k (.int .i64 1))))])
 (.cond (t 80)
 (.seq (.reg [a 81 (.p (.mv (t 1))),
 a 14 (.p (.mv (t 81)))])
 (.seq (.reg [a 82 (.p (.mv (t 2))),
 a 15 (.p (.mv (t 82)))])
 (.seq (.block 4 (.loop (.seq (.seq (.reg [a 83 (.p (.mv (t 14))),
 a 84 (.p (.mv (t 15))),
 a 85 (.p (.bin .lss (t 83) (t 84)))])
 (.cond (t 85)
 .skip
 (.exit 4)))
 (.block 5 (.seq (.reg [a 86 (.p (.mv (t 14))),
 a 87 (.p (.mv (t 15))),
 a 88 (.p (.bin .add (t 86) (t 87))),
 a 89 (.p (.conv .u64 (t 88))),
 a 90 (.p (.bin .shr (t 89) (k (.int .u64 1)))),
 a 91 (.p (.conv .i64 (t 90))),
 a 16 (.p (.mv (t 91)))])
 (.seq (.dreg [(a 92 (.p (.mv (t 4))), []),
 (a 93 (.p (.mv (t 0))), []),
 (a 94 (.p (.mv (t 2))), []),
 (a 95 (.p (.idxS 2 (t 93) (t 94))), []),
 (a 96 (.r (.load (some 2) (t 95))), []),
 (a 97 (.p (.mv (t 0))), []),
 (a 98 (.p (.mv (t 16))), []),
 (a 99 (.p (.idxS 2 (t 97) (t 98))), []),
 (a 100 (.r (.load (some 2) (t 99))), []),
 (a 101 (.callv (t 92) [(t 96),(t 100)]), []),
 (a 102 (.p (.bin .lss (t 101) (k (.int .i64 0)))), []),
 (a 103 (.p (.un .not (t 102))), [])])
 (.cond (t 103)
 (.reg [a 104 (.p (.mv (t 16))),
 a 105 (.p (.bin .add (t 104) (k (.int .i64 1)))),
 a 14 (.p (.mv (t 105)))])
 (.reg [a 106 (.p (.mv (t 16))),
 a 15 (.p (.mv (t 106)))]))))))))
 (.seq (.seq (.reg [a 107 (.p (.mv (t 2))),
 a 17 (.p (.mv (t 107)))])
 (.block 6 (.loop (.seq (.seq (.reg [a 108 (.p (.mv (t 17))),
 a 109 (.p (.mv (t 14))),
 a 110 (.p (.bin .gtr (t 108) (t 109)))])
 (.cond (t 110)
 .skip
 (.exit 6)))
 (.seq (.block 7 (.dreg [(a 113 (.p (.mv (t 0))), []),
 (a 114 (.p (.mv (t 17))), []),
 (a 115 (.p (.mv (t 0))), []),
 (a 116 (.p (.mv (t 17))), []),
 (a 117 (.p (.bin .sub (t 116) (k (.int .i64 1)))), []),
 (a 118 (.p (.mv (t 0))), []),
 (a 119 (.p (.mv (t 17))), []),
 (a 120 (.p (.bin .sub (t 119) (k (.int .i64 1)))), []),
 (a 121 (.p (.idxS 2 (t 118) (t 120))), []),
 (a 122 (.r (.load (some 2) (t 121))), []),
 (a 123 (.p (.mv (t 0))), []),
 (a 124 (.p (.mv (t 17))), []),
 (a 125 (.p (.idxS 2 (t 123) (t 124))), []),
 (a 126 (.r (.load (some 2) (t 125))), []),
 (a 127 (.p (.idxS 2 (t 113) (t 114))), []),
 (b (.e (.store 2 (t 127) (t 122))), []),
 (a 128 (.p (.idxS 2 (t 115) (t 117))), []),
 (b (.e (.store 2 (t 128) (t 126))), [])]))
 (.reg [a 111 (.p (.mv (t 17))),
 a 112 (.p (.bin .sub (t 111) (k (.int .i64 1)))),
 a 17 (.p (.mv (t 112)))]))))))
 .ret))))
 .skip))
 (.seq (.reg [a 129 (.p (.mv (t 1))),
 a 130 (.p (.mv (t 3))),
 a 131 (.p (.bin .add (t 129) (t 130))),
 a 132 (.p (.conv .u64 (t 131))),
 a 133 (.p (.bin .shr (t 132) (k (.int .u64 1)))),
 a 134 (.p (.conv .i64 (t 133))),
 a 18 (.p (.mv (t 134)))])
 (.seq (.reg [a 135 (.p (.mv (t 18))),
 a 136 (.p (.mv (t 2))),
 a 137 (.p (.bin .add (t 135) (t 136))),
 a 19 (.p (.mv (t 137)))])
 (.seq (.reg [a 20 (.p (.mv (k (.int .i64 0)))),
 a 21 (.p (.mv (k (.int .i64 0))))])
 (.seq (.seq (.reg [a 138 (.p (.mv (t 2))),
 a 139 (.p (.mv (t 18))),
 a 140 (.p (.bin .gtr (t 138) (t 139)))])
 (.cond (t 140)
 (.seq (.reg [a 141 (.p (.mv (t 19))),
 a 142 (.p (.mv (t 3))),
 a 143 (.p (.bin .sub (t 141) (t 142))),
 a 20 (.p (.mv (t 143)))])
 (.reg [a 144 (.p (.mv (t 18))),
 a 21 (.p (.mv (t 144)))]))
 (.seq (.reg [a 145 (.p (.mv (t 1))),
 a 20 (.p (.mv (t 145)))])
 (.reg [a 146 (.p (.mv (t 2))),
 a 21 (.p (.mv (t 146)))]))))
 (.seq (.reg [a 147 (.p (.mv (t 19))),
 a 148 (.p (.bin .sub (t 147) (k (.int .i64 1)))),
 a 22 (.p (.mv (t 148)))])
 (.seq (.block 8 (.loop (.seq (.seq (.reg [a 149 (.p (.mv (t 20))),
 a 150 (.p (.mv (t 21))),
 a 151 (.p (.bin .lss (t 149) (t 150)))])
 (.cond (t 151)
 .skip
 (.exit 8)))
 (.block 9 (.seq (.reg [a 152 (.p (.mv (t 20))),
 a 153 (.p (.mv (t 21))),
 a 154 (.p (.bin .add (t 152) (t 153))),
 a 155 (.p (.conv .u64 (t 154))),
 a 156 (.p (.bin .shr (t 155) (k (.int .u64 1)))),
 a 157 (.p (.conv .i64 (t 156))),
 a 23 (.p (.mv (t 157)))])
 (.seq (.dreg [(a 158 (.p (.mv (t 4))), []),
 (a 159 (.p (.mv (t 0))), []),
 (a 160 (.p (.mv (t 22))), []),
 (a 161 (.p (.mv (t 23))), []),
 (a 162 (.p (.bin .sub (t 160) (t 161))), []),
 (a 163 (.p (.idxS 2 (t 159) (t 162))), []),
 (a 164 (.r (.load (some 2) (t 163))), []),
 (a 165 (.p (.mv (t 0))), []),
 (a 166 (.p (.mv (t 23))), []),
 (a 167 (.p (.idxS 2 (t 165) (t 166))), []),
 (a 168 (.r (.load (some 2) (t 167))), []),
 (a 169 (.callv (t 158) [(t 164),(t 168)]), []),
 (a 170 (.p (.bin .lss (t 169) (k (.int .i64 0)))), []),
 (a 171 (.p (.un .not (t 170))), [])])
 (.cond (t 171)
 (.reg [a 172 (.p (.mv (t 23))),
 a 173 (.p (.bin .add (t 172) (k (.int .i64 1)))),
 a 20 (.p (.mv (t 173)))])
 (.reg [a 174 (.p (.mv (t 23))),
 a 21 (.p (.mv (t 174)))]))))))))
 (.seq (.reg [a 175 (.p (.mv (t 19))),
 a 176 (.p (.mv (t 20))),
 a 177 (.p (.bin .sub (t 175) (t 176))),
 a 24 (.p (.mv (t 177)))])
 (.seq (.seq (.reg [a 178 (.p (.mv (t 20))),
 a 179 (.p (.mv (t 2))),
 a 180 (.p (.bin .lss (t 178) (t 179))),
 a 181 (.p (.mv (t 180))),
 c 182 (.p (.mv (t 2))) 181 true,
 c 183 (.p (.mv (t 24))) 181 true,
 c 184 (.p (.bin .lss (t 182) (t 183))) 181 true,
 a 185 (.p (.sel (t 181) (t 184) (k (.bool false))))])
 (.cond (t 185)
 (.reg [a 186 (.p (.mv (t 0))),
 a 187 (.p (.mv (t 20))),
 a 188 (.p (.mv (t 2))),
 a 189 (.p (.mv (t 24))),
 a 190 (.p (.mv (t 4))),
 a 191 (.call N_slices_rotateCmpFunc_api_History [(t 186),(t 187),(t 188),(t 189),(t 190)])])
 .skip))
 (.seq (.seq (.reg [a 192 (.p (.mv (t 1))),
 a 193 (.p (.mv (t 20))),
 a 194 (.p (.bin .lss (t 192) (t 193))),
 a 195 (.p (.mv (t 194))),
 c 196 (.p (.mv (t 20))) 195 true,
 c 197 (.p (.mv (t 18))) 195 true,
 c 198 (.p (.bin .lss (t 196) (t 197))) 195 true,
 a 199 (.p (.sel (t 195) (t 198) (k (.bool false))))])
 (.cond (t 199)
 (.reg [a 200 (.p (.mv (t 0))),
 a 201 (.p (.mv (t 1))),
 a 202 (.p (.mv (t 20))),
 a 203 (.p (.mv (t 18))),
 a 204 (.p (.mv (t 4))),
 a 205 (.call N_slices_symMergeCmpFunc_api_History [(t 200),(t 201),(t 202),(t 203),(t 204)])])
 .skip))
 (.seq (.reg [a 206 (.p (.mv (t 18))),
 a 207 (.p (.mv (t 24))),
 a 208 (.p (.bin .lss (t 206) (t 207))),
 a 209 (.p (.mv (t 208))),
 c 210 (.p (.mv (t 24))) 209 true,
 c 211 (.p (.mv (t 3))) 209 true,
 c 212 (.p (.bin .lss (t 210) (t 211))) 209 true,
 a 213 (.p (.sel (t 209) (t 212) (k (.bool false))))])
 (.cond (t 213)
 (.reg [a 214 (.p (.mv (t 0))),
 a 215 (.p (.mv (t 18))),
 a 216 (.p (.mv (t 24))),
 a 217 (.p (.mv (t 3))),
 a 218 (.p (.mv (t 4))),
 a 219 (.call N_slices_symMergeCmpFunc_api_History [(t 214),(t 215),(t 216),(t 217),(t 218)])])
 .skip))))))))))))), []⟩
/-- slices.insertionSortCmpFunc(stoa/api.Change) -/
def F_slices_insertionSortCmpFunc_api_Change : AFn := ⟨4, 53, (.seq (.reg [a 10 (.p (.mv (t 1))),
 a 11 (.p (.bin .add (t 10) (k (.int .i64 1)))),
 a 8 (.p (.mv (t 11)))])
 (.block 0 (.loop (.seq (.seq (.reg [a 12 (.p (.mv (t 8))),
 a 13 (.p (.mv (t 2))),
 a 14 (.p (.bin .lss (t 12) (t 13)))])
 (.cond (t 14)
 .skip
 (.exit 0)))
 (.seq (.block 1 (.seq (.reg [a 17 (.p (.mv (t 8))),
 a 9 (.p (.mv (t 17)))])
 (.block 2 (.loop (.seq (.seq (.dreg [(a 18 (.p (.mv (t 9))), []),
 (a 19 (.p (.mv (t 1))), []),
 (a 20 (.p (.bin .gtr (t 18) (t 19))), []),
 (a 21 (.p (.mv (t 20))), []),
 (c 22 (.p (.mv (t 3))) 21 true, []),
 (c 23 (.p (.mv (t 0))) 21 true, []),
 (c 24 (.p (.mv (t 9))) 21 true, []),
 (c 25 (.p (.idxS 4 (t 23) (t 24))) 21 true, []),
 (c 26 (.r (.load (some 4) (t 25))) 21 true, []),
 (c 27 (.p (.mv (t 0))) 21 true, []),
 (c 28 (.p (.mv (t 9))) 21 true, []),
 (c 29 (.p (.bin .sub (t 28) (k (.int .i64 1)))) 21 true, []),
 (c 30 (.p (.idxS 4 (t 27) (t 29))) 21 true, []),
 (c 31 (.r (.load (some 4) (t 30))) 21 true, []),
 (c 32 (.callv (t 22) [(t 26),(t 31)]) 21 true, []),
 (c 33 (.p (.bin .lss (t 32) (k (.int .i64 0)))) 21 true, []),
 (a 34 (.p (.sel (t 21) (t 33) (k (.bool false)))), [])])
 (.cond (t 34)
 .skip
 (.exit 2)))
 (.seq (.block 3 (.dreg [(a 37 (.p (.mv (t 0))), []),
 (a 38 (.p (.mv (t 9))), []),
 (a 39 (.p (.mv (t 0))), []),
 (a 40 (.p (.mv (t 9))), []),
 (a 41 (.p (.bin .sub (t 40) (k (.int .i64 1)))), []),
 (a 42 (.p (.mv (t 0))), []),
 (a 43 (.p (.mv (t 9))), []),
 (a 44 (.p (.bin .sub (t 43) (k (.int .i64 1)))), []),
 (a 45 (.p (.idxS 4 (t 42) (t 44))), []),
 (a 46 (.r (.load (some 4) (t 45))), []),
 (a 47 (.p (.mv (t 0))), []),
 (a 48 (.p (.mv (t 9))), []),
 (a 49 (.p (.idxS 4 (t 47) (t 48))), []),
 (a 50 (.r (.load (some 4) (t 49))), []),
 (a 51 (.p (.idxS 4 (t 37) (t 38))), []),
 (b (.e (.store 4 (t 51) (t 46))), []),
 (a 52 (.p (.idxS 4 (t 39) (t 41))), []),
 (b (.e (.store 4 (t 52) (t 50))), [])]))
 (.reg [a 35 (.p (.mv (t 9))),
 a 36 (.p (.bin .sub (t 35) (k (.int .i64 1)))),
 a 9 (.p (.mv (t 36)))])))))))
 (.reg [a 15 (.p (.mv (t 8))),
 a 16 (.p (.bin .add (t 15) (k (.int .i64 1)))),
 a 8 (.p (.mv (t 16)))])))))), []⟩
/-- slices.symMergeCmpFunc(stoa/api.Change) -/
def F_slices_symMergeCmpFunc_api_Change : AFn := ⟨5, 220, (.seq (.seq (.reg [a 25 (.p (.mv (t 2))),
 a 26 (.p (.mv (t 1))),
 a 27 (.p (.bin .sub (t 25) (t 26))),
 a 28 (.p (.bin .eql (t 27) (k (.int .i64 1))))])
 (.cond (t 28)
 (.seq (.reg [a 29 (.p (.mv (t 2))),
 a 10 (.p (.mv (t 29)))])
 (.seq (.reg [a 30 (.p (.mv (t 3))),
 a 11 (.p (.mv (t 30)))])
 (.seq (.block 0 (.loop (.seq (.seq (.reg [a 31 (.p (.mv (t 10))),
 a 32 (.p (.mv (t 11))),
 a 33 (.p (.bin .lss (t 31) (t 32)))])
 (.cond (t 33)
 .skip
 (.exit 0)))
 (.block 1 (.seq (.reg [a 34 (.p (.mv (t 10))),
 a 35 (.p (.mv (t 11))),
 a 36 (.p (.bin .add (t 34) (t 35))),
 a 37 (.p (.conv .u64 (t 36))),
 a 38 (.p (.bin .shr (t 37) (k (.int .u64 1)))),
 a 39 (.p (.conv .i64 (t 38))),
 a 12 (.p (.mv (t 39)))])
 (.seq (.dreg [(a 40 (.p (.mv (t 4))), []),
 (a 41 (.p (.mv (t 0))), []),
 (a 42 (.p (.mv (t 12))), []),
 (a 43 (.p (.idxS 4 (t 41) (t 42))), []),
 (a 44 (.r (.load (some 4) (t 43))), []),
 (a 45 (.p (.mv (t 0))), []),
 (a 46 (.p (.mv (t 1))), []),
 (a 47 (.p (.idxS 4 (t 45) (t 46))), []),
 (a 48 (.r (.load (some 4) (t 47))), []),
 (a 49 (.callv (t 40) [(t 44),(t 48)]), []),
 (a 50 (.p (.bin .lss (t 49) (k (.int .i64 0)))), [])])
 (.cond (t 50)
 (.reg [a 51 (.p (.mv (t 12))),
 a 52 (.p (.bin .add (t 51) (k (.int .i64 1)))),
 a 10 (.p (.mv (t 52)))])
 (.reg [a 53 (.p (.mv (t 12))),
 a 11 (.p (.mv (t 53)))]))))))))
 (.seq (.seq (.reg [a 54 (.p (.mv (t 1))),
 a 13 (.p (.mv (t 54)))])
 (.block 2 (.loop (.seq (.seq (.reg [a 55 (.p (.mv (t 13))),
 a 56 (.p (.mv (t 10))),
 a 57 (.p (.bin .sub (t 56) (k (.int .i64 1)))),
 a 58 (.p (.bin .lss (t 55) (t 57)))])
 (.cond (t 58)
 .skip
 (.exit 2)))
 (.seq (.block 3 (.dreg [(a 61 (.p (.mv (t 0))), []),
 (a 62 (.p (.mv (t 13))), []),
 (a 63 (.p (.mv (t 0))), []),
 (a 64 (.p (.mv (t 13))), []),
 (a 65 (.p (.bin .add (t 64) (k (.int .i64 1)))), []),
 (a 66 (.p (.mv (t 0))), []),
 (a 67 (.p (.mv (t 13))), []),
 (a 68 (.p (.bin .add (t 67) (k (.int .i64 1)))), []),
 (a 69 (.p (.idxS 4 (t 66) (t 68))), []),
 (a 70 (.r (.load (some 4) (t 69))), []),
 (a 71 (.p (.mv (t 0))), []),
 (a 72 (.p (.mv (t 13))), []),
 (a 73 (.p (.idxS 4 (t 71) (t 72))), []),
 (a 74 (.r (.load (some 4) (t 73))), []),
 (a 75 (.p (.idxS 4 (t 61) (t 62))), []),
 (b (.e (.store 4 (t 75) (t 70))), []),
 (a 76 (.p (.idxS 4 (t 63) (t 65))), []),
 (b (.e (.store 4 (t 76) (t 74))), [])]))
 (.reg [a 59 (.p (.mv (t 13))),
 a 60 (.p (.bin .add (t 59) (k (.int .i64 1)))),
 a 13 (.p (.mv (t 60)))]))))))
 .ret))))
 .skip))
 (.seq (.seq (.reg [a 77 (.p (.mv (t 3))),
 a 78 (.p (.mv (t 2))),
 a 79 (.p (.bin .sub (t 77) (t 78))),
 a 80 (.p (.bin .eql (t 79) (k (.int .i64 1))))])
 (.cond (t 80)
 (.seq (.reg [a 81 (.p (.mv (t 1))),
 a 14 (.p (.mv (t 81)))])
 (.seq (.reg [a 82 (.p (.mv (t 2))),
 a 15 (.p (.mv (t 82)))])
 (.seq (.block 4 (.loop (.seq (.seq (.reg [a 83 (.p (.mv (t 14))),
 a 84 (.p (.mv (t 15))),
 a 85 (.p (.bin .lss (t 83) (t 84)))])
 (.cond (t 85)
 .skip
 (.exit 4)))
 (.block 5 (.seq (.reg [a 86 (.p (.mv (t 14))),
 a 87 (.p (.mv (t 15))),
 a 88 (.p (.bin .add (t 86) (t 87))),
 a 89 (.p (.conv .u64 (t 88))),
 a 90 (.p (.bin .shr (t 89) (k (.int .u64 1)))),
 a 91 (.p (.conv .i64 (t 90))),
 a 16 (.p (.mv (t 91)))])
 (.seq (.dreg [(a 92 (.p (.mv (t 4))), []),
 (a 93 (.p (.mv (t 0))), []),
 (a 94 (.p (.mv (t 2))), []),
 (a 95 (.p (.idxS 4 (t 93) (t 94))), []),
 (a 96 (.r (.load (some 4) (t 95))), []),
 (a 97 (.p (.mv (t 0))), []),
 (a 98 (.p (.mv (t 16))), []),
 (a 99 (.p (.idxS 4 (t 97) (t 98))), []),
 (a 100 (.r (.load (some 4) (t 99))), []),
 (a 101 (.callv (t 92) [(t 96),(t 100)]), []),
 (a 102 (.p (.bin .lss (t 101) (k (.int .i64 0)))), []),
 (a 103 (.p (.un .not (t 102))), [])])
 (.cond (t 103)
 (.reg [a 104 (.p (.mv (t 16))),
 a 105 (.p (.bin .add (t 104) (k (.int .i64 1)))),
 a 14 (.p (.mv (t 105)))])
 (.reg [a 106 (.p (.mv (t 16))),
 a 15 (.p (.mv (t 106)))]))))))))
 (.seq (.seq (.reg [a 107 (.p (.mv (t 2))),
 a 17 (.p (.mv (t 107)))])
 (.block 6 (.loop (.seq (.seq (.reg [a 108 (.p (.mv (t 17))),
 a 109 (.p (.mv (t 14))),
 a 110 (.p (.bin .gtr (t 108) (t 109)))])
 (.cond (t 110)
 .skip
 (.exit 6)))
 (.seq (.block 7 (.dreg [(a 113 (.p (.mv (t 0))), []),
 (a 114 (.p (.mv (t 17))), []),
 (a 115 (.p (.mv (t 0))), []),
 (a 116 (.p (.mv (t 17))), []),
 (a 117 (.p (.bin .sub (t 116) (k (.int .i64 1)))), []),
 (a 118 (.p (.mv (t 0))), []),
 (a 119 (.p (.mv (t 17))), []),
 (a 120 (.p (.bin .sub (t 119) (k (.int .i64 1)))), []),
 (a 121 (.p (.idxS 4 (t 118) (t 120))), []),
 (a 122 (.r (.load (some 4) (t 121))), []),
 (a 123 (.p (.mv (t 0))), []),
 (a 124 (.p (.mv (t 17))), []),
 (a 125 (.p (.idxS 4 (t 123) (t 124))), []),
 (a 126 (.r (.load (some 4) (t 125))), []),
 (a 127 (.p (.idxS 4 (t 113) (t 114))), []),
 (b (.e (.store 4 (t 127) (t 122))), []),
 (a 128 (.p (.idxS 4 (t 115) (t 117))), []),
 (b (.e (.store 4 (t 128) (t 126))), [])]))
 (.reg [a 111 (.p (.mv (t 17))),
 a 112 (.p (.bin .sub (t 111) (k (.int .i64 1)))),
 a 17 (.p (.mv (t 112)))]))))))
 .ret))))
 .skip))
 (.seq (.reg [a 129 (.p (.mv (t 1))),
 a 130 (.p (.mv (t 3))),
 a 131 (.p (.bin .add (t 129) (t 130))),
 a 132 (.p (.conv .u64 (t 131))),
 a 133 (.p (.bin .shr (t 132) (k (.int .u64 1)))),
 a 134 (.p (.conv .i64 (t 133))),
 a 18 (.p (.mv (t 134)))])
 (.seq (.reg [a 135 (.p (.mv (t 18))),
 a 136 (.p (.mv (t 2))),
 a 137 (.p (.bin .add (t 135) (t 136))),
 a 19 (.p (.mv (t 137)))])
 (.seq (.reg [a 20 (.p (.mv (k (.int .i64 0)))),
 a 21 (.p (.mv (k (.int .i64 0))))])
 (.seq (.seq (.reg [a 138 (.p (.mv (t 2))),
 a 139 (.p (.mv (t 18))),
 a 140 (.p (.bin .gtr (t 138) (t 139)))])
 (.cond (t 140)
 (.seq (.reg [a 141 (.p (.mv (t 19))),
 a 142 (.p (.mv (t 3))),
 a 143 (.p (.bin .sub (t 141) (t 142))),
 a 20 (.p (.mv (t 143)))])
 (.reg [a 144 (.p (.mv (t 18))),
 a 21 (.p (.mv (t 144)))]))
 (.seq (.reg [a 145 (.p (.mv (t 1))),
 a 20 (.p (.mv (t 145)))])
 (.reg [a 146 (.p (.mv (t 2))),
 a 21 (.p (.mv (t 146)))]))))
 (.seq (.reg [a 147 (.p (.mv (t 19))),
 a 148 (.p (.bin .sub (t 147) (k (.int .i64 1)))),
 a 22 (.p (.mv (t 148)))])
 (.seq (.block 8 (.loop (.seq (.seq (.reg [a 149 (.p (.mv (t 20))),
 a 150 (.p (.mv (t 21))),
 a 151 (.p (.bin .lss (t 149) (t 150)))])
 (.cond (t 151)
 .skip
 (.exit 8)))
 (.block 9 (.seq (.reg [a 152 (.p (.mv (t 20))),
 a 153 (.p (.mv (t 21))),
 a 154 (.p (.bin .add (t 152) (t 153))),
 a 155 (.p (.conv .u64 (t 154))),
 a 156 (.p (.bin .shr (t 155) (k (.int .u64 1)))),
 a 157 (.p (.conv .i64 (t 156))),
 a 23 (.p (.mv (t 157)))])
 (.seq (.dreg [(a 158 (.p (.mv (t 4))), []),
 (a 159 (.p (.mv (t 0))), []),
 (a 160 (.p (.mv (t 22))), []),
 (a 161 (.p (.mv (t 23))), []),
 (a 162 (.p (.bin .sub (t 160) (t 161))), []),
 (a 163 (.p (.idxS 4 (t 159) (t 162))), []),
 (a 164 (.r (.load (some 4) (t 163))), []),
 (a 165 (.p (.mv (t 0))), []),
 (a 166 (.p (.mv (t 23))), []),
 (a 167 (.p (.idxS 4 (t 165) (t 166))), []),
 (a 168 (.r (.load (some 4) (t 167))), []),
 (a 169 (.callv (t 158) [(t 164),(t 168)]), []),
 (a 170 (.p (.bin .lss (t 169) (k (.int .i64 0)))), []),
 (a 171 (.p (.un .not (t 170))), [])])
 (.cond (t 171)
 (.reg [a 172 (.p (.mv (t 23))),
 a 173 (.p (.bin .add (t 172) (k (.int .i64 1)))),
 a 20 (.p (.mv (t 173)))])
 (.reg [a 174 (.p (.mv (t 23))),
 a 21 (.p (.mv (t 174)))]))))))))
 (.seq (.reg [a 175 (.p (.mv (t 19))),
 a 176 (.p (.mv (t 20))),
 a 177 (.p (.bin .sub (t 175) (t 176))),
 a 24 (.p (.mv (t 177)))])
 (.seq (.seq (.reg [a 178 (.p (.mv (t 20))),
 a 179 (.p (.mv (t 2))),
 a 180 (.p (.bin .lss (t 178) (t 179))),
 a 181 (.p (.mv (t 180))),
 c 182 (.p (.mv (t 2))) 181 true,
 c 183 (.p (.mv (t 24))) 181 true,
 c 184 (.p (.bin .lss (t 182) (t 183))) 181 true,
 a 185 (.p (.sel (t 181) (t 184) (k (.bool false))))])
 (.cond (t 185)
 (.reg [a 186 (.p (.mv (t 0))),
 a 187 (.p (.mv (t 20))),
 a 188 (.p (.mv (t 2))),
 a 189 (.p (.mv (t 24))),
 a 190 (.p (.mv (t 4))),
 a 191 (.call N_slices_rotateCmpFunc_api_Change [(t 186),(t 187),(t 188),(t 189),(t 190)])])
 .skip))
 (.seq (.seq (.reg [a 192 (.p (.mv (t 1))),
 a 193 (.p (.mv (t 20))),
 a 194 (.p (.bin .lss (t 192) (t 193))),
 a 195 (.p (.mv (t 194))),
 c 196 (.p (.mv (t 20))) 195 true,
 c 197 (.p (.mv (t 18))) 195 true,
 c 198 (.p (.bin .lss (t 196) (t 197))) 195 true,
 a 199 (.p (.sel (t 195) (t 198) (k (.bool false))))])
 (.cond (t 199)
 (.reg [a 200 (.p (.mv (t 0))),
 a 201 (.p (.mv (t 1))),
 a 202 (.p (.mv (t 20))),
 a 203 (.p (.mv (t 18))),
 a 204 (.p (.mv (t 4))),
 a 205 (.call N_slices_symMergeCmpFunc_api_Change [(t 200),(t 201),(t 202),(t 203),(t 204)])])
 .skip))
 (.seq (.reg [a 206 (.p (.mv (t 18))),
 a 207 (.p (.mv (t 24))),
 a 208 (.p (.bin .lss (t 206) (t 207))),
 a 209 (.p (.mv (t 208))),
 c 210 (.p (.mv (t 24))) 209 true,
 c 211 (.p (.mv (t 3))) 209 true,
 c 212 (.p (.bin .lss (t 210) (t 211))) 209 true,
 a 213 (.p (.sel (t 209) (t 212) (k (.bool false))))])
 (.cond (t 213)
 (.reg [a 214 (.p (.mv (t 0))),
 a 215 (.p (.mv (t 18))),
 a 216 (.p (.mv (t 24))),
 a 217 (.p (.mv (t 3))),
 a 218 (.p (.mv (t 4))),
 a 219 (.call N_slices_symMergeCmpFunc_api_Change [(t 214),(t 215),(t 216),(t 217),(t 218)])])
 .skip))))))))))))), []⟩
/-- cmp.isNaN(int64) -/
def F_cmp_isNaN_int64 : AFn := ⟨1, 6, (.seq (.reg [a 2 (.p (.mv (k (.bool false))))])
 (.seq (.reg [a 3 (.p (.mv (t 0))),
 a 4 (.p (.mv (t 0))),
 a 5 (.p (.bin .neq (t 3) (t 4))),
 a 2 (.p (.mv (t 5)))])
 .ret)), [.tmp 2]⟩
/-- stoa/keys.read -/
def F_keys_read : AFn := ⟨2, 36, (.seq (.reg [a 4 (.n (.alloc [(.bool false),(.int .i64 0),.nslc])),
 a 5 (.p (.mv (k (.int .i64 0)))),
 a 6 (.p (.mv (k (.bool false))))])
 (.seq (.seq (.reg [a 8 (.p (.mv (t 0)))])
 (.block 0 (.seq (.reg [a 10 (.p (.bin .eql (t 8) (k (.int .i64 7)))),
 a 9 (.p (.mv (t 10)))])
 (.cond (t 9)
 (.seq (.reg [a 11 (.p (.mv (t 1))),
 a 12 (.call N_bytes_IndexByte [(t 11),(k (.int .u8 0))]),
 a 7 (.p (.mv (t 12)))])
 (.seq (.seq (.reg [a 13 (.p (.mv (t 7))),
 a 14 (.p (.bin .lss (t 13) (k (.int .i64 0))))])
 (.cond (t 14)
 (.seq (.reg [a 15 (.p (.build [(.bool false),(.int .i64 0),.nslc] [])),
 b (.e (.store 3 (t 4) (t 15))),
 a 5 (.p (.mv (k (.int .i64 0)))),
 a 6 (.p (.mv (k (.bool false))))])
 .ret)
 .skip))
 (.seq (.reg [a 16 (.p (.mv (t 1))),
 a 17 (.p (.mv (t 7))),
 a 18 (.p (.slcS 1 (t 16) none (some (t 17)) none)),
 a 19 (.call N_bytes_Clone [(t 18)]),
 a 20 (.p (.build [(.bool false),(.int .i64 0),.nslc] [(2,1,(t 19))])),
 a 21 (.p (.mv (t 7))),
 a 22 (.p (.bin .add (t 21) (k (.int .i64 1)))),
 b (.e (.store 3 (t 4) (t 20))),
 a 5 (.p (.mv (t 22))),
 a 6 (.p (.mv (k (.bool true))))])
 .ret)))
 (.seq (.reg [a 24 (.p (.bin .eql (t 8) (k (.int .i64 8)))),
 a 23 (.p (.mv (t 24)))])
 (.cond (t 23)
 (.seq (.reg [a 25 (.p (.mv (t 1))),
 a 26 (.call N_keys_readBytes [(t 25)]),
 a 27 (.p (.extract (t 26) 0)),
 a 28 (.p (.extract (t 26) 1)),
 a 29 (.p (.extract (t 26) 2)),
 b (.e (.store 3 (t 4) (t 27))),
 a 5 (.p (.mv (t 28))),
 a 6 (.p (.mv (t 29)))])
 .ret)
 .skip))))))
 (.seq (.reg [a 30 (.p (.mv (t 0))),
 a 31 (.p (.mv (t 1))),
 a 32 (.call N_keys_readNumber [(t 30),(t 31)]),
 a 33 (.p (.extract (t 32) 0)),
 a 34 (.p (.extract (t 32) 1)),
 a 35 (.p (.extract (t 32) 2)),
 b (.e (.store 3 (t 4) (t 33))),
 a 5 (.p (.mv (t 34))),
 a 6 (.p (.mv (t 35)))])
 .ret))), [.cell 4 (some 3),.tmp 5,.tmp 6]⟩
/-- stoa/cell.Check -/
def F_cell_Check : AFn := ⟨3, 66, (.seq (.reg [a 5 (.n (.box (t 2))),
 a 6 (.p (.mv (k (.int .i64 0))))])
 (.seq (.block 0 (.seq (.reg [a 8 (.p (.mv (t 0))),
 a 9 (.call N_cell_known [(t 8)]),
 a 10 (.p (.un .not (t 9))),
 a 7 (.p (.mv (t 10)))])
 (.cond (t 7)
 (.seq (.reg [a 6 (.p (.mv (k (.int .i64 1))))])
 .ret)
 (.seq (.reg [a 12 (.p (.fld 0 (t 5))),
 a 13 (.r (.load none (t 12))),
 a 14 (.p (.mv (t 13))),
 c 15 (.p (.mv (t 1))) 14 true,
 c 16 (.p (.un .not (t 15))) 14 true,
 a 17 (.p (.sel (t 14) (t 16) (k (.bool false)))),
 a 11 (.p (.mv (t 17)))])
 (.cond (t 11)
 (.seq (.reg [a 6 (.p (.mv (k (.int .i64 51))))])
 .ret)
 (.seq (.reg [a 19 (.p (.fld 0 (t 5))),
 a 20 (.r (.load none (t 19))),
 a 21 (.p (.mv (t 20))),
 c 22 (.p (.fld 1 (t 5))) 21 true,
 c 23 (.r (.load none (t 22))) 21 true,
 c 24 (.p (.bin .neq (t 23) (k (.int .i64 0)))) 21 true,
 c 25 (.p (.mv (t 24))) 21 true,
 c 26 (.p (.fld 2 (t 5))) 25 false,
 c 27 (.r (.load none (t 26))) 25 false,
 c 28 (.p (.len false (t 27))) 25 false,
 c 29 (.p (.bin .gtr (t 28) (k (.int .i64 0)))) 25 false,
 c 30 (.p (.sel (t 25) (k (.bool true)) (t 29))) 21 true,
 a 31 (.p (.sel (t 21) (t 30) (k (.bool false)))),
 a 18 (.p (.mv (t 31)))])
 (.cond (t 18)
 (.seq (.reg [a 6 (.p (.mv (k (.int .i64 50))))])
 .ret)
 (.seq (.reg [a 33 (.p (.fld 0 (t 5))),
 a 34 (.r (.load none (t 33))),
 a 32 (.p (.mv (t 34)))])
 (.cond (t 32)
 (.seq (.reg [a 6 (.p (.mv (k (.int .i64 0))))])
 .ret)
 (.seq (.seq (.reg [a 36 (.p (.mv (t 0))),
 a 37 (.call N_cell_Number [(t 36)]),
 a 38 (.p (.mv (t 37))),
 c 39 (.p (.fld 2 (t 5))) 38 true,
 c 40 (.r (.load none (t 39))) 38 true,
 c 41 (.p (.len false (t 40))) 38 true,
 c 42 (.p (.bin .gtr (t 41) (k (.int .i64 0)))) 38 true,
 a 43 (.p (.sel (t 38) (t 42) (k (.bool false)))),
 a 35 (.p (.mv (t 43)))])
 (.cond (t 35)
 .skip
 (.reg [a 44 (.p (.mv (t 0))),
 a 45 (.call N_cell_Number [(t 44)]),
 a 46 (.p (.un .not (t 45))),
 a 47 (.p (.mv (t 46))),
 c 48 (.p (.fld 1 (t 5))) 47 true,
 c 49 (.r (.load none (t 48))) 47 true,
 c 50 (.p (.bin .neq (t 49) (k (.int .i64 0)))) 47 true,
 a 51 (.p (.sel (t 47) (t 50) (k (.bool false)))),
 a 35 (.p (.mv (t 51)))])))
 (.cond (t 35)
 (.seq (.reg [a 6 (.p (.mv (k (.int .i64 50))))])
 .ret)
 (.seq (.reg [a 53 (.p (.mv (t 0))),
 a 54 (.call N_cell_Number [(t 53)]),
 a 55 (.p (.un .not (t 54))),
 a 52 (.p (.mv (t 55)))])
 (.cond (t 52)
 (.seq (.reg [a 56 (.p (.mv (t 0))),
 a 57 (.p (.fld 2 (t 5))),
 a 58 (.r (.load none (t 57))),
 a 59 (.call N_cell_text [(t 56),(t 58)]),
 a 6 (.p (.mv (t 59)))])
 .ret)
 (.seq (.reg [a 61 (.p (.mv (t 0))),
 a 62 (.p (.fld 1 (t 5))),
 a 63 (.r (.load none (t 62))),
 a 64 (.call N_cell_holds [(t 61),(t 63)]),
 a 65 (.p (.un .not (t 64))),
 a 60 (.p (.mv (t 65)))])
 (.cond (t 60)
 (.seq (.reg [a 6 (.p (.mv (k (.int .i64 52))))])
 .ret)
 .skip)))))))))))))))
 (.seq (.reg [a 6 (.p (.mv (k (.int .i64 0))))])
 .ret))), [.tmp 6]⟩
/-- stoa/schema.Row -/
def F_schema_Row : AFn := ⟨2, 15, (.seq (.reg [a 2 (.n (.box (t 0))),
 a 4 (.p (.mv (k (.int .i64 0))))])
 (.seq (.seq (.reg [a 6 (.r (.load (some 2) (t 2))),
 a 7 (.call N_schema_Check [(t 6)]),
 a 5 (.p (.mv (t 7)))])
 (.seq (.reg [a 8 (.p (.mv (t 5))),
 a 9 (.p (.bin .neq (t 8) (k (.int .i64 0))))])
 (.cond (t 9)
 (.seq (.reg [a 10 (.p (.mv (t 5))),
 a 4 (.p (.mv (t 10)))])
 .ret)
 .skip)))
 (.seq (.reg [a 11 (.p (.fld 0 (t 2))),
 a 12 (.r (.load none (t 11))),
 a 13 (.p (.mv (t 1))),
 a 14 (.call N_schema_cells [(t 12),(t 13)]),
 a 4 (.p (.mv (t 14)))])
 .ret))), [.tmp 4]⟩
/-- stoa/keys.Encode -/
def F_keys_Encode : AFn := ⟨2, 56, (.seq (.reg [a 2 (.n (.box (t 0))),
 a 4 (.p (.mv (k .nslc))),
 a 5 (.p (.mv (k (.int .i64 0))))])
 (.seq (.seq (.reg [a 11 (.r (.load (some 2) (t 2))),
 a 12 (.call N_schema_Check [(t 11)]),
 a 6 (.p (.mv (t 12)))])
 (.seq (.reg [a 13 (.p (.mv (t 6))),
 a 14 (.p (.bin .neq (t 13) (k (.int .i64 0))))])
 (.cond (t 14)
 (.seq (.reg [a 15 (.p (.mv (t 6))),
 a 4 (.p (.mv (k .nslc))),
 a 5 (.p (.mv (t 15)))])
 .ret)
 .skip)))
 (.seq (.seq (.reg [a 16 (.p (.mv (t 1))),
 a 17 (.p (.len false (t 16))),
 a 18 (.p (.bin .lss (t 17) (k (.int .i64 1)))),
 a 19 (.p (.mv (t 18))),
 c 20 (.p (.mv (t 1))) 19 false,
 c 21 (.p (.len false (t 20))) 19 false,
 c 22 (.p (.fld 1 (t 2))) 19 false,
 c 23 (.r (.load none (t 22))) 19 false,
 c 24 (.p (.bin .gtr (t 21) (t 23))) 19 false,
 a 25 (.p (.sel (t 19) (k (.bool true)) (t 24)))])
 (.cond (t 25)
 (.seq (.reg [a 4 (.p (.mv (k .nslc))),
 a 5 (.p (.mv (k (.int .i64 61))))])
 .ret)
 .skip))
 (.seq (.reg [a 7 (.p (.mv (k .nslc)))])
 (.seq (.seq (.reg [a 26 (.p (.mv (t 1))),
 a 27 (.p (.len false (t 26))),
 a 28 (.p (.mv (k (.int .i64 0))))])
 (.block 0 (.loop (.seq (.reg [a 29 (.p (.bin .lss (t 28) (t 27)))])
 (.seq (.cond (t 29)
 .skip
 (.exit 0))
 (.seq (.block 1 (.seq (.reg [a 30 (.p (.mv (t 28))),
 a 31 (.p (.idxS 3 (t 26) (t 28))),
 a 32 (.r (.load (some 3) (t 31))),
 a 9 (.n (.alloc [(.bool false),(.int .i64 0),.nslc])),
 a 8 (.p (.mv (t 30))),
 b (.e (.store 3 (t 9) (t 32)))])
 (.seq (.seq (.dreg [(a 33 (.p (.fld 0 (t 2))), []),
 (a 34 (.r (.load none (t 33))), []),
 (a 35 (.p (.mv (t 8))), []),
 (a 36 (.p (.idxS 3 (t 34) (t 35))), []),
 (a 37 (.p (.fld 1 (t 36))), []),
 (a 38 (.r (.load none (t 37))), []),
 (a 39 (.r (.load (some 3) (t 9))), []),
 (a 40 (.call N_cell_Check [(t 38),(k (.bool false)),(t 39)]), []),
 (a 10 (.p (.mv (t 40))), [])])
 (.seq (.reg [a 41 (.p (.mv (t 10))),
 a 42 (.p (.bin .neq (t 41) (k (.int .i64 0))))])
 (.cond (t 42)
 (.seq (.reg [a 43 (.p (.mv (t 10))),
 a 4 (.p (.mv (k .nslc))),
 a 5 (.p (.mv (t 43)))])
 .ret)
 .skip)))
 (.dreg [(a 44 (.p (.mv (t 7))), []),
 (a 45 (.p (.fld 0 (t 2))), []),
 (a 46 (.r (.load none (t 45))), []),
 (a 47 (.p (.mv (t 8))), []),
 (a 48 (.p (.idxS 3 (t 46) (t 47))), []),
 (a 49 (.p (.fld 1 (t 48))), []),
 (a 50 (.r (.load none (t 49))), []),
 (a 51 (.r (.load (some 3) (t 9))), []),
 (a 52 (.call N_keys_put [(t 50),(t 51)]), []),
 (a 53 (.e (.append 1 1 (t 44) (t 52))), []),
 (a 7 (.p (.mv (t 53))), [])]))))
 (.reg [a 54 (.p (.bin .add (t 28) (k (.int .i64 1)))),
 a 28 (.p (.mv (t 54)))])))))))
 (.seq (.reg [a 55 (.p (.mv (t 7))),
 a 4 (.p (.mv (t 55))),
 a 5 (.p (.mv (k (.int .i64 0))))])
 .ret)))))), [.tmp 4,.tmp 5]⟩
/-- stoa/schema.Sets -/
def F_schema_Sets : AFn := ⟨2, 52, (.seq (.reg [a 2 (.n (.box (t 0))),
 a 4 (.p (.mv (k (.int .i64 0))))])
 (.seq (.seq (.reg [a 10 (.r (.load (some 2) (t 2))),
 a 11 (.call N_schema_Check [(t 10)]),
 a 5 (.p (.mv (t 11)))])
 (.seq (.reg [a 12 (.p (.mv (t 5))),
 a 13 (.p (.bin .neq (t 12) (k (.int .i64 0))))])
 (.cond (t 13)
 (.seq (.reg [a 14 (.p (.mv (t 5))),
 a 4 (.p (.mv (t 14)))])
 .ret)
 .skip)))
 (.seq (.seq (.reg [a 15 (.p (.mv (t 1))),
 a 16 (.p (.len false (t 15))),
 a 17 (.p (.bin .eql (t 16) (k (.int .i64 0))))])
 (.cond (t 17)
 (.seq (.reg [a 4 (.p (.mv (k (.int .i64 61))))])
 .ret)
 .skip))
 (.seq (.reg [a 6 (.p (.mv (k (.int .i64 (-1)))))])
 (.seq (.seq (.reg [a 18 (.p (.mv (t 1))),
 a 19 (.p (.len false (t 18))),
 a 20 (.p (.mv (k (.int .i64 0))))])
 (.block 0 (.loop (.seq (.reg [a 21 (.p (.bin .lss (t 20) (t 19)))])
 (.seq (.cond (t 21)
 .skip
 (.exit 0))
 (.seq (.block 1 (.seq (.reg [a 22 (.p (.idxS 4 (t 18) (t 20))),
 a 23 (.r (.load (some 4) (t 22))),
 a 8 (.n (.alloc [(.int .i64 0),(.bool false),(.int .i64 0),.nslc])),
 b (.e (.store 4 (t 8) (t 23)))])
 (.seq (.seq (.reg [a 24 (.r (.load (some 2) (t 2))),
 a 25 (.p (.mv (t 6))),
 a 26 (.p (.fld 0 (t 8))),
 a 27 (.r (.load none (t 26))),
 a 28 (.call N_schema_misplaced [(t 24),(t 25),(t 27)])])
 (.cond (t 28)
 (.seq (.reg [a 4 (.p (.mv (k (.int .i64 61))))])
 .ret)
 .skip))
 (.seq (.seq (.dreg [(a 29 (.p (.fld 0 (t 2))), []),
 (a 30 (.r (.load none (t 29))), []),
 (a 31 (.p (.fld 0 (t 8))), []),
 (a 32 (.r (.load none (t 31))), []),
 (a 33 (.p (.idxS 3 (t 30) (t 32))), []),
 (a 34 (.p (.fld 1 (t 33))), []),
 (a 35 (.r (.load none (t 34))), []),
 (a 36 (.p (.fld 0 (t 2))), []),
 (a 37 (.r (.load none (t 36))), []),
 (a 38 (.p (.fld 0 (t 8))), []),
 (a 39 (.r (.load none (t 38))), []),
 (a 40 (.p (.idxS 3 (t 37) (t 39))), []),
 (a 41 (.p (.fld 2 (t 40))), []),
 (a 42 (.r (.load none (t 41))), []),
 (a 43 (.p (.fld 1 (t 8))), []),
 (a 44 (.r (.load (some 3) (t 43))), []),
 (a 45 (.call N_cell_Check [(t 35),(t 42),(t 44)]), []),
 (a 9 (.p (.mv (t 45))), [])])
 (.seq (.reg [a 46 (.p (.mv (t 9))),
 a 47 (.p (.bin .neq (t 46) (k (.int .i64 0))))])
 (.cond (t 47)
 (.seq (.reg [a 48 (.p (.mv (t 9))),
 a 4 (.p (.mv (t 48)))])
 .ret)
 .skip)))
 (.reg [a 49 (.p (.fld 0 (t 8))),
 a 50 (.r (.load none (t 49))),
 a 6 (.p (.mv (t 50)))])))))
 (.reg [a 51 (.p (.bin .add (t 20) (k (.int .i64 1)))),
 a 20 (.p (.mv (t 51)))])))))))
 (.seq (.reg [a 4 (.p (.mv (k (.int .i64 0))))])
 .ret)))))), [.tmp 4]⟩
/-- slices.order2CmpFunc(stoa/merge.span) -/
def F_slices_order2CmpFunc_merge_span : AFn := ⟨5, 32, (.seq (.reg [a 10 (.p (.mv (k (.int .i64 0)))),
 a 11 (.p (.mv (k (.int .i64 0))))])
 (.seq (.seq (.dreg [(a 12 (.p (.mv (t 4))), []),
 (a 13 (.p (.mv (t 0))), []),
 (a 14 (.p (.mv (t 2))), []),
 (a 15 (.p (.idxS 2 (t 13) (t 14))), []),
 (a 16 (.r (.load (some 2) (t 15))), []),
 (a 17 (.p (.mv (t 0))), []),
 (a 18 (.p (.mv (t 1))), []),
 (a 19 (.p (.idxS 2 (t 17) (t 18))), []),
 (a 20 (.r (.load (some 2) (t 19))), []),
 (a 21 (.callv (t 12) [(t 16),(t 20)]), []),
 (a 22 (.p (.bin .lss (t 21) (k (.int .i64 0)))), [])])
 (.cond (t 22)
 (.seq (.reg [a 23 (.p (.mv (t 3))),
 a 24 (.p (.nilck (t 23))),
 a 25 (.r (.load none (t 24))),
 a 26 (.p (.bin .add (t 25) (k (.int .i64 1)))),
 a 27 (.p (.nilck (t 23))),
 b (.e (.store 1 (t 27) (t 26)))])
 (.seq (.reg [a 28 (.p (.mv (t 2))),
 a 29 (.p (.mv (t 1))),
 a 10 (.p (.mv (t 28))),
 a 11 (.p (.mv (t 29)))])
 .ret))
 .skip))
 (.seq (.reg [a 30 (.p (.mv (t 1))),
 a 31 (.p (.mv (t 2))),
 a 10 (.p (.mv (t 30))),
 a 11 (.p (.mv (t 31)))])
 .ret))), [.tmp 10,.tmp 11]⟩
/-- slices.order2Ordered(int) -/
def F_slices_order2Ordered_int : AFn := ⟨4, 28, (.seq (.reg [a 8 (.p (.mv (k (.int .i64 0)))),
 a 9 (.p (.mv (k (.int .i64 0))))])
 (.seq (.seq (.dreg [(a 10 (.p (.mv (t 0))), []),
 (a 11 (.p (.mv (t 2))), []),
 (a 12 (.p (.idxS 1 (t 10) (t 11))), []),
 (a 13 (.r (.load none (t 12))), []),
 (a 14 (.p (.mv (t 0))), []),
 (a 15 (.p (.mv (t 1))), []),
 (a 16 (.p (.idxS 1 (t 14) (t 15))), []),
 (a 17 (.r (.load none (t 16))), []),
 (a 18 (.call N_cmp_Less_int [(t 13),(t 17)]), [])])
 (.cond (t 18)
 (.seq (.reg [a 19 (.p (.mv (t 3))),
 a 20 (.p (.nilck (t 19))),
 a 21 (.r (.load none (t 20))),
 a 22 (.p (.bin .add (t 21) (k (.int .i64 1)))),
 a 23 (.p (.nilck (t 19))),
 b (.e (.store 1 (t 23) (t 22)))])
 (.seq (.reg [a 24 (.p (.mv (t 2))),
 a 25 (.p (.mv (t 1))),
 a 8 (.p (.mv (t 24))),
 a 9 (.p (.mv (t 25)))])
 .ret))
 .skip))
 (.seq (.reg [a 26 (.p (.mv (t 1))),
 a 27 (.p (.mv (t 2))),
 a 8 (.p (.mv (t 26))),
 a 9 (.p (.mv (t 27)))])
 .ret))), [.tmp 8,.tmp 9]⟩
/-- (*strings.asciiSet).contains -/
def F_strings_asciiSet_contains : AFn := ⟨2, 10, (.seq (.reg [a 4 (.p (.mv (k (.bool false))))])
 (.seq (.reg [a 5 (.p (.mv (t 0))),
 a 6 (.p (.mv (t 1))),
 a 7 (.p (.nilck (t 5))),
 a 8 (.p (.idxA 256 1 (t 7) (t 6))),
 a 9 (.r (.load none (t 8))),
 a 4 (.p (.mv (t 9)))])
 .ret)), [.tmp 4]⟩
/-- unicode/utf8.DecodeRuneInString -/
def F_unicode_utf8_DecodeRuneInString : AFn := ⟨1, 19, (.seq (.reg [a 2 (.p (.mv (k (.int .i32 0)))),
 a 3 (.p (.mv (k (.int .i64 0))))])
 (.seq (.seq (.reg [a 4 (.p (.mv (t 0))),
 a 5 (.p (.bin .neq (t 4) (k (.str [])))),
 a 6 (.p (.mv (t 5))),
 c 7 (.p (.mv (t 0))) 6 true,
 c 8 (.p (.strIdx (t 7) (k (.int .i64 0)))) 6 true,
 c 9 (.p (.bin .lss (t 8) (k (.int .u8 128)))) 6 true,
 a 10 (.p (.sel (t 6) (t 9) (k (.bool false))))])
 (.cond (t 10)
 (.seq (.reg [a 11 (.p (.mv (t 0))),
 a 12 (.p (.strIdx (t 11) (k (.int .i64 0)))),
 a 13 (.p (.conv .i32 (t 12))),
 a 2 (.p (.mv (t 13))),
 a 3 (.p (.mv (k (.int .i64 1))))])
 .ret)
 (.reg [a 15 (.p (.mv (t 0))),
 a 16 (.call N_unicode_utf8_decodeRuneInStringSlow [(t 15)]),
 a 14 (.p (.mv (t 16))),
 a 17 (.p (.extract (t 14) 0)),
 a 18 (.p (.extract (t 14) 1)),
 a 2 (.p (.mv (t 17))),
 a 3 (.p (.mv (t 18)))])))
 .ret)), [.tmp 2,.tmp 3]⟩
/-- strings.ContainsRune -/
def F_strings_ContainsRune : AFn := ⟨2, 9, (.seq (.reg [a 4 (.p (.mv (k (.bool false))))])
 (.seq (.reg [a 5 (.p (.mv (t 0))),
 a 6 (.p (.mv (t 1))),
 a 7 (.call N_strings_IndexRune [(t 5),(t 6)]),
 a 8 (.p (.bin .geq (t 7) (k (.int .i64 0)))),
 a 4 (.p (.mv (t 8)))])
 .ret)), [.tmp 4]⟩
/-- unicode/utf8.DecodeLastRuneInString -/
def F_unicode_utf8_DecodeLastRuneInString : AFn := ⟨1, 51, (.seq (.reg [a 2 (.p (.mv (k (.int .i32 0)))),
 a 3 (.p (.mv (k (.int .i64 0))))])
 (.seq (.reg [a 7 (.p (.mv (t 0))),
 a 8 (.p (.len true (t 7))),
 a 4 (.p (.mv (t 8)))])
 (.seq (.seq (.reg [a 9 (.p (.mv (t 4))),
 a 10 (.p (.bin .eql (t 9) (k (.int .i64 0))))])
 (.cond (t 10)
 (.seq (.reg [a 2 (.p (.mv (k (.int .i32 65533)))),
 a 3 (.p (.mv (k (.int .i64 0))))])
 .ret)
 .skip))
 (.seq (.reg [a 11 (.p (.mv (t 4))),
 a 12 (.p (.bin .sub (t 11) (k (.int .i64 1)))),
 a 5 (.p (.mv (t 12)))])
 (.seq (.reg [a 13 (.p (.mv (t 0))),
 a 14 (.p (.mv (t 5))),
 a 15 (.p (.strIdx (t 13) (t 14))),
 a 16 (.p (.conv .i32 (t 15))),
 a 2 (.p (.mv (t 16)))])
 (.seq (.seq (.reg [a 17 (.p (.mv (t 2))),
 a 18 (.p (.bin .lss (t 17) (k (.int .i32 128))))])
 (.cond (t 18)
 (.seq (.reg [a 19 (.p (.mv (t 2))),
 a 2 (.p (.mv (t 19))),
 a 3 (.p (.mv (k (.int .i64 1))))])
 .ret)
 .skip))
 (.seq (.reg [a 20 (.p (.mv (t 4))),
 a 21 (.p (.bin .sub (t 20) (k (.int .i64 4)))),
 a 22 (.p (.minmax true (t 21) [(k (.int .i64 0))])),
 a 6 (.p (.mv (t 22)))])
 (.seq (.seq (.reg [a 23 (.p (.mv (t 5))),
 a 24 (.p (.bin .sub (t 23) (k (.int .i64 1)))),
 a 5 (.p (.mv (t 24)))])
 (.block 0 (.loop (.seq (.seq (.reg [a 25 (.p (.mv (t 5))),
 a 26 (.p (.mv (t 6))),
 a 27 (.p (.bin .geq (t 25) (t 26)))])
 (.cond (t 27)
 .skip
 (.exit 0)))
 (.seq (.block 1 (.seq (.reg [a 30 (.p (.mv (t 0))),
 a 31 (.p (.mv (t 5))),
 a 32 (.p (.strIdx (t 30) (t 31))),
 a 33 (.call N_unicode_utf8_RuneStart [(t 32)])])
 (.cond (t 33)
 (.exit 0)
 .skip)))
 (.reg [a 28 (.p (.mv (t 5))),
 a 29 (.p (.bin .sub (t 28) (k (.int .i64 1)))),
 a 5 (.p (.mv (t 29)))]))))))
 (.seq (.seq (.reg [a 34 (.p (.mv (t 5))),
 a 35 (.p (.bin .lss (t 34) (k (.int .i64 0))))])
 (.cond (t 35)
 (.reg [a 5 (.p (.mv (k (.int .i64 0))))])
 .skip))
 (.seq (.reg [a 37 (.p (.mv (t 0))),
 a 38 (.p (.mv (t 5))),
 a 39 (.p (.mv (t 4))),
 a 40 (.p (.slcStr (t 37) (some (t 38)) (some (t 39)))),
 a 41 (.call N_unicode_utf8_DecodeRuneInString [(t 40)]),
 a 36 (.p (.mv (t 41))),
 a 42 (.p (.extract (t 36) 0)),
 a 43 (.p (.extract (t 36) 1)),
 a 2 (.p (.mv (t 42))),
 a 3 (.p (.mv (t 43)))])
 (.seq (.seq (.reg [a 44 (.p (.mv (t 5))),
 a 45 (.p (.mv (t 3))),
 a 46 (.p (.bin .add (t 44) (t 45))),
 a 47 (.p (.mv (t 4))),
 a 48 (.p (.bin .neq (t 46) (t 47)))])
 (.cond (t 48)
 (.seq (.reg [a 2 (.p (.mv (k (.int .i32 65533)))),
 a 3 (.p (.mv (k (.int .i64 1))))])
 .ret)
 .skip))
 (.seq (.reg [a 49 (.p (.mv (t 2))),
 a 50 (.p (.mv (t 3))),
 a 2 (.p (.mv (t 49))),
 a 3 (.p (.mv (t 50)))])
 .ret)))))))))))), [.tmp 2,.tmp 3]⟩
/-- slices.rotateCmpFunc(stoa/api.History) -/
def F_slices_rotateCmpFunc_api_History : AFn := ⟨5, 58, (.seq (.reg [a 12 (.p (.mv (t 2))),
 a 13 (.p (.mv (t 1))),
 a 14 (.p (.bin .sub (t 12) (t 13))),
 a 10 (.p (.mv (t 14)))])
 (.seq (.reg [a 15 (.p (.mv (t 3))),
 a 16 (.p (.mv (t 2))),
 a 17 (.p (.bin .sub (t 15) (t 16))),
 a 11 (.p (.mv (t 17)))])
 (.seq (.block 0 (.loop (.seq (.seq (.reg [a 18 (.p (.mv (t 10))),
 a 19 (.p (.mv (t 11))),
 a 20 (.p (.bin .neq (t 18) (t 19)))])
 (.cond (t 20)
 .skip
 (.exit 0)))
 (.block 1 (.seq (.reg [a 21 (.p (.mv (t 10))),
 a 22 (.p (.mv (t 11))),
 a 23 (.p (.bin .gtr (t 21) (t 22)))])
 (.cond (t 23)
 (.seq (.reg [a 24 (.p (.mv (t 0))),
 a 25 (.p (.mv (t 2))),
 a 26 (.p (.mv (t 10))),
 a 27 (.p (.bin .sub (t 25) (t 26))),
 a 28 (.p (.mv (t 2))),
 a 29 (.p (.mv (t 11))),
 a 30 (.p (.mv (t 4))),
 a 31 (.call N_slices_swapRangeCmpFunc_api_History [(t 24),(t 27),(t 28),(t 29),(t 30)])])
 (.reg [a 32 (.p (.mv (t 10))),
 a 33 (.p (.mv (t 11))),
 a 34 (.p (.bin .sub (t 32) (t 33))),
 a 10 (.p (.mv (t 34)))]))
 (.seq (.reg [a 35 (.p (.mv (t 0))),
 a 36 (.p (.mv (t 2))),
 a 37 (.p (.mv (t 10))),
 a 38 (.p (.bin .sub (t 36) (t 37))),
 a 39 (.p (.mv (t 2))),
 a 40 (.p (.mv (t 11))),
 a 41 (.p (.bin .add (t 39) (t 40))),
 a 42 (.p (.mv (t 10))),
 a 43 (.p (.bin .sub (t 41) (t 42))),
 a 44 (.p (.mv (t 10))),
 a 45 (.p (.mv (t 4))),
 a 46 (.call N_slices_swapRangeCmpFunc_api_History [(t 35),(t 38),(t 43),(t 44),(t 45)])])
 (.reg [a 47 (.p (.mv (t 11))),
 a 48 (.p (.mv (t 10))),
 a 49 (.p (.bin .sub (t 47) (t 48))),
 a 11 (.p (.mv (t 49)))]))))))))
 (.reg [a 50 (.p (.mv (t 0))),
 a 51 (.p (.mv (t 2))),
 a 52 (.p (.mv (t 10))),
 a 53 (.p (.bin .sub (t 51) (t 52))),
 a 54 (.p (.mv (t 2))),
 a 55 (.p (.mv (t 10))),
 a 56 (.p (.mv (t 4))),
 a 57 (.call N_slices_swapRangeCmpFunc_api_History [(t 50),(t 53),(t 54),(t 55),(t 56)])])))), []⟩
/-- slices.rotateCmpFunc(stoa/api.Change) -/
def F_slices_rotateCmpFunc_api_Change : AFn := ⟨5, 58, (.seq (.reg [a 12 (.p (.mv (t 2))),
 a 13 (.p (.mv (t 1))),
 a 14 (.p (.bin .sub (t 12) (t 13))),
 a 10 (.p (.mv (t 14)))])
 (.seq (.reg [a 15 (.p (.mv (t 3))),
 a 16 (.p (.mv (t 2))),
 a 17 (.p (.bin .sub (t 15) (t 16))),
 a 11 (.p (.mv (t 17)))])
 (.seq (.block 0 (.loop (.seq (.seq (.reg [a 18 (.p (.mv (t 10))),
 a 19 (.p (.mv (t 11))),
 a 20 (.p (.bin .neq (t 18) (t 19)))])
 (.cond (t 20)
 .skip
 (.exit 0)))
 (.block 1 (.seq (.reg [a 21 (.p (.mv (t 10))),
 a 22 (.p (.mv (t 11))),
 a 23 (.p (.bin .gtr (t 21) (t 22)))])
 (.cond (t 23)
 (.seq (.reg [a 24 (.p (.mv (t 0))),
 a 25 (.p (.mv (t 2))),
 a 26 (.p (.mv (t 10))),
 a 27 (.p (.bin .sub (t 25) (t 26))),
 a 28 (.p (.mv (t 2))),
 a 29 (.p (.mv (t 11))),
 a 30 (.p (.mv (t 4))),
 a 31 (.call N_slices_swapRangeCmpFunc_api_Change [(t 24),(t 27),(t 28),(t 29),(t 30)])])
 (.reg [a 32 (.p (.mv (t 10))),
 a 33 (.p (.mv (t 11))),
 a 34 (.p (.bin .sub (t 32) (t 33))),
 a 10 (.p (.mv (t 34)))]))
 (.seq (.reg [a 35 (.p (.mv (t 0))),
 a 36 (.p (.mv (t 2))),
 a 37 (.p (.mv (t 10))),
 a 38 (.p (.bin .sub (t 36) (t 37))),
 a 39 (.p (.mv (t 2))),
 a 40 (.p (.mv (t 11))),
 a 41 (.p (.bin .add (t 39) (t 40))),
 a 42 (.p (.mv (t 10))),
 a 43 (.p (.bin .sub (t 41) (t 42))),
 a 44 (.p (.mv (t 10))),
 a 45 (.p (.mv (t 4))),
 a 46 (.call N_slices_swapRangeCmpFunc_api_Change [(t 35),(t 38),(t 43),(t 44),(t 45)])])
 (.reg [a 47 (.p (.mv (t 11))),
 a 48 (.p (.mv (t 10))),
 a 49 (.p (.bin .sub (t 47) (t 48))),
 a 11 (.p (.mv (t 49)))]))))))))
 (.reg [a 50 (.p (.mv (t 0))),
 a 51 (.p (.mv (t 2))),
 a 52 (.p (.mv (t 10))),
 a 53 (.p (.bin .sub (t 51) (t 52))),
 a 54 (.p (.mv (t 2))),
 a 55 (.p (.mv (t 10))),
 a 56 (.p (.mv (t 4))),
 a 57 (.call N_slices_swapRangeCmpFunc_api_Change [(t 50),(t 53),(t 54),(t 55),(t 56)])])))), []⟩
/-- bytes.IndexByte -/
def F_bytes_IndexByte : AFn := ⟨2, 8, (.seq (.reg [a 4 (.p (.mv (k (.int .i64 0))))])
 (.seq (.reg [a 5 (.p (.mv (t 0))),
 a 6 (.p (.mv (t 1))),
 a 7 (.r (.bidx (t 5) (t 6))),
 a 4 (.p (.mv (t 7)))])
 .ret)), [.tmp 4]⟩
/-- stoa/keys.readBytes -/
def F_keys_readBytes : AFn := ⟨1, 57, (.seq (.reg [a 2 (.n (.alloc [(.bool false),(.int .i64 0),.nslc])),
 a 3 (.p (.mv (k (.int .i64 0)))),
 a 4 (.p (.mv (k (.bool false))))])
 (.seq (.reg [a 8 (.n (.bslice 1 [] 0 [])),
 a 5 (.p (.mv (t 8)))])
 (.seq (.seq (.reg [a 6 (.p (.mv (k (.int .i64 0))))])
 (.block 0 (.loop (.seq (.seq (.reg [a 9 (.p (.mv (t 6))),
 a 10 (.p (.mv (t 0))),
 a 11 (.p (.len false (t 10))),
 a 12 (.p (.bin .lss (t 9) (t 11)))])
 (.cond (t 12)
 .skip
 (.exit 0)))
 (.block 1 (.seq (.reg [a 13 (.p (.mv (t 0))),
 a 14 (.p (.mv (t 6))),
 a 15 (.p (.slcS 1 (t 13) (some (t 14)) none none)),
 a 16 (.call N_bytes_IndexByte [(t 15),(k (.int .u8 0))]),
 a 7 (.p (.mv (t 16)))])
 (.seq (.seq (.reg [a 17 (.p (.mv (t 7))),
 a 18 (.p (.bin .lss (t 17) (k (.int .i64 0)))),
 a 19 (.p (.mv (t 18))),
 c 20 (.p (.mv (t 6))) 19 false,
 c 21 (.p (.mv (t 7))) 19 false,
 c 22 (.p (.bin .add (t 20) (t 21))) 19 false,
 c 23 (.p (.bin .add (t 22) (k (.int .i64 1)))) 19 false,
 c 24 (.p (.mv (t 0))) 19 false,
 c 25 (.p (.len false (t 24))) 19 false,
 c 26 (.p (.bin .geq (t 23) (t 25))) 19 false,
 a 27 (.p (.sel (t 19) (k (.bool true)) (t 26)))])
 (.cond (t 27)
 (.exit 0)
 .skip))
 (.seq (.reg [a 28 (.p (.mv (t 5))),
 a 29 (.p (.mv (t 0))),
 a 30 (.p (.mv (t 6))),
 a 31 (.p (.mv (t 6))),
 a 32 (.p (.mv (t 7))),
 a 33 (.p (.bin .add (t 31) (t 32))),
 a 34 (.p (.slcS 1 (t 29) (some (t 30)) (some (t 33)) none)),
 a 35 (.e (.append 1 1 (t 28) (t 34))),
 a 5 (.p (.mv (t 35)))])
 (.seq (.reg [a 36 (.p (.mv (t 6))),
 a 37 (.p (.mv (t 7))),
 a 38 (.p (.bin .add (t 37) (k (.int .i64 2)))),
 a 39 (.p (.bin .add (t 36) (t 38))),
 a 6 (.p (.mv (t 39)))])
 (.seq (.reg [a 40 (.p (.mv (t 0))),
 a 41 (.p (.mv (t 6))),
 a 42 (.p (.bin .sub (t 41) (k (.int .i64 1)))),
 a 43 (.p (.idxS 1 (t 40) (t 42))),
 a 44 (.r (.load none (t 43)))])
 (.block 2 (.seq (.reg [a 47 (.p (.bin .eql (t 44) (k (.int .u8 0)))),
 a 46 (.p (.mv (t 47)))])
 (.cond (t 46)
 (.seq (.reg [a 48 (.p (.mv (t 5))),
 a 49 (.p (.build [(.bool false),(.int .i64 0),.nslc] [(2,1,(t 48))])),
 a 50 (.p (.mv (t 6))),
 b (.e (.store 3 (t 2) (t 49))),
 a 3 (.p (.mv (t 50))),
 a 4 (.p (.mv (k (.bool true))))])
 .ret)
 (.seq (.reg [a 52 (.p (.bin .eql (t 44) (k (.int .u8 255)))),
 a 51 (.p (.mv (t 52)))])
 (.cond (t 51)
 (.reg [a 53 (.p (.mv (t 5))),
 a 54 (.n (.bslice 1 [(.int .u8 0)] 1 [(0,1,(k (.int .u8 0)))])),
 a 55 (.e (.append 1 1 (t 53) (t 54))),
 a 5 (.p (.mv (t 55)))])
 (.seq (.reg [a 45 (.p (.build [(.bool false),(.int .i64 0),.nslc] [])),
 b (.e (.store 3 (t 2) (t 45))),
 a 3 (.p (.mv (k (.int .i64 0)))),
 a 4 (.p (.mv (k (.bool false))))])
 .ret))))))))))))))))
 (.seq (.reg [a 56 (.p (.build [(.bool false),(.int .i64 0),.nslc] [])),
 b (.e (.store 3 (t 2) (t 56))),
 a 3 (.p (.mv (k (.int .i64 0)))),
 a 4 (.p (.mv (k (.bool false))))])
 .ret)))), [.cell 2 (some 3),.tmp 3,.tmp 4]⟩
/-- stoa/keys.readNumber -/
def F_keys_readNumber : AFn := ⟨2, 52, (.seq (.reg [a 4 (.n (.alloc [(.bool false),(.int .i64 0),.nslc])),
 a 5 (.p (.mv (k (.int .i64 0)))),
 a 6 (.p (.mv (k (.bool false))))])
 (.seq (.reg [a 12 (.p (.mv (t 0))),
 a 13 (.call N_keys_size [(t 12)]),
 a 7 (.p (.mv (t 13)))])
 (.seq (.seq (.reg [a 14 (.p (.mv (t 1))),
 a 15 (.p (.len false (t 14))),
 a 16 (.p (.mv (t 7))),
 a 17 (.p (.bin .lss (t 15) (t 16)))])
 (.cond (t 17)
 (.seq (.reg [a 18 (.p (.build [(.bool false),(.int .i64 0),.nslc] [])),
 b (.e (.store 3 (t 4) (t 18))),
 a 5 (.p (.mv (k (.int .i64 0)))),
 a 6 (.p (.mv (k (.bool false))))])
 .ret)
 .skip))
 (.seq (.reg [a 8 (.p (.mv (k (.int .u64 0))))])
 (.seq (.seq (.reg [a 19 (.p (.mv (t 1))),
 a 20 (.p (.mv (t 7))),
 a 21 (.p (.slcS 1 (t 19) none (some (t 20)) none)),
 a 22 (.p (.len false (t 21))),
 a 23 (.p (.mv (k (.int .i64 0))))])
 (.block 0 (.loop (.seq (.reg [a 24 (.p (.bin .lss (t 23) (t 22)))])
 (.seq (.cond (t 24)
 .skip
 (.exit 0))
 (.seq (.block 1 (.seq (.reg [a 25 (.p (.idxS 1 (t 21) (t 23))),
 a 26 (.r (.load none (t 25))),
 a 10 (.p (.mv (t 26)))])
 (.reg [a 27 (.p (.mv (t 8))),
 a 28 (.p (.bin .shl (t 27) (k (.int .u64 8)))),
 a 29 (.p (.mv (t 10))),
 a 30 (.p (.conv .u64 (t 29))),
 a 31 (.p (.bin .or (t 28) (t 30))),
 a 8 (.p (.mv (t 31)))])))
 (.reg [a 32 (.p (.bin .add (t 23) (k (.int .i64 1)))),
 a 23 (.p (.mv (t 32)))])))))))
 (.seq (.reg [a 33 (.p (.mv (t 8))),
 a 34 (.p (.conv .i64 (t 33))),
 a 11 (.p (.mv (t 34)))])
 (.seq (.seq (.reg [a 35 (.p (.mv (t 0))),
 a 36 (.call N_keys_signed [(t 35)])])
 (.cond (t 36)
 (.reg [a 37 (.p (.mv (t 8))),
 a 38 (.p (.mv (t 7))),
 a 39 (.p (.bin .mul (k (.int .i64 8)) (t 38))),
 a 40 (.p (.bin .sub (k (.int .i64 64)) (t 39))),
 a 41 (.p (.conv .u64 (t 40))),
 a 42 (.p (.bin .shl (t 37) (t 41))),
 a 43 (.call N_bits_Unflip [(t 42)]),
 a 44 (.p (.mv (t 7))),
 a 45 (.p (.bin .mul (k (.int .i64 8)) (t 44))),
 a 46 (.p (.bin .sub (k (.int .i64 64)) (t 45))),
 a 47 (.p (.conv .u64 (t 46))),
 a 48 (.p (.bin .shr (t 43) (t 47))),
 a 11 (.p (.mv (t 48)))])
 .skip))
 (.seq (.reg [a 49 (.p (.mv (t 11))),
 a 50 (.p (.build [(.bool false),(.int .i64 0),.nslc] [(1,1,(t 49))])),
 a 51 (.p (.mv (t 7))),
 b (.e (.store 3 (t 4) (t 50))),
 a 5 (.p (.mv (t 51))),
 a 6 (.p (.mv (k (.bool true))))])
 .ret)))))))), [.cell 4 (some 3),.tmp 5,.tmp 6]⟩
/-- stoa/cell.known -/
def F_cell_known : AFn := ⟨1, 9, (.seq (.reg [a 2 (.p (.mv (k (.bool false))))])
 (.seq (.reg [a 3 (.p (.mv (t 0))),
 a 4 (.p (.bin .geq (t 3) (k (.int .i64 1)))),
 a 5 (.p (.mv (t 4))),
 c 6 (.p (.mv (t 0))) 5 true,
 c 7 (.p (.bin .leq (t 6) (k (.int .i64 8)))) 5 true,
 a 8 (.p (.sel (t 5) (t 7) (k (.bool false)))),
 a 2 (.p (.mv (t 8)))])
 .ret)), [.tmp 2]⟩
/-- stoa/cell.Number -/
def F_cell_Number : AFn := ⟨1, 9, (.seq (.reg [a 2 (.p (.mv (k (.bool false))))])
 (.seq (.reg [a 3 (.p (.mv (t 0))),
 a 4 (.p (.bin .geq (t 3) (k (.int .i64 1)))),
 a 5 (.p (.mv (t 4))),
 c 6 (.p (.mv (t 0))) 5 true,
 c 7 (.p (.bin .leq (t 6) (k (.int .i64 6)))) 5 true,
 a 8 (.p (.sel (t 5) (t 7) (k (.bool false)))),
 a 2 (.p (.mv (t 8)))])
 .ret)), [.tmp 2]⟩
/-- stoa/cell.text -/
def F_cell_text : AFn := ⟨2, 17, (.seq (.reg [a 4 (.p (.mv (k (.int .i64 0))))])
 (.seq (.block 0 (.seq (.reg [a 6 (.p (.mv (t 1))),
 a 7 (.p (.len false (t 6))),
 a 8 (.p (.bin .gtr (t 7) (k (.int .i64 200)))),
 a 5 (.p (.mv (t 8)))])
 (.cond (t 5)
 (.seq (.reg [a 4 (.p (.mv (k (.int .i64 4))))])
 .ret)
 (.seq (.reg [a 10 (.p (.mv (t 0))),
 a 11 (.p (.bin .eql (t 10) (k (.int .i64 7)))),
 a 12 (.p (.mv (t 11))),
 c 13 (.p (.mv (t 1))) 12 true,
 c 14 (.call N_bytes_IndexByte [(t 13),(k (.int .u8 0))]) 12 true,
 c 15 (.p (.bin .geq (t 14) (k (.int .i64 0)))) 12 true,
 a 16 (.p (.sel (t 12) (t 15) (k (.bool false)))),
 a 9 (.p (.mv (t 16)))])
 (.cond (t 9)
 (.seq (.reg [a 4 (.p (.mv (k (.int .i64 5))))])
 .ret)
 .skip)))))
 (.seq (.reg [a 4 (.p (.mv (k (.int .i64 0))))])
 .ret))), [.tmp 4]⟩
/-- stoa/cell.holds -/
def F_cell_holds : AFn := ⟨2, 30, (.seq (.reg [a 4 (.p (.mv (k (.bool false))))])
 (.seq (.seq (.reg [a 7 (.p (.mv (t 0)))])
 (.block 0 (.seq (.reg [a 9 (.p (.bin .eql (t 7) (k (.int .i64 5)))),
 a 8 (.p (.mv (t 9)))])
 (.cond (t 8)
 (.seq (.reg [a 10 (.p (.mv (t 1))),
 a 11 (.p (.mv (t 1))),
 a 12 (.p (.conv .u16 (t 11))),
 a 13 (.p (.conv .i64 (t 12))),
 a 14 (.p (.bin .eql (t 10) (t 13))),
 a 4 (.p (.mv (t 14)))])
 .ret)
 (.seq (.reg [a 16 (.p (.bin .eql (t 7) (k (.int .i64 6)))),
 a 15 (.p (.mv (t 16)))])
 (.cond (t 15)
 (.seq (.reg [a 17 (.p (.mv (t 1))),
 a 18 (.p (.bin .shr (t 17) (k (.int .u64 1)))),
 a 19 (.p (.bin .eql (t 18) (k (.int .i64 0)))),
 a 4 (.p (.mv (t 19)))])
 .ret)
 .skip))))))
 (.seq (.reg [a 21 (.p (.mv (t 1))),
 a 22 (.p (.mv (t 0))),
 a 23 (.p (.bin .sub (t 22) (k (.int .i64 1)))),
 a 24 (.p (.conv .u64 (t 23))),
 a 25 (.p (.bin .shl (k (.int .i64 1)) (t 24))),
 a 26 (.call N_bits_Narrow [(t 21),(t 25)]),
 a 20 (.p (.mv (t 26))),
 a 27 (.p (.extract (t 20) 0)),
 a 28 (.p (.extract (t 20) 1)),
 a 5 (.p (.mv (t 27))),
 a 6 (.p (.mv (t 28)))])
 (.seq (.reg [a 29 (.p (.mv (t 6))),
 a 4 (.p (.mv (t 29)))])
 .ret)))), [.tmp 4]⟩
/-- stoa/schema.cells -/
def F_schema_cells : AFn := ⟨2, 33, (.seq (.reg [a 4 (.p (.mv (k (.int .i64 0))))])
 (.seq (.seq (.reg [a 8 (.p (.mv (t 1))),
 a 9 (.p (.len false (t 8))),
 a 10 (.p (.mv (t 0))),
 a 11 (.p (.len false (t 10))),
 a 12 (.p (.bin .neq (t 9) (t 11)))])
 (.cond (t 12)
 (.seq (.reg [a 4 (.p (.mv (k (.int .i64 61))))])
 .ret)
 .skip))
 (.seq (.seq (.reg [a 13 (.p (.mv (t 0))),
 a 14 (.p (.len false (t 13))),
 a 15 (.p (.mv (k (.int .i64 0))))])
 (.block 0 (.loop (.seq (.reg [a 16 (.p (.bin .lss (t 15) (t 14)))])
 (.seq (.cond (t 16)
 .skip
 (.exit 0))
 (.seq (.block 1 (.seq (.reg [a 17 (.p (.mv (t 15))),
 a 18 (.p (.idxS 3 (t 13) (t 15))),
 a 19 (.r (.load (some 3) (t 18))),
 a 6 (.n (.alloc [(.str []),(.int .i64 0),(.bool false)])),
 a 5 (.p (.mv (t 17))),
 b (.e (.store 3 (t 6) (t 19)))])
 (.seq (.dreg [(a 20 (.p (.fld 1 (t 6))), []),
 (a 21 (.r (.load none (t 20))), []),
 (a 22 (.p (.fld 2 (t 6))), []),
 (a 23 (.r (.load none (t 22))), []),
 (a 24 (.p (.mv (t 1))), []),
 (a 25 (.p (.mv (t 5))), []),
 (a 26 (.p (.idxS 3 (t 24) (t 25))), []),
 (a 27 (.r (.load (some 3) (t 26))), []),
 (a 28 (.call N_cell_Check [(t 21),(t 23),(t 27)]), []),
 (a 7 (.p (.mv (t 28))), [])])
 (.seq (.reg [a 29 (.p (.mv (t 7))),
 a 30 (.p (.bin .neq (t 29) (k (.int .i64 0))))])
 (.cond (t 30)
 (.seq (.reg [a 31 (.p (.mv (t 7))),
 a 4 (.p (.mv (t 31)))])
 .ret)
 .skip)))))
 (.reg [a 32 (.p (.bin .add (t 15) (k (.int .i64 1)))),
 a 15 (.p (.mv (t 32)))])))))))
 (.seq (.reg [a 4 (.p (.mv (k (.int .i64 0))))])
 .ret)))), [.tmp 4]⟩
/-- stoa/keys.put -/
def F_keys_put : AFn := ⟨2, 28, (.seq (.reg [a 3 (.n (.box (t 1))),
 a 4 (.p (.mv (k .nslc)))])
 (.seq (.seq (.reg [a 6 (.p (.mv (t 0)))])
 (.block 0 (.seq (.reg [a 8 (.p (.bin .eql (t 6) (k (.int .i64 7)))),
 a 7 (.p (.mv (t 8)))])
 (.cond (t 7)
 (.seq (.reg [a 9 (.p (.fld 2 (t 3))),
 a 10 (.r (.load none (t 9))),
 a 11 (.call N_bytes_Clone [(t 10)]),
 a 12 (.n (.bslice 1 [(.int .u8 0)] 1 [(0,1,(k (.int .u8 0)))])),
 a 13 (.e (.append 1 1 (t 11) (t 12))),
 a 4 (.p (.mv (t 13)))])
 .ret)
 (.seq (.reg [a 15 (.p (.bin .eql (t 6) (k (.int .i64 8)))),
 a 14 (.p (.mv (t 15)))])
 (.cond (t 14)
 (.seq (.reg [a 16 (.p (.fld 2 (t 3))),
 a 17 (.r (.load none (t 16))),
 a 18 (.n (.bslice 1 [(.int .u8 0)] 1 [(0,1,(k (.int .u8 0)))])),
 a 19 (.n (.bslice 1 [(.int .u8 0),(.int .u8 0)] 2 [(0,1,(k (.int .u8 0))),(1,1,(k (.int .u8 255)))])),
 a 20 (.call N_bytes_ReplaceAll [(t 17),(t 18),(t 19)]),
 a 5 (.p (.mv (t 20)))])
 (.seq (.reg [a 21 (.p (.mv (t 5))),
 a 22 (.n (.bslice 1 [(.int .u8 0),(.int .u8 0)] 2 [(0,1,(k (.int .u8 0))),(1,1,(k (.int .u8 0)))])),
 a 23 (.e (.append 1 1 (t 21) (t 22))),
 a 4 (.p (.mv (t 23)))])
 .ret))
 .skip))))))
 (.seq (.reg [a 24 (.p (.mv (t 0))),
 a 25 (.p (.fld 1 (t 3))),
 a 26 (.r (.load none (t 25))),
 a 27 (.call N_keys_number [(t 24),(t 26)]),
 a 4 (.p (.mv (t 27)))])
 .ret))), [.tmp 4]⟩
/-- stoa/schema.misplaced -/
def F_schema_misplaced : AFn := ⟨3, 23, (.seq (.reg [a 3 (.n (.box (t 0))),
 a 6 (.p (.mv (k (.bool false))))])
 (.seq (.reg [a 7 (.p (.mv (t 2))),
 a 8 (.p (.mv (t 1))),
 a 9 (.p (.bin .leq (t 7) (t 8))),
 a 10 (.p (.mv (t 9))),
 c 11 (.p (.mv (t 2))) 10 false,
 c 12 (.p (.fld 1 (t 3))) 10 false,
 c 13 (.r (.load none (t 12))) 10 false,
 c 14 (.p (.bin .lss (t 11) (t 13))) 10 false,
 a 15 (.p (.sel (t 10) (k (.bool true)) (t 14))),
 a 16 (.p (.mv (t 15))),
 c 17 (.p (.mv (t 2))) 16 false,
 c 18 (.p (.fld 0 (t 3))) 16 false,
 c 19 (.r (.load none (t 18))) 16 false,
 c 20 (.p (.len false (t 19))) 16 false,
 c 21 (.p (.bin .geq (t 17) (t 20))) 16 false,
 a 22 (.p (.sel (t 16) (k (.bool true)) (t 21))),
 a 6 (.p (.mv (t 22)))])
 .ret)), [.tmp 6]⟩
end Go.Ab.Fs
