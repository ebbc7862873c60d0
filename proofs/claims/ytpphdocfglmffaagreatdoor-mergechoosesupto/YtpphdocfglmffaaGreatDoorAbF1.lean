/- Made by program: the abstract functions of the seat. -/
import Derived.Test.YtpphdocfglmffaaGreatDoorAbF0
set_option linter.unusedVariables false
set_option linter.unusedSimpArgs false
namespace Go.Ab.Fs
/-- unicode/utf8.decodeRuneInStringSlow -/
def F_unicode_utf8_decodeRuneInStringSlow : AFn := ⟨1, 117, (.seq (.reg [a 2 (.p (.mv (k (.int .i32 0)))),
 a 3 (.p (.mv (k (.int .i64 0))))])
 (.seq (.reg [a 13 (.p (.mv (t 0))),
 a 14 (.p (.len true (t 13))),
 a 4 (.p (.mv (t 14)))])
 (.seq (.seq (.reg [a 15 (.p (.mv (t 4))),
 a 16 (.p (.bin .lss (t 15) (k (.int .i64 1))))])
 (.cond (t 16)
 (.seq (.reg [a 2 (.p (.mv (k (.int .i32 65533)))),
 a 3 (.p (.mv (k (.int .i64 0))))])
 .ret)
 .skip))
 (.seq (.reg [a 17 (.p (.mv (t 0))),
 a 18 (.p (.strIdx (t 17) (k (.int .i64 0)))),
 a 5 (.p (.mv (t 18)))])
 (.seq (.reg [a 19 (.p (.mv (t 5))),
 a 20 .bad,
 a 21 (.r (.load none (t 20))),
 a 6 (.p (.mv (t 21)))])
 (.seq (.seq (.reg [a 22 (.p (.mv (t 6))),
 a 23 (.p (.bin .geq (t 22) (k (.int .u8 240))))])
 (.cond (t 23)
 (.seq (.reg [a 24 (.p (.mv (t 6))),
 a 25 (.p (.conv .i32 (t 24))),
 a 26 (.p (.bin .shl (t 25) (k (.int .u64 31)))),
 a 27 (.p (.bin .shr (t 26) (k (.int .u64 31)))),
 a 7 (.p (.mv (t 27)))])
 (.seq (.reg [a 28 (.p (.mv (t 0))),
 a 29 (.p (.strIdx (t 28) (k (.int .i64 0)))),
 a 30 (.p (.conv .i32 (t 29))),
 a 31 (.p (.mv (t 7))),
 a 32 (.p (.bin .andNot (t 30) (t 31))),
 a 33 (.p (.mv (t 7))),
 a 34 (.p (.bin .and (k (.int .i32 65533)) (t 33))),
 a 35 (.p (.bin .or (t 32) (t 34))),
 a 2 (.p (.mv (t 35))),
 a 3 (.p (.mv (k (.int .i64 1))))])
 .ret))
 .skip))
 (.seq (.reg [a 36 (.p (.mv (t 6))),
 a 37 (.p (.bin .and (t 36) (k (.int .u8 7)))),
 a 38 (.p (.conv .i64 (t 37))),
 a 8 (.p (.mv (t 38)))])
 (.seq (.reg [a 39 (.p (.mv (t 6))),
 a 40 (.p (.bin .shr (t 39) (k (.int .u64 4)))),
 a 41 .bad,
 a 42 (.r (.load (some 2) (t 41))),
 a 9 (.n (.alloc [(.int .u8 0),(.int .u8 0)])),
 b (.e (.store 2 (t 9) (t 42)))])
 (.seq (.seq (.reg [a 43 (.p (.mv (t 4))),
 a 44 (.p (.mv (t 8))),
 a 45 (.p (.bin .lss (t 43) (t 44)))])
 (.cond (t 45)
 (.seq (.reg [a 2 (.p (.mv (k (.int .i32 65533)))),
 a 3 (.p (.mv (k (.int .i64 1))))])
 .ret)
 .skip))
 (.seq (.reg [a 46 (.p (.mv (t 0))),
 a 47 (.p (.strIdx (t 46) (k (.int .i64 1)))),
 a 10 (.p (.mv (t 47)))])
 (.seq (.seq (.reg [a 48 (.p (.mv (t 10))),
 a 49 (.p (.fld 0 (t 9))),
 a 50 (.r (.load none (t 49))),
 a 51 (.p (.bin .lss (t 48) (t 50))),
 a 52 (.p (.mv (t 51))),
 c 53 (.p (.fld 1 (t 9))) 52 false,
 c 54 (.r (.load none (t 53))) 52 false,
 c 55 (.p (.mv (t 10))) 52 false,
 c 56 (.p (.bin .lss (t 54) (t 55))) 52 false,
 a 57 (.p (.sel (t 52) (k (.bool true)) (t 56)))])
 (.cond (t 57)
 (.seq (.reg [a 2 (.p (.mv (k (.int .i32 65533)))),
 a 3 (.p (.mv (k (.int .i64 1))))])
 .ret)
 .skip))
 (.seq (.seq (.reg [a 58 (.p (.mv (t 8))),
 a 59 (.p (.bin .leq (t 58) (k (.int .i64 2))))])
 (.cond (t 59)
 (.seq (.reg [a 60 (.p (.mv (t 5))),
 a 61 (.p (.bin .and (t 60) (k (.int .u8 31)))),
 a 62 (.p (.conv .i32 (t 61))),
 a 63 (.p (.bin .shl (t 62) (k (.int .u64 6)))),
 a 64 (.p (.mv (t 10))),
 a 65 (.p (.bin .and (t 64) (k (.int .u8 63)))),
 a 66 (.p (.conv .i32 (t 65))),
 a 67 (.p (.bin .or (t 63) (t 66))),
 a 2 (.p (.mv (t 67))),
 a 3 (.p (.mv (k (.int .i64 2))))])
 .ret)
 .skip))
 (.seq (.reg [a 68 (.p (.mv (t 0))),
 a 69 (.p (.strIdx (t 68) (k (.int .i64 2)))),
 a 11 (.p (.mv (t 69)))])
 (.seq (.seq (.reg [a 70 (.p (.mv (t 11))),
 a 71 (.p (.bin .lss (t 70) (k (.int .u8 128)))),
 a 72 (.p (.mv (t 71))),
 c 73 (.p (.mv (t 11))) 72 false,
 c 74 (.p (.bin .lss (k (.int .u8 191)) (t 73))) 72 false,
 a 75 (.p (.sel (t 72) (k (.bool true)) (t 74)))])
 (.cond (t 75)
 (.seq (.reg [a 2 (.p (.mv (k (.int .i32 65533)))),
 a 3 (.p (.mv (k (.int .i64 1))))])
 .ret)
 .skip))
 (.seq (.seq (.reg [a 76 (.p (.mv (t 8))),
 a 77 (.p (.bin .leq (t 76) (k (.int .i64 3))))])
 (.cond (t 77)
 (.seq (.reg [a 78 (.p (.mv (t 5))),
 a 79 (.p (.bin .and (t 78) (k (.int .u8 15)))),
 a 80 (.p (.conv .i32 (t 79))),
 a 81 (.p (.bin .shl (t 80) (k (.int .u64 12)))),
 a 82 (.p (.mv (t 10))),
 a 83 (.p (.bin .and (t 82) (k (.int .u8 63)))),
 a 84 (.p (.conv .i32 (t 83))),
 a 85 (.p (.bin .shl (t 84) (k (.int .u64 6)))),
 a 86 (.p (.bin .or (t 81) (t 85))),
 a 87 (.p (.mv (t 11))),
 a 88 (.p (.bin .and (t 87) (k (.int .u8 63)))),
 a 89 (.p (.conv .i32 (t 88))),
 a 90 (.p (.bin .or (t 86) (t 89))),
 a 2 (.p (.mv (t 90))),
 a 3 (.p (.mv (k (.int .i64 3))))])
 .ret)
 .skip))
 (.seq (.reg [a 91 (.p (.mv (t 0))),
 a 92 (.p (.strIdx (t 91) (k (.int .i64 3)))),
 a 12 (.p (.mv (t 92)))])
 (.seq (.seq (.reg [a 93 (.p (.mv (t 12))),
 a 94 (.p (.bin .lss (t 93) (k (.int .u8 128)))),
 a 95 (.p (.mv (t 94))),
 c 96 (.p (.mv (t 12))) 95 false,
 c 97 (.p (.bin .lss (k (.int .u8 191)) (t 96))) 95 false,
 a 98 (.p (.sel (t 95) (k (.bool true)) (t 97)))])
 (.cond (t 98)
 (.seq (.reg [a 2 (.p (.mv (k (.int .i32 65533)))),
 a 3 (.p (.mv (k (.int .i64 1))))])
 .ret)
 .skip))
 (.seq (.reg [a 99 (.p (.mv (t 5))),
 a 100 (.p (.bin .and (t 99) (k (.int .u8 7)))),
 a 101 (.p (.conv .i32 (t 100))),
 a 102 (.p (.bin .shl (t 101) (k (.int .u64 18)))),
 a 103 (.p (.mv (t 10))),
 a 104 (.p (.bin .and (t 103) (k (.int .u8 63)))),
 a 105 (.p (.conv .i32 (t 104))),
 a 106 (.p (.bin .shl (t 105) (k (.int .u64 12)))),
 a 107 (.p (.bin .or (t 102) (t 106))),
 a 108 (.p (.mv (t 11))),
 a 109 (.p (.bin .and (t 108) (k (.int .u8 63)))),
 a 110 (.p (.conv .i32 (t 109))),
 a 111 (.p (.bin .shl (t 110) (k (.int .u64 6)))),
 a 112 (.p (.bin .or (t 107) (t 111))),
 a 113 (.p (.mv (t 12))),
 a 114 (.p (.bin .and (t 113) (k (.int .u8 63)))),
 a 115 (.p (.conv .i32 (t 114))),
 a 116 (.p (.bin .or (t 112) (t 115))),
 a 2 (.p (.mv (t 116))),
 a 3 (.p (.mv (k (.int .i64 4))))])
 .ret)))))))))))))))))), [.tmp 2,.tmp 3]⟩
/-- strings.IndexRune -/
def F_strings_IndexRune : AFn := ⟨2, 187, (.seq (.reg [a 4 (.p (.mv (k (.int .i64 0))))])
 (.block 0 (.seq (.reg [a 161 (.p (.mv (t 1))),
 a 162 (.p (.bin .leq (k (.int .i32 0)) (t 161))),
 a 163 (.p (.mv (t 162))),
 c 164 (.p (.mv (t 1))) 163 true,
 c 165 (.p (.bin .lss (t 164) (k (.int .i32 128)))) 163 true,
 a 166 (.p (.sel (t 163) (t 165) (k (.bool false)))),
 a 160 (.p (.mv (t 166)))])
 (.cond (t 160)
 (.seq (.reg [a 167 (.p (.mv (t 0))),
 a 168 (.p (.mv (t 1))),
 a 169 (.p (.conv .u8 (t 168))),
 a 170 (.call N_strings_IndexByte [(t 167),(t 169)]),
 a 4 (.p (.mv (t 170)))])
 .ret)
 (.seq (.reg [a 172 (.p (.mv (t 1))),
 a 173 (.p (.bin .eql (t 172) (k (.int .i32 65533)))),
 a 171 (.p (.mv (t 173)))])
 (.cond (t 171)
 (.seq (.seq (.reg [a 174 (.p (.mv (t 0))),
 a 175 .bad])
 (.block 9 (.loop (.seq (.reg [a 176 .bad,
 a 177 (.p (.extract (t 176) 0))])
 (.seq (.cond (t 177)
 .skip
 (.exit 9))
 (.block 10 (.seq (.reg [a 178 (.p (.extract (t 176) 1)),
 a 179 (.p (.extract (t 176) 2)),
 a 5 (.p (.mv (t 178))),
 a 6 (.p (.mv (t 179)))])
 (.seq (.reg [a 180 (.p (.mv (t 6))),
 a 181 (.p (.bin .eql (t 180) (k (.int .i32 65533))))])
 (.cond (t 181)
 (.seq (.reg [a 182 (.p (.mv (t 5))),
 a 4 (.p (.mv (t 182)))])
 .ret)
 .skip)))))))))
 (.seq (.reg [a 4 (.p (.mv (k (.int .i64 (-1)))))])
 .ret))
 (.seq (.reg [a 184 (.p (.mv (t 1))),
 a 185 (.call N_unicode_utf8_ValidRune [(t 184)]),
 a 186 (.p (.un .not (t 185))),
 a 183 (.p (.mv (t 186)))])
 (.cond (t 183)
 (.seq (.reg [a 4 (.p (.mv (k (.int .i64 (-1)))))])
 .ret)
 .bad)))))))), [.tmp 4]⟩
/-- unicode/utf8.RuneStart -/
def F_unicode_utf8_RuneStart : AFn := ⟨1, 6, (.seq (.reg [a 2 (.p (.mv (k (.bool false))))])
 (.seq (.reg [a 3 (.p (.mv (t 0))),
 a 4 (.p (.bin .and (t 3) (k (.int .u8 192)))),
 a 5 (.p (.bin .neq (t 4) (k (.int .u8 128)))),
 a 2 (.p (.mv (t 5)))])
 .ret)), [.tmp 2]⟩
/-- slices.swapRangeCmpFunc(stoa/api.History) -/
def F_slices_swapRangeCmpFunc_api_History : AFn := ⟨5, 38, (.seq (.reg [a 10 (.p (.mv (k (.int .i64 0))))])
 (.block 0 (.loop (.seq (.seq (.reg [a 11 (.p (.mv (t 10))),
 a 12 (.p (.mv (t 3))),
 a 13 (.p (.bin .lss (t 11) (t 12)))])
 (.cond (t 13)
 .skip
 (.exit 0)))
 (.seq (.block 1 (.dreg [(a 16 (.p (.mv (t 0))), []),
 (a 17 (.p (.mv (t 1))), []),
 (a 18 (.p (.mv (t 10))), []),
 (a 19 (.p (.bin .add (t 17) (t 18))), []),
 (a 20 (.p (.mv (t 0))), []),
 (a 21 (.p (.mv (t 2))), []),
 (a 22 (.p (.mv (t 10))), []),
 (a 23 (.p (.bin .add (t 21) (t 22))), []),
 (a 24 (.p (.mv (t 0))), []),
 (a 25 (.p (.mv (t 2))), []),
 (a 26 (.p (.mv (t 10))), []),
 (a 27 (.p (.bin .add (t 25) (t 26))), []),
 (a 28 (.p (.idxS 2 (t 24) (t 27))), []),
 (a 29 (.r (.load (some 2) (t 28))), []),
 (a 30 (.p (.mv (t 0))), []),
 (a 31 (.p (.mv (t 1))), []),
 (a 32 (.p (.mv (t 10))), []),
 (a 33 (.p (.bin .add (t 31) (t 32))), []),
 (a 34 (.p (.idxS 2 (t 30) (t 33))), []),
 (a 35 (.r (.load (some 2) (t 34))), []),
 (a 36 (.p (.idxS 2 (t 16) (t 19))), []),
 (b (.e (.store 2 (t 36) (t 29))), []),
 (a 37 (.p (.idxS 2 (t 20) (t 23))), []),
 (b (.e (.store 2 (t 37) (t 35))), [])]))
 (.reg [a 14 (.p (.mv (t 10))),
 a 15 (.p (.bin .add (t 14) (k (.int .i64 1)))),
 a 10 (.p (.mv (t 15)))])))))), []⟩
/-- slices.swapRangeCmpFunc(stoa/api.Change) -/
def F_slices_swapRangeCmpFunc_api_Change : AFn := ⟨5, 38, (.seq (.reg [a 10 (.p (.mv (k (.int .i64 0))))])
 (.block 0 (.loop (.seq (.seq (.reg [a 11 (.p (.mv (t 10))),
 a 12 (.p (.mv (t 3))),
 a 13 (.p (.bin .lss (t 11) (t 12)))])
 (.cond (t 13)
 .skip
 (.exit 0)))
 (.seq (.block 1 (.dreg [(a 16 (.p (.mv (t 0))), []),
 (a 17 (.p (.mv (t 1))), []),
 (a 18 (.p (.mv (t 10))), []),
 (a 19 (.p (.bin .add (t 17) (t 18))), []),
 (a 20 (.p (.mv (t 0))), []),
 (a 21 (.p (.mv (t 2))), []),
 (a 22 (.p (.mv (t 10))), []),
 (a 23 (.p (.bin .add (t 21) (t 22))), []),
 (a 24 (.p (.mv (t 0))), []),
 (a 25 (.p (.mv (t 2))), []),
 (a 26 (.p (.mv (t 10))), []),
 (a 27 (.p (.bin .add (t 25) (t 26))), []),
 (a 28 (.p (.idxS 4 (t 24) (t 27))), []),
 (a 29 (.r (.load (some 4) (t 28))), []),
 (a 30 (.p (.mv (t 0))), []),
 (a 31 (.p (.mv (t 1))), []),
 (a 32 (.p (.mv (t 10))), []),
 (a 33 (.p (.bin .add (t 31) (t 32))), []),
 (a 34 (.p (.idxS 4 (t 30) (t 33))), []),
 (a 35 (.r (.load (some 4) (t 34))), []),
 (a 36 (.p (.idxS 4 (t 16) (t 19))), []),
 (b (.e (.store 4 (t 36) (t 29))), []),
 (a 37 (.p (.idxS 4 (t 20) (t 23))), []),
 (b (.e (.store 4 (t 37) (t 35))), [])]))
 (.reg [a 14 (.p (.mv (t 10))),
 a 15 (.p (.bin .add (t 14) (k (.int .i64 1)))),
 a 10 (.p (.mv (t 15)))])))))), []⟩
/-- stoa/keys.size -/
def F_keys_size : AFn := ⟨1, 12, (.seq (.reg [a 2 (.p (.mv (k (.int .i64 0))))])
 (.seq (.seq (.reg [a 3 (.p (.mv (t 0)))])
 (.block 0 (.seq (.reg [a 5 (.p (.bin .eql (t 3) (k (.int .i64 5)))),
 a 4 (.p (.mv (t 5)))])
 (.cond (t 4)
 (.seq (.reg [a 2 (.p (.mv (k (.int .i64 2))))])
 .ret)
 (.seq (.reg [a 7 (.p (.bin .eql (t 3) (k (.int .i64 6)))),
 a 6 (.p (.mv (t 7)))])
 (.cond (t 6)
 (.seq (.reg [a 2 (.p (.mv (k (.int .i64 1))))])
 .ret)
 .skip))))))
 (.seq (.reg [a 8 (.p (.mv (t 0))),
 a 9 (.p (.bin .sub (t 8) (k (.int .i64 1)))),
 a 10 (.p (.conv .u64 (t 9))),
 a 11 (.p (.bin .shl (k (.int .i64 1)) (t 10))),
 a 2 (.p (.mv (t 11)))])
 .ret))), [.tmp 2]⟩
/-- stoa/keys.signed -/
def F_keys_signed : AFn := ⟨1, 5, (.seq (.reg [a 2 (.p (.mv (k (.bool false))))])
 (.seq (.reg [a 3 (.p (.mv (t 0))),
 a 4 (.p (.bin .leq (t 3) (k (.int .i64 4)))),
 a 2 (.p (.mv (t 4)))])
 .ret)), [.tmp 2]⟩
/-- stoa/bits.Unflip -/
def F_bits_Unflip : AFn := ⟨1, 6, (.seq (.reg [a 2 (.p (.mv (k (.int .i64 0))))])
 (.seq (.reg [a 3 (.p (.mv (t 0))),
 a 4 (.p (.bin .xor (t 3) (k (.int .u64 9223372036854775808)))),
 a 5 (.p (.conv .i64 (t 4))),
 a 2 (.p (.mv (t 5)))])
 .ret)), [.tmp 2]⟩
/-- stoa/bits.Narrow -/
def F_bits_Narrow : AFn := ⟨2, 30, (.seq (.reg [a 4 (.p (.mv (k (.int .i64 0)))),
 a 5 (.p (.mv (k (.bool false))))])
 (.seq (.reg [a 6 (.p (.mv (k (.int .i64 0))))])
 (.seq (.seq (.reg [a 7 (.p (.mv (t 1)))])
 (.block 0 (.seq (.reg [a 9 (.p (.bin .eql (t 7) (k (.int .i64 1)))),
 a 8 (.p (.mv (t 9)))])
 (.cond (t 8)
 (.reg [a 10 (.p (.mv (t 0))),
 a 11 (.p (.conv .i8 (t 10))),
 a 12 (.p (.conv .i64 (t 11))),
 a 6 (.p (.mv (t 12)))])
 (.seq (.reg [a 14 (.p (.bin .eql (t 7) (k (.int .i64 2)))),
 a 13 (.p (.mv (t 14)))])
 (.cond (t 13)
 (.reg [a 15 (.p (.mv (t 0))),
 a 16 (.p (.conv .i16 (t 15))),
 a 17 (.p (.conv .i64 (t 16))),
 a 6 (.p (.mv (t 17)))])
 (.seq (.reg [a 19 (.p (.bin .eql (t 7) (k (.int .i64 4)))),
 a 18 (.p (.mv (t 19)))])
 (.cond (t 18)
 (.reg [a 20 (.p (.mv (t 0))),
 a 21 (.p (.conv .i32 (t 20))),
 a 22 (.p (.conv .i64 (t 21))),
 a 6 (.p (.mv (t 22)))])
 (.seq (.reg [a 24 (.p (.bin .eql (t 7) (k (.int .i64 8)))),
 a 23 (.p (.mv (t 24)))])
 (.cond (t 23)
 (.reg [a 25 (.p (.mv (t 0))),
 a 6 (.p (.mv (t 25)))])
 (.seq (.reg [a 4 (.p (.mv (k (.int .i64 0)))),
 a 5 (.p (.mv (k (.bool false))))])
 .ret)))))))))))
 (.seq (.reg [a 26 (.p (.mv (t 6))),
 a 27 (.p (.mv (t 6))),
 a 28 (.p (.mv (t 0))),
 a 29 (.p (.bin .eql (t 27) (t 28))),
 a 4 (.p (.mv (t 26))),
 a 5 (.p (.mv (t 29)))])
 .ret)))), [.tmp 4,.tmp 5]⟩
/-- bytes.ReplaceAll -/
def F_bytes_ReplaceAll : AFn := ⟨3, 11, (.seq (.reg [a 6 (.p (.mv (k .nslc)))])
 (.seq (.reg [a 7 (.p (.mv (t 0))),
 a 8 (.p (.mv (t 1))),
 a 9 (.p (.mv (t 2))),
 a 10 (.call N_bytes_Replace [(t 7),(t 8),(t 9),(k (.int .i64 (-1)))]),
 a 6 (.p (.mv (t 10)))])
 .ret)), [.tmp 6]⟩
/-- stoa/keys.number -/
def F_keys_number : AFn := ⟨2, 43, (.seq (.reg [a 4 (.p (.mv (k .nslc)))])
 (.seq (.reg [a 9 (.p (.mv (t 0))),
 a 10 (.call N_keys_size [(t 9)]),
 a 5 (.p (.mv (t 10)))])
 (.seq (.reg [a 11 (.p (.mv (t 1))),
 a 12 (.p (.conv .u64 (t 11))),
 a 6 (.p (.mv (t 12)))])
 (.seq (.seq (.reg [a 13 (.p (.mv (t 0))),
 a 14 (.call N_keys_signed [(t 13)])])
 (.cond (t 14)
 (.reg [a 15 (.p (.mv (t 1))),
 a 16 (.p (.mv (t 5))),
 a 17 (.p (.bin .mul (k (.int .i64 8)) (t 16))),
 a 18 (.p (.bin .sub (k (.int .i64 64)) (t 17))),
 a 19 (.p (.conv .u64 (t 18))),
 a 20 (.p (.bin .shl (t 15) (t 19))),
 a 21 (.call N_bits_Flip [(t 20)]),
 a 22 (.p (.mv (t 5))),
 a 23 (.p (.bin .mul (k (.int .i64 8)) (t 22))),
 a 24 (.p (.bin .sub (k (.int .i64 64)) (t 23))),
 a 25 (.p (.conv .u64 (t 24))),
 a 26 (.p (.bin .shr (t 21) (t 25))),
 a 6 (.p (.mv (t 26)))])
 .skip))
 (.seq (.reg [a 27 (.p (.mv (t 5))),
 a 28 (.n (.mkslice 1 1 [(.int .u8 0)] (t 27) (t 27))),
 a 7 (.p (.mv (t 28)))])
 (.seq (.seq (.reg [a 29 (.p (.mv (t 5))),
 a 30 (.p (.bin .sub (t 29) (k (.int .i64 1)))),
 a 8 (.p (.mv (t 30)))])
 (.block 0 (.loop (.seq (.seq (.reg [a 31 (.p (.mv (t 8))),
 a 32 (.p (.bin .geq (t 31) (k (.int .i64 0))))])
 (.cond (t 32)
 .skip
 (.exit 0)))
 (.seq (.block 1 (.seq (.reg [a 35 (.p (.mv (t 7))),
 a 36 (.p (.mv (t 8))),
 a 37 (.p (.mv (t 6))),
 a 38 (.p (.conv .u8 (t 37))),
 a 39 (.p (.idxS 1 (t 35) (t 36))),
 b (.e (.store 1 (t 39) (t 38)))])
 (.reg [a 40 (.p (.mv (t 6))),
 a 41 (.p (.bin .shr (t 40) (k (.int .u64 8)))),
 a 6 (.p (.mv (t 41)))])))
 (.reg [a 33 (.p (.mv (t 8))),
 a 34 (.p (.bin .sub (t 33) (k (.int .i64 1)))),
 a 8 (.p (.mv (t 34)))]))))))
 (.seq (.reg [a 42 (.p (.mv (t 7))),
 a 4 (.p (.mv (t 42)))])
 .ret))))))), [.tmp 4]⟩
/-- strings.IndexByte -/
def F_strings_IndexByte : AFn := ⟨2, 8, (.seq (.reg [a 4 (.p (.mv (k (.int .i64 0))))])
 (.seq (.reg [a 5 (.p (.mv (t 0))),
 a 6 (.p (.mv (t 1))),
 a 7 (.call N_internal_stringslite_IndexByte [(t 5),(t 6)]),
 a 4 (.p (.mv (t 7)))])
 .ret)), [.tmp 4]⟩
/-- unicode/utf8.ValidRune -/
def F_unicode_utf8_ValidRune : AFn := ⟨1, 17, (.seq (.reg [a 2 (.p (.mv (k (.bool false))))])
 (.seq (.block 0 (.seq (.reg [a 4 (.p (.mv (t 0))),
 a 5 (.p (.bin .leq (k (.int .i32 0)) (t 4))),
 a 6 (.p (.mv (t 5))),
 c 7 (.p (.mv (t 0))) 6 true,
 c 8 (.p (.bin .lss (t 7) (k (.int .i32 55296)))) 6 true,
 a 9 (.p (.sel (t 6) (t 8) (k (.bool false)))),
 a 3 (.p (.mv (t 9)))])
 (.cond (t 3)
 (.seq (.reg [a 2 (.p (.mv (k (.bool true))))])
 .ret)
 (.seq (.reg [a 11 (.p (.mv (t 0))),
 a 12 (.p (.bin .lss (k (.int .i32 57343)) (t 11))),
 a 13 (.p (.mv (t 12))),
 c 14 (.p (.mv (t 0))) 13 true,
 c 15 (.p (.bin .leq (t 14) (k (.int .i32 1114111)))) 13 true,
 a 16 (.p (.sel (t 13) (t 15) (k (.bool false)))),
 a 10 (.p (.mv (t 16)))])
 (.cond (t 10)
 (.seq (.reg [a 2 (.p (.mv (k (.bool true))))])
 .ret)
 .skip)))))
 (.seq (.reg [a 2 (.p (.mv (k (.bool false))))])
 .ret))), [.tmp 2]⟩
/-- internal/bytealg.Cutover -/
def F_internal_bytealg_Cutover : AFn := ⟨1, 6, (.seq (.reg [a 2 (.p (.mv (k (.int .i64 0))))])
 (.seq (.reg [a 3 (.p (.mv (t 0))),
 a 4 (.p (.bin .add (t 3) (k (.int .i64 16)))),
 a 5 (.p (.bin .quo (t 4) (k (.int .i64 8)))),
 a 2 (.p (.mv (t 5)))])
 .ret)), [.tmp 2]⟩
/-- bytes.Replace -/
def F_bytes_Replace : AFn := ⟨4, 132, (.seq (.reg [a 8 (.p (.mv (k .nslc)))])
 (.seq (.reg [a 9 (.p (.mv (k (.int .i64 0))))])
 (.seq (.seq (.reg [a 17 (.p (.mv (t 3))),
 a 18 (.p (.bin .neq (t 17) (k (.int .i64 0))))])
 (.cond (t 18)
 (.reg [a 19 (.p (.mv (t 0))),
 a 20 (.p (.mv (t 1))),
 a 21 (.call N_bytes_Count [(t 19),(t 20)]),
 a 9 (.p (.mv (t 21)))])
 .skip))
 (.seq (.seq (.reg [a 22 (.p (.mv (t 9))),
 a 23 (.p (.bin .eql (t 22) (k (.int .i64 0))))])
 (.cond (t 23)
 (.seq (.reg [a 24 (.p (.mv (t 0))),
 a 25 (.e (.append 1 1 (k .nslc) (t 24))),
 a 8 (.p (.mv (t 25)))])
 .ret)
 .skip))
 (.seq (.seq (.reg [a 26 (.p (.mv (t 3))),
 a 27 (.p (.bin .lss (t 26) (k (.int .i64 0)))),
 a 28 (.p (.mv (t 27))),
 c 29 (.p (.mv (t 9))) 28 false,
 c 30 (.p (.mv (t 3))) 28 false,
 c 31 (.p (.bin .lss (t 29) (t 30))) 28 false,
 a 32 (.p (.sel (t 28) (k (.bool true)) (t 31)))])
 (.cond (t 32)
 (.reg [a 33 (.p (.mv (t 9))),
 a 3 (.p (.mv (t 33)))])
 .skip))
 (.seq (.reg [a 34 (.p (.mv (t 0))),
 a 35 (.p (.len false (t 34))),
 a 36 (.p (.mv (t 3))),
 a 37 (.p (.mv (t 2))),
 a 38 (.p (.len false (t 37))),
 a 39 (.p (.mv (t 1))),
 a 40 (.p (.len false (t 39))),
 a 41 (.p (.bin .sub (t 38) (t 40))),
 a 42 (.p (.bin .mul (t 36) (t 41))),
 a 43 (.p (.bin .add (t 35) (t 42))),
 a 44 (.n (.mkslice 1 1 [(.int .u8 0)] (t 43) (t 43))),
 a 10 (.p (.mv (t 44)))])
 (.seq (.reg [a 11 (.p (.mv (k (.int .i64 0))))])
 (.seq (.reg [a 12 (.p (.mv (k (.int .i64 0))))])
 (.seq (.seq (.reg [a 45 (.p (.mv (t 1))),
 a 46 (.p (.len false (t 45))),
 a 47 (.p (.bin .gtr (t 46) (k (.int .i64 0))))])
 (.cond (t 47)
 (.seq (.reg [a 48 (.p (.mv (t 3))),
 a 49 (.p (.mv (k (.int .i64 0))))])
 (.block 0 (.loop (.seq (.reg [a 50 (.p (.bin .lss (t 49) (t 48)))])
 (.seq (.cond (t 50)
 .skip
 (.exit 0))
 (.seq (.block 1 (.seq (.reg [a 51 (.p (.mv (t 12))),
 a 52 (.p (.mv (t 0))),
 a 53 (.p (.mv (t 12))),
 a 54 (.p (.slcS 1 (t 52) (some (t 53)) none none)),
 a 55 (.p (.mv (t 1))),
 a 56 (.call N_bytes_Index [(t 54),(t 55)]),
 a 57 (.p (.bin .add (t 51) (t 56))),
 a 13 (.p (.mv (t 57)))])
 (.seq (.dreg [(a 58 (.p (.mv (t 11))), []),
 (a 59 (.p (.mv (t 10))), []),
 (a 60 (.p (.mv (t 11))), []),
 (a 61 (.p (.slcS 1 (t 59) (some (t 60)) none none)), []),
 (a 62 (.p (.mv (t 0))), []),
 (a 63 (.p (.mv (t 12))), []),
 (a 64 (.p (.mv (t 13))), []),
 (a 65 (.p (.slcS 1 (t 62) (some (t 63)) (some (t 64)) none)), []),
 (a 66 (.e (.copy 1 (t 61) (t 65))), []),
 (a 67 (.p (.bin .add (t 58) (t 66))), []),
 (a 11 (.p (.mv (t 67))), [])])
 (.seq (.reg [a 68 (.p (.mv (t 11))),
 a 69 (.p (.mv (t 10))),
 a 70 (.p (.mv (t 11))),
 a 71 (.p (.slcS 1 (t 69) (some (t 70)) none none)),
 a 72 (.p (.mv (t 2))),
 a 73 (.e (.copy 1 (t 71) (t 72))),
 a 74 (.p (.bin .add (t 68) (t 73))),
 a 11 (.p (.mv (t 74)))])
 (.reg [a 75 (.p (.mv (t 13))),
 a 76 (.p (.mv (t 1))),
 a 77 (.p (.len false (t 76))),
 a 78 (.p (.bin .add (t 75) (t 77))),
 a 12 (.p (.mv (t 78)))])))))
 (.reg [a 79 (.p (.bin .add (t 49) (k (.int .i64 1)))),
 a 49 (.p (.mv (t 79)))])))))))
 (.seq (.reg [a 80 (.p (.mv (t 11))),
 a 81 (.p (.mv (t 10))),
 a 82 (.p (.mv (t 11))),
 a 83 (.p (.slcS 1 (t 81) (some (t 82)) none none)),
 a 84 (.p (.mv (t 2))),
 a 85 (.e (.copy 1 (t 83) (t 84))),
 a 86 (.p (.bin .add (t 80) (t 85))),
 a 11 (.p (.mv (t 86)))])
 (.seq (.reg [a 87 (.p (.mv (t 3))),
 a 88 (.p (.bin .sub (t 87) (k (.int .i64 1)))),
 a 89 (.p (.mv (k (.int .i64 0))))])
 (.block 2 (.loop (.seq (.reg [a 90 (.p (.bin .lss (t 89) (t 88)))])
 (.seq (.cond (t 90)
 .skip
 (.exit 2))
 (.seq (.block 3 (.seq (.reg [a 92 (.p (.mv (t 0))),
 a 93 (.p (.mv (t 12))),
 a 94 (.p (.slcS 1 (t 92) (some (t 93)) none none)),
 a 95 (.call N_unicode_utf8_DecodeRune [(t 94)]),
 a 91 (.p (.mv (t 95))),
 a 96 (.p (.extract (t 91) 0)),
 a 97 (.p (.extract (t 91) 1)),
 a 14 (.p (.mv (t 96))),
 a 15 (.p (.mv (t 97)))])
 (.seq (.reg [a 98 (.p (.mv (t 12))),
 a 99 (.p (.mv (t 15))),
 a 100 (.p (.bin .add (t 98) (t 99))),
 a 16 (.p (.mv (t 100)))])
 (.seq (.dreg [(a 101 (.p (.mv (t 11))), []),
 (a 102 (.p (.mv (t 10))), []),
 (a 103 (.p (.mv (t 11))), []),
 (a 104 (.p (.slcS 1 (t 102) (some (t 103)) none none)), []),
 (a 105 (.p (.mv (t 0))), []),
 (a 106 (.p (.mv (t 12))), []),
 (a 107 (.p (.mv (t 16))), []),
 (a 108 (.p (.slcS 1 (t 105) (some (t 106)) (some (t 107)) none)), []),
 (a 109 (.e (.copy 1 (t 104) (t 108))), []),
 (a 110 (.p (.bin .add (t 101) (t 109))), []),
 (a 11 (.p (.mv (t 110))), [])])
 (.seq (.reg [a 111 (.p (.mv (t 11))),
 a 112 (.p (.mv (t 10))),
 a 113 (.p (.mv (t 11))),
 a 114 (.p (.slcS 1 (t 112) (some (t 113)) none none)),
 a 115 (.p (.mv (t 2))),
 a 116 (.e (.copy 1 (t 114) (t 115))),
 a 117 (.p (.bin .add (t 111) (t 116))),
 a 11 (.p (.mv (t 117)))])
 (.reg [a 118 (.p (.mv (t 16))),
 a 12 (.p (.mv (t 118)))]))))))
 (.reg [a 119 (.p (.bin .add (t 89) (k (.int .i64 1)))),
 a 89 (.p (.mv (t 119)))]))))))))))
 (.seq (.dreg [(a 120 (.p (.mv (t 11))), []),
 (a 121 (.p (.mv (t 10))), []),
 (a 122 (.p (.mv (t 11))), []),
 (a 123 (.p (.slcS 1 (t 121) (some (t 122)) none none)), []),
 (a 124 (.p (.mv (t 0))), []),
 (a 125 (.p (.mv (t 12))), []),
 (a 126 (.p (.slcS 1 (t 124) (some (t 125)) none none)), []),
 (a 127 (.e (.copy 1 (t 123) (t 126))), []),
 (a 128 (.p (.bin .add (t 120) (t 127))), []),
 (a 11 (.p (.mv (t 128))), [])])
 (.seq (.reg [a 129 (.p (.mv (t 10))),
 a 130 (.p (.mv (t 11))),
 a 131 (.p (.slcS 1 (t 129) (some (k (.int .i64 0))) (some (t 130)) none)),
 a 8 (.p (.mv (t 131)))])
 .ret))))))))))), [.tmp 8]⟩
/-- stoa/bits.Flip -/
def F_bits_Flip : AFn := ⟨1, 6, (.seq (.reg [a 2 (.p (.mv (k (.int .u64 0))))])
 (.seq (.reg [a 3 (.p (.mv (t 0))),
 a 4 (.p (.conv .u64 (t 3))),
 a 5 (.p (.bin .xor (t 4) (k (.int .u64 9223372036854775808)))),
 a 2 (.p (.mv (t 5)))])
 .ret)), [.tmp 2]⟩
/-- internal/stringslite.IndexByte -/
def F_internal_stringslite_IndexByte : AFn := ⟨2, 8, (.seq (.reg [a 4 (.p (.mv (k (.int .i64 0))))])
 (.seq (.reg [a 5 (.p (.mv (t 0))),
 a 6 (.p (.mv (t 1))),
 a 7 (.r (.bidx (t 5) (t 6))),
 a 4 (.p (.mv (t 7)))])
 .ret)), [.tmp 4]⟩
/-- bytes.Count -/
def F_bytes_Count : AFn := ⟨2, 35, (.seq (.reg [a 4 (.p (.mv (k (.int .i64 0))))])
 (.seq (.seq (.reg [a 7 (.p (.mv (t 1))),
 a 8 (.p (.len false (t 7))),
 a 9 (.p (.bin .eql (t 8) (k (.int .i64 0))))])
 (.cond (t 9)
 (.seq (.reg [a 10 (.p (.mv (t 0))),
 a 11 (.call N_unicode_utf8_RuneCount [(t 10)]),
 a 12 (.p (.bin .add (t 11) (k (.int .i64 1)))),
 a 4 (.p (.mv (t 12)))])
 .ret)
 .skip))
 (.seq (.seq (.reg [a 13 (.p (.mv (t 1))),
 a 14 (.p (.len false (t 13))),
 a 15 (.p (.bin .eql (t 14) (k (.int .i64 1))))])
 (.cond (t 15)
 (.seq (.reg [a 16 (.p (.mv (t 0))),
 a 17 (.p (.mv (t 1))),
 a 18 (.p (.idxS 1 (t 17) (k (.int .i64 0)))),
 a 19 (.r (.load none (t 18))),
 a 20 .bad,
 a 4 (.p (.mv (t 20)))])
 .ret)
 .skip))
 (.seq (.reg [a 5 (.p (.mv (k (.int .i64 0))))])
 (.block 0 (.loop (.block 1 (.seq (.reg [a 21 (.p (.mv (t 0))),
 a 22 (.p (.mv (t 1))),
 a 23 (.call N_bytes_Index [(t 21),(t 22)]),
 a 6 (.p (.mv (t 23)))])
 (.seq (.seq (.reg [a 24 (.p (.mv (t 6))),
 a 25 (.p (.bin .eql (t 24) (k (.int .i64 (-1)))))])
 (.cond (t 25)
 (.seq (.reg [a 26 (.p (.mv (t 5))),
 a 4 (.p (.mv (t 26)))])
 .ret)
 .skip))
 (.seq (.reg [a 27 (.p (.mv (t 5))),
 a 28 (.p (.bin .add (t 27) (k (.int .i64 1)))),
 a 5 (.p (.mv (t 28)))])
 (.reg [a 29 (.p (.mv (t 0))),
 a 30 (.p (.mv (t 6))),
 a 31 (.p (.mv (t 1))),
 a 32 (.p (.len false (t 31))),
 a 33 (.p (.bin .add (t 30) (t 32))),
 a 34 (.p (.slcS 1 (t 29) (some (t 33)) none none)),
 a 0 (.p (.mv (t 34)))]))))))))))), [.tmp 4]⟩
/-- bytes.Index -/
def F_bytes_Index : AFn := ⟨2, 200, (.seq (.reg [a 4 (.p (.mv (k (.int .i64 0))))])
 (.seq (.reg [a 20 (.p (.mv (t 1))),
 a 21 (.p (.len false (t 20))),
 a 5 (.p (.mv (t 21)))])
 (.seq (.block 0 (.seq (.reg [a 23 (.p (.mv (t 5))),
 a 24 (.p (.bin .eql (t 23) (k (.int .i64 0)))),
 a 22 (.p (.mv (t 24)))])
 (.cond (t 22)
 (.seq (.reg [a 4 (.p (.mv (k (.int .i64 0))))])
 .ret)
 (.seq (.reg [a 26 (.p (.mv (t 5))),
 a 27 (.p (.bin .eql (t 26) (k (.int .i64 1)))),
 a 25 (.p (.mv (t 27)))])
 (.cond (t 25)
 (.seq (.reg [a 28 (.p (.mv (t 0))),
 a 29 (.p (.mv (t 1))),
 a 30 (.p (.idxS 1 (t 29) (k (.int .i64 0)))),
 a 31 (.r (.load none (t 30))),
 a 32 (.call N_bytes_IndexByte [(t 28),(t 31)]),
 a 4 (.p (.mv (t 32)))])
 .ret)
 (.seq (.reg [a 34 (.p (.mv (t 5))),
 a 35 (.p (.mv (t 0))),
 a 36 (.p (.len false (t 35))),
 a 37 (.p (.bin .eql (t 34) (t 36))),
 a 33 (.p (.mv (t 37)))])
 (.cond (t 33)
 (.seq (.seq (.reg [a 38 (.p (.mv (t 1))),
 a 39 (.p (.mv (t 0))),
 a 40 (.call N_bytes_Equal [(t 38),(t 39)])])
 (.cond (t 40)
 (.seq (.reg [a 4 (.p (.mv (k (.int .i64 0))))])
 .ret)
 .skip))
 (.seq (.reg [a 4 (.p (.mv (k (.int .i64 (-1)))))])
 .ret))
 (.seq (.reg [a 42 (.p (.mv (t 5))),
 a 43 (.p (.mv (t 0))),
 a 44 (.p (.len false (t 43))),
 a 45 (.p (.bin .gtr (t 42) (t 44))),
 a 41 (.p (.mv (t 45)))])
 (.cond (t 41)
 (.seq (.reg [a 4 (.p (.mv (k (.int .i64 (-1)))))])
 .ret)
 (.seq (.reg [a 47 (.p (.mv (t 5))),
 a 48 .bad,
 a 49 (.p (.bin .leq (t 47) (t 48))),
 a 46 (.p (.mv (t 49)))])
 (.cond (t 46)
 (.seq (.seq (.reg [a 50 (.p (.mv (t 0))),
 a 51 (.p (.len false (t 50))),
 a 52 (.p (.bin .leq (t 51) (k (.int .i64 64))))])
 (.cond (t 52)
 (.seq (.reg [a 53 (.p (.mv (t 0))),
 a 54 (.p (.mv (t 1))),
 a 55 .bad,
 a 4 (.p (.mv (t 55)))])
 .ret)
 .skip))
 (.seq (.reg [a 56 (.p (.mv (t 1))),
 a 57 (.p (.idxS 1 (t 56) (k (.int .i64 0)))),
 a 58 (.r (.load none (t 57))),
 a 6 (.p (.mv (t 58)))])
 (.seq (.reg [a 59 (.p (.mv (t 1))),
 a 60 (.p (.idxS 1 (t 59) (k (.int .i64 1)))),
 a 61 (.r (.load none (t 60))),
 a 7 (.p (.mv (t 61)))])
 (.seq (.reg [a 8 (.p (.mv (k (.int .i64 0))))])
 (.seq (.reg [a 62 (.p (.mv (t 0))),
 a 63 (.p (.len false (t 62))),
 a 64 (.p (.mv (t 5))),
 a 65 (.p (.bin .sub (t 63) (t 64))),
 a 66 (.p (.bin .add (t 65) (k (.int .i64 1)))),
 a 9 (.p (.mv (t 66)))])
 (.seq (.reg [a 10 (.p (.mv (k (.int .i64 0))))])
 (.seq (.block 1 (.loop (.seq (.seq (.reg [a 67 (.p (.mv (t 8))),
 a 68 (.p (.mv (t 9))),
 a 69 (.p (.bin .lss (t 67) (t 68)))])
 (.cond (t 69)
 .skip
 (.exit 1)))
 (.block 2 (.seq (.seq (.reg [a 70 (.p (.mv (t 0))),
 a 71 (.p (.mv (t 8))),
 a 72 (.p (.idxS 1 (t 70) (t 71))),
 a 73 (.r (.load none (t 72))),
 a 74 (.p (.mv (t 6))),
 a 75 (.p (.bin .neq (t 73) (t 74)))])
 (.cond (t 75)
 (.seq (.reg [a 76 (.p (.mv (t 0))),
 a 77 (.p (.mv (t 8))),
 a 78 (.p (.bin .add (t 77) (k (.int .i64 1)))),
 a 79 (.p (.mv (t 9))),
 a 80 (.p (.slcS 1 (t 76) (some (t 78)) (some (t 79)) none)),
 a 81 (.p (.mv (t 6))),
 a 82 (.call N_bytes_IndexByte [(t 80),(t 81)]),
 a 11 (.p (.mv (t 82)))])
 (.seq (.seq (.reg [a 83 (.p (.mv (t 11))),
 a 84 (.p (.bin .lss (t 83) (k (.int .i64 0))))])
 (.cond (t 84)
 (.seq (.reg [a 4 (.p (.mv (k (.int .i64 (-1)))))])
 .ret)
 .skip))
 (.reg [a 85 (.p (.mv (t 8))),
 a 86 (.p (.mv (t 11))),
 a 87 (.p (.bin .add (t 86) (k (.int .i64 1)))),
 a 88 (.p (.bin .add (t 85) (t 87))),
 a 8 (.p (.mv (t 88)))])))
 .skip))
 (.seq (.seq (.reg [a 89 (.p (.mv (t 0))),
 a 90 (.p (.mv (t 8))),
 a 91 (.p (.bin .add (t 90) (k (.int .i64 1)))),
 a 92 (.p (.idxS 1 (t 89) (t 91))),
 a 93 (.r (.load none (t 92))),
 a 94 (.p (.mv (t 7))),
 a 95 (.p (.bin .eql (t 93) (t 94))),
 a 96 (.p (.mv (t 95))),
 c 97 (.p (.mv (t 0))) 96 true,
 c 98 (.p (.mv (t 8))) 96 true,
 c 99 (.p (.mv (t 8))) 96 true,
 c 100 (.p (.mv (t 5))) 96 true,
 c 101 (.p (.bin .add (t 99) (t 100))) 96 true,
 c 102 (.p (.slcS 1 (t 97) (some (t 98)) (some (t 101)) none)) 96 true,
 c 103 (.p (.mv (t 1))) 96 true,
 c 104 (.call N_bytes_Equal [(t 102),(t 103)]) 96 true,
 a 105 (.p (.sel (t 96) (t 104) (k (.bool false))))])
 (.cond (t 105)
 (.seq (.reg [a 106 (.p (.mv (t 8))),
 a 4 (.p (.mv (t 106)))])
 .ret)
 .skip))
 (.seq (.reg [a 107 (.p (.mv (t 10))),
 a 108 (.p (.bin .add (t 107) (k (.int .i64 1)))),
 a 10 (.p (.mv (t 108)))])
 (.seq (.reg [a 109 (.p (.mv (t 8))),
 a 110 (.p (.bin .add (t 109) (k (.int .i64 1)))),
 a 8 (.p (.mv (t 110)))])
 (.seq (.reg [a 111 (.p (.mv (t 10))),
 a 112 (.p (.mv (t 8))),
 a 113 (.call N_internal_bytealg_Cutover [(t 112)]),
 a 114 (.p (.bin .gtr (t 111) (t 113)))])
 (.cond (t 114)
 (.seq (.reg [a 115 (.p (.mv (t 0))),
 a 116 (.p (.mv (t 8))),
 a 117 (.p (.slcS 1 (t 115) (some (t 116)) none none)),
 a 118 (.p (.mv (t 1))),
 a 119 .bad,
 a 12 (.p (.mv (t 119)))])
 (.seq (.seq (.reg [a 120 (.p (.mv (t 12))),
 a 121 (.p (.bin .geq (t 120) (k (.int .i64 0))))])
 (.cond (t 121)
 (.seq (.reg [a 122 (.p (.mv (t 12))),
 a 123 (.p (.mv (t 8))),
 a 124 (.p (.bin .add (t 122) (t 123))),
 a 4 (.p (.mv (t 124)))])
 .ret)
 .skip))
 (.seq (.reg [a 4 (.p (.mv (k (.int .i64 (-1)))))])
 .ret)))
 .skip))))))))))
 (.seq (.reg [a 4 (.p (.mv (k (.int .i64 (-1)))))])
 .ret))))))))
 .skip)))))))))))
 (.seq (.reg [a 125 (.p (.mv (t 1))),
 a 126 (.p (.idxS 1 (t 125) (k (.int .i64 0)))),
 a 127 (.r (.load none (t 126))),
 a 13 (.p (.mv (t 127)))])
 (.seq (.reg [a 128 (.p (.mv (t 1))),
 a 129 (.p (.idxS 1 (t 128) (k (.int .i64 1)))),
 a 130 (.r (.load none (t 129))),
 a 14 (.p (.mv (t 130)))])
 (.seq (.reg [a 15 (.p (.mv (k (.int .i64 0))))])
 (.seq (.reg [a 16 (.p (.mv (k (.int .i64 0))))])
 (.seq (.reg [a 131 (.p (.mv (t 0))),
 a 132 (.p (.len false (t 131))),
 a 133 (.p (.mv (t 5))),
 a 134 (.p (.bin .sub (t 132) (t 133))),
 a 135 (.p (.bin .add (t 134) (k (.int .i64 1)))),
 a 17 (.p (.mv (t 135)))])
 (.seq (.block 3 (.loop (.seq (.seq (.reg [a 136 (.p (.mv (t 15))),
 a 137 (.p (.mv (t 17))),
 a 138 (.p (.bin .lss (t 136) (t 137)))])
 (.cond (t 138)
 .skip
 (.exit 3)))
 (.block 4 (.seq (.seq (.reg [a 139 (.p (.mv (t 0))),
 a 140 (.p (.mv (t 15))),
 a 141 (.p (.idxS 1 (t 139) (t 140))),
 a 142 (.r (.load none (t 141))),
 a 143 (.p (.mv (t 13))),
 a 144 (.p (.bin .neq (t 142) (t 143)))])
 (.cond (t 144)
 (.seq (.reg [a 145 (.p (.mv (t 0))),
 a 146 (.p (.mv (t 15))),
 a 147 (.p (.bin .add (t 146) (k (.int .i64 1)))),
 a 148 (.p (.mv (t 17))),
 a 149 (.p (.slcS 1 (t 145) (some (t 147)) (some (t 148)) none)),
 a 150 (.p (.mv (t 13))),
 a 151 (.call N_bytes_IndexByte [(t 149),(t 150)]),
 a 18 (.p (.mv (t 151)))])
 (.seq (.seq (.reg [a 152 (.p (.mv (t 18))),
 a 153 (.p (.bin .lss (t 152) (k (.int .i64 0))))])
 (.cond (t 153)
 (.exit 3)
 .skip))
 (.reg [a 154 (.p (.mv (t 15))),
 a 155 (.p (.mv (t 18))),
 a 156 (.p (.bin .add (t 155) (k (.int .i64 1)))),
 a 157 (.p (.bin .add (t 154) (t 156))),
 a 15 (.p (.mv (t 157)))])))
 .skip))
 (.seq (.seq (.reg [a 158 (.p (.mv (t 0))),
 a 159 (.p (.mv (t 15))),
 a 160 (.p (.bin .add (t 159) (k (.int .i64 1)))),
 a 161 (.p (.idxS 1 (t 158) (t 160))),
 a 162 (.r (.load none (t 161))),
 a 163 (.p (.mv (t 14))),
 a 164 (.p (.bin .eql (t 162) (t 163))),
 a 165 (.p (.mv (t 164))),
 c 166 (.p (.mv (t 0))) 165 true,
 c 167 (.p (.mv (t 15))) 165 true,
 c 168 (.p (.mv (t 15))) 165 true,
 c 169 (.p (.mv (t 5))) 165 true,
 c 170 (.p (.bin .add (t 168) (t 169))) 165 true,
 c 171 (.p (.slcS 1 (t 166) (some (t 167)) (some (t 170)) none)) 165 true,
 c 172 (.p (.mv (t 1))) 165 true,
 c 173 (.call N_bytes_Equal [(t 171),(t 172)]) 165 true,
 a 174 (.p (.sel (t 165) (t 173) (k (.bool false))))])
 (.cond (t 174)
 (.seq (.reg [a 175 (.p (.mv (t 15))),
 a 4 (.p (.mv (t 175)))])
 .ret)
 .skip))
 (.seq (.reg [a 176 (.p (.mv (t 15))),
 a 177 (.p (.bin .add (t 176) (k (.int .i64 1)))),
 a 15 (.p (.mv (t 177)))])
 (.seq (.reg [a 178 (.p (.mv (t 16))),
 a 179 (.p (.bin .add (t 178) (k (.int .i64 1)))),
 a 16 (.p (.mv (t 179)))])
 (.seq (.reg [a 180 (.p (.mv (t 16))),
 a 181 (.p (.mv (t 15))),
 a 182 (.p (.bin .shr (t 181) (k (.int .u64 4)))),
 a 183 (.p (.bin .add (k (.int .i64 4)) (t 182))),
 a 184 (.p (.bin .geq (t 180) (t 183))),
 a 185 (.p (.mv (t 184))),
 c 186 (.p (.mv (t 15))) 185 true,
 c 187 (.p (.mv (t 17))) 185 true,
 c 188 (.p (.bin .lss (t 186) (t 187))) 185 true,
 a 189 (.p (.sel (t 185) (t 188) (k (.bool false))))])
 (.cond (t 189)
 (.seq (.reg [a 190 (.p (.mv (t 0))),
 a 191 (.p (.mv (t 15))),
 a 192 (.p (.slcS 1 (t 190) (some (t 191)) none none)),
 a 193 (.p (.mv (t 1))),
 a 194 (.call N_internal_bytealg_IndexRabinKarp_byte [(t 192),(t 193)]),
 a 19 (.p (.mv (t 194)))])
 (.seq (.seq (.reg [a 195 (.p (.mv (t 19))),
 a 196 (.p (.bin .lss (t 195) (k (.int .i64 0))))])
 (.cond (t 196)
 (.seq (.reg [a 4 (.p (.mv (k (.int .i64 (-1)))))])
 .ret)
 .skip))
 (.seq (.reg [a 197 (.p (.mv (t 15))),
 a 198 (.p (.mv (t 19))),
 a 199 (.p (.bin .add (t 197) (t 198))),
 a 4 (.p (.mv (t 199)))])
 .ret)))
 .skip))))))))))
 (.seq (.reg [a 4 (.p (.mv (k (.int .i64 (-1)))))])
 .ret)))))))))), [.tmp 4]⟩
/-- unicode/utf8.DecodeRune -/
def F_unicode_utf8_DecodeRune : AFn := ⟨1, 22, (.seq (.reg [a 2 (.p (.mv (k (.int .i32 0)))),
 a 3 (.p (.mv (k (.int .i64 0))))])
 (.seq (.seq (.reg [a 6 (.p (.mv (t 0))),
 a 7 (.p (.len false (t 6))),
 a 8 (.p (.mv (k (.int .i64 0))))])
 (.block 0 (.loop (.seq (.reg [a 9 (.p (.bin .lss (t 8) (t 7)))])
 (.seq (.cond (t 9)
 .skip
 (.exit 0))
 (.seq (.block 1 (.seq (.reg [a 10 (.p (.idxS 1 (t 6) (t 8))),
 a 11 (.r (.load none (t 10))),
 a 5 (.p (.mv (t 11)))])
 (.seq (.seq (.reg [a 12 (.p (.mv (t 5))),
 a 13 (.p (.bin .lss (t 12) (k (.int .u8 128))))])
 (.cond (t 13)
 (.seq (.reg [a 14 (.p (.mv (t 5))),
 a 15 (.p (.conv .i32 (t 14))),
 a 2 (.p (.mv (t 15))),
 a 3 (.p (.mv (k (.int .i64 1))))])
 .ret)
 .skip))
 (.exit 0))))
 (.reg [a 16 (.p (.bin .add (t 8) (k (.int .i64 1)))),
 a 8 (.p (.mv (t 16)))])))))))
 (.seq (.reg [a 18 (.p (.mv (t 0))),
 a 19 (.call N_unicode_utf8_decodeRuneSlow [(t 18)]),
 a 17 (.p (.mv (t 19))),
 a 20 (.p (.extract (t 17) 0)),
 a 21 (.p (.extract (t 17) 1)),
 a 2 (.p (.mv (t 20))),
 a 3 (.p (.mv (t 21)))])
 .ret))), [.tmp 2,.tmp 3]⟩
/-- unicode/utf8.RuneCount -/
def F_unicode_utf8_RuneCount : AFn := ⟨1, 27, (.seq (.reg [a 2 (.p (.mv (k (.int .i64 0))))])
 (.seq (.reg [a 6 (.p (.mv (t 0))),
 a 7 (.p (.len false (t 6))),
 a 3 (.p (.mv (t 7)))])
 (.seq (.reg [a 4 (.p (.mv (k (.int .i64 0))))])
 (.seq (.block 0 (.loop (.seq (.seq (.reg [a 8 (.p (.mv (t 4))),
 a 9 (.p (.mv (t 3))),
 a 10 (.p (.bin .lss (t 8) (t 9)))])
 (.cond (t 10)
 .skip
 (.exit 0)))
 (.seq (.block 1 (.seq (.reg [a 13 (.p (.mv (t 0))),
 a 14 (.p (.mv (t 4))),
 a 15 (.p (.idxS 1 (t 13) (t 14))),
 a 16 (.r (.load none (t 15))),
 a 5 (.p (.mv (t 16)))])
 (.seq (.reg [a 17 (.p (.mv (t 5))),
 a 18 (.p (.bin .geq (t 17) (k (.int .u8 128))))])
 (.cond (t 18)
 (.seq (.reg [a 19 (.p (.mv (t 4))),
 a 20 (.p (.mv (t 0))),
 a 21 (.p (.mv (t 4))),
 a 22 (.p (.slcS 1 (t 20) (some (t 21)) none none)),
 a 23 (.r (.b2s (t 22))),
 a 24 (.call N_unicode_utf8_RuneCountInString [(t 23)]),
 a 25 (.p (.bin .add (t 19) (t 24))),
 a 2 (.p (.mv (t 25)))])
 .ret)
 .skip))))
 (.reg [a 11 (.p (.mv (t 4))),
 a 12 (.p (.bin .add (t 11) (k (.int .i64 1)))),
 a 4 (.p (.mv (t 12)))])))))
 (.seq (.reg [a 26 (.p (.mv (t 4))),
 a 2 (.p (.mv (t 26)))])
 .ret))))), [.tmp 2]⟩
/-- internal/bytealg.IndexRabinKarp(()byte) -/
def F_internal_bytealg_IndexRabinKarp_byte : AFn := ⟨2, 88, (.seq (.reg [a 4 (.p (.mv (k (.int .i64 0))))])
 (.seq (.reg [a 12 (.p (.mv (t 1))),
 a 13 (.call N_internal_bytealg_hashStr_byte [(t 12)]),
 a 11 (.p (.mv (t 13))),
 a 14 (.p (.extract (t 11) 0)),
 a 15 (.p (.extract (t 11) 1)),
 a 5 (.p (.mv (t 14))),
 a 6 (.p (.mv (t 15)))])
 (.seq (.reg [a 16 (.p (.mv (t 1))),
 a 17 (.p (.len false (t 16))),
 a 7 (.p (.mv (t 17)))])
 (.seq (.reg [a 8 (.p (.mv (k (.int .u32 0))))])
 (.seq (.seq (.reg [a 9 (.p (.mv (k (.int .i64 0))))])
 (.block 0 (.loop (.seq (.seq (.reg [a 18 (.p (.mv (t 9))),
 a 19 (.p (.mv (t 7))),
 a 20 (.p (.bin .lss (t 18) (t 19)))])
 (.cond (t 20)
 .skip
 (.exit 0)))
 (.seq (.block 1 (.reg [a 23 (.p (.mv (t 8))),
 a 24 (.p (.bin .mul (t 23) (k (.int .u32 16777619)))),
 a 25 (.p (.mv (t 0))),
 a 26 (.p (.mv (t 9))),
 a 27 (.p (.idxS 1 (t 25) (t 26))),
 a 28 (.r (.load none (t 27))),
 a 29 (.p (.conv .u32 (t 28))),
 a 30 (.p (.bin .add (t 24) (t 29))),
 a 8 (.p (.mv (t 30)))]))
 (.reg [a 21 (.p (.mv (t 9))),
 a 22 (.p (.bin .add (t 21) (k (.int .i64 1)))),
 a 9 (.p (.mv (t 22)))]))))))
 (.seq (.seq (.dreg [(a 31 (.p (.mv (t 8))), []),
 (a 32 (.p (.mv (t 5))), []),
 (a 33 (.p (.bin .eql (t 31) (t 32))), []),
 (a 34 (.p (.mv (t 33))), []),
 (c 35 (.p (.mv (t 0))) 34 true, []),
 (c 36 (.p (.mv (t 7))) 34 true, []),
 (c 37 (.p (.slcS 1 (t 35) none (some (t 36)) none)) 34 true, []),
 (c 38 (.r (.b2s (t 37))) 34 true, []),
 (c 39 (.p (.mv (t 1))) 34 true, []),
 (c 40 (.r (.b2s (t 39))) 34 true, []),
 (c 41 (.p (.bin .eql (t 38) (t 40))) 34 true, []),
 (a 42 (.p (.sel (t 34) (t 41) (k (.bool false)))), [])])
 (.cond (t 42)
 (.seq (.reg [a 4 (.p (.mv (k (.int .i64 0))))])
 .ret)
 .skip))
 (.seq (.seq (.reg [a 43 (.p (.mv (t 7))),
 a 10 (.p (.mv (t 43)))])
 (.block 2 (.loop (.seq (.seq (.reg [a 44 (.p (.mv (t 10))),
 a 45 (.p (.mv (t 0))),
 a 46 (.p (.len false (t 45))),
 a 47 (.p (.bin .lss (t 44) (t 46)))])
 (.cond (t 47)
 .skip
 (.exit 2)))
 (.block 3 (.seq (.reg [a 48 (.p (.mv (t 8))),
 a 49 (.p (.bin .mul (t 48) (k (.int .u32 16777619)))),
 a 8 (.p (.mv (t 49)))])
 (.seq (.reg [a 50 (.p (.mv (t 8))),
 a 51 (.p (.mv (t 0))),
 a 52 (.p (.mv (t 10))),
 a 53 (.p (.idxS 1 (t 51) (t 52))),
 a 54 (.r (.load none (t 53))),
 a 55 (.p (.conv .u32 (t 54))),
 a 56 (.p (.bin .add (t 50) (t 55))),
 a 8 (.p (.mv (t 56)))])
 (.seq (.reg [a 57 (.p (.mv (t 8))),
 a 58 (.p (.mv (t 6))),
 a 59 (.p (.mv (t 0))),
 a 60 (.p (.mv (t 10))),
 a 61 (.p (.mv (t 7))),
 a 62 (.p (.bin .sub (t 60) (t 61))),
 a 63 (.p (.idxS 1 (t 59) (t 62))),
 a 64 (.r (.load none (t 63))),
 a 65 (.p (.conv .u32 (t 64))),
 a 66 (.p (.bin .mul (t 58) (t 65))),
 a 67 (.p (.bin .sub (t 57) (t 66))),
 a 8 (.p (.mv (t 67)))])
 (.seq (.reg [a 68 (.p (.mv (t 10))),
 a 69 (.p (.bin .add (t 68) (k (.int .i64 1)))),
 a 10 (.p (.mv (t 69)))])
 (.seq (.dreg [(a 70 (.p (.mv (t 8))), []),
 (a 71 (.p (.mv (t 5))), []),
 (a 72 (.p (.bin .eql (t 70) (t 71))), []),
 (a 73 (.p (.mv (t 72))), []),
 (c 74 (.p (.mv (t 0))) 73 true, []),
 (c 75 (.p (.mv (t 10))) 73 true, []),
 (c 76 (.p (.mv (t 7))) 73 true, []),
 (c 77 (.p (.bin .sub (t 75) (t 76))) 73 true, []),
 (c 78 (.p (.mv (t 10))) 73 true, []),
 (c 79 (.p (.slcS 1 (t 74) (some (t 77)) (some (t 78)) none)) 73 true, []),
 (c 80 (.r (.b2s (t 79))) 73 true, []),
 (c 81 (.p (.mv (t 1))) 73 true, []),
 (c 82 (.r (.b2s (t 81))) 73 true, []),
 (c 83 (.p (.bin .eql (t 80) (t 82))) 73 true, []),
 (a 84 (.p (.sel (t 73) (t 83) (k (.bool false)))), [])])
 (.cond (t 84)
 (.seq (.reg [a 85 (.p (.mv (t 10))),
 a 86 (.p (.mv (t 7))),
 a 87 (.p (.bin .sub (t 85) (t 86))),
 a 4 (.p (.mv (t 87)))])
 .ret)
 .skip)))))))))))
 (.seq (.reg [a 4 (.p (.mv (k (.int .i64 (-1)))))])
 .ret)))))))), [.tmp 4]⟩
/-- unicode/utf8.decodeRuneSlow -/
def F_unicode_utf8_decodeRuneSlow : AFn := ⟨1, 122, (.seq (.reg [a 2 (.p (.mv (k (.int .i32 0)))),
 a 3 (.p (.mv (k (.int .i64 0))))])
 (.seq (.reg [a 13 (.p (.mv (t 0))),
 a 14 (.p (.len false (t 13))),
 a 4 (.p (.mv (t 14)))])
 (.seq (.seq (.reg [a 15 (.p (.mv (t 4))),
 a 16 (.p (.bin .lss (t 15) (k (.int .i64 1))))])
 (.cond (t 16)
 (.seq (.reg [a 2 (.p (.mv (k (.int .i32 65533)))),
 a 3 (.p (.mv (k (.int .i64 0))))])
 .ret)
 .skip))
 (.seq (.reg [a 17 (.p (.mv (t 0))),
 a 18 (.p (.idxS 1 (t 17) (k (.int .i64 0)))),
 a 19 (.r (.load none (t 18))),
 a 5 (.p (.mv (t 19)))])
 (.seq (.reg [a 20 (.p (.mv (t 5))),
 a 21 .bad,
 a 22 (.r (.load none (t 21))),
 a 6 (.p (.mv (t 22)))])
 (.seq (.seq (.reg [a 23 (.p (.mv (t 6))),
 a 24 (.p (.bin .geq (t 23) (k (.int .u8 240))))])
 (.cond (t 24)
 (.seq (.reg [a 25 (.p (.mv (t 6))),
 a 26 (.p (.conv .i32 (t 25))),
 a 27 (.p (.bin .shl (t 26) (k (.int .u64 31)))),
 a 28 (.p (.bin .shr (t 27) (k (.int .u64 31)))),
 a 7 (.p (.mv (t 28)))])
 (.seq (.reg [a 29 (.p (.mv (t 0))),
 a 30 (.p (.idxS 1 (t 29) (k (.int .i64 0)))),
 a 31 (.r (.load none (t 30))),
 a 32 (.p (.conv .i32 (t 31))),
 a 33 (.p (.mv (t 7))),
 a 34 (.p (.bin .andNot (t 32) (t 33))),
 a 35 (.p (.mv (t 7))),
 a 36 (.p (.bin .and (k (.int .i32 65533)) (t 35))),
 a 37 (.p (.bin .or (t 34) (t 36))),
 a 2 (.p (.mv (t 37))),
 a 3 (.p (.mv (k (.int .i64 1))))])
 .ret))
 .skip))
 (.seq (.reg [a 38 (.p (.mv (t 6))),
 a 39 (.p (.bin .and (t 38) (k (.int .u8 7)))),
 a 40 (.p (.conv .i64 (t 39))),
 a 8 (.p (.mv (t 40)))])
 (.seq (.reg [a 41 (.p (.mv (t 6))),
 a 42 (.p (.bin .shr (t 41) (k (.int .u64 4)))),
 a 43 .bad,
 a 44 (.r (.load (some 2) (t 43))),
 a 9 (.n (.alloc [(.int .u8 0),(.int .u8 0)])),
 b (.e (.store 2 (t 9) (t 44)))])
 (.seq (.seq (.reg [a 45 (.p (.mv (t 4))),
 a 46 (.p (.mv (t 8))),
 a 47 (.p (.bin .lss (t 45) (t 46)))])
 (.cond (t 47)
 (.seq (.reg [a 2 (.p (.mv (k (.int .i32 65533)))),
 a 3 (.p (.mv (k (.int .i64 1))))])
 .ret)
 .skip))
 (.seq (.reg [a 48 (.p (.mv (t 0))),
 a 49 (.p (.idxS 1 (t 48) (k (.int .i64 1)))),
 a 50 (.r (.load none (t 49))),
 a 10 (.p (.mv (t 50)))])
 (.seq (.seq (.reg [a 51 (.p (.mv (t 10))),
 a 52 (.p (.fld 0 (t 9))),
 a 53 (.r (.load none (t 52))),
 a 54 (.p (.bin .lss (t 51) (t 53))),
 a 55 (.p (.mv (t 54))),
 c 56 (.p (.fld 1 (t 9))) 55 false,
 c 57 (.r (.load none (t 56))) 55 false,
 c 58 (.p (.mv (t 10))) 55 false,
 c 59 (.p (.bin .lss (t 57) (t 58))) 55 false,
 a 60 (.p (.sel (t 55) (k (.bool true)) (t 59)))])
 (.cond (t 60)
 (.seq (.reg [a 2 (.p (.mv (k (.int .i32 65533)))),
 a 3 (.p (.mv (k (.int .i64 1))))])
 .ret)
 .skip))
 (.seq (.seq (.reg [a 61 (.p (.mv (t 8))),
 a 62 (.p (.bin .leq (t 61) (k (.int .i64 2))))])
 (.cond (t 62)
 (.seq (.reg [a 63 (.p (.mv (t 5))),
 a 64 (.p (.bin .and (t 63) (k (.int .u8 31)))),
 a 65 (.p (.conv .i32 (t 64))),
 a 66 (.p (.bin .shl (t 65) (k (.int .u64 6)))),
 a 67 (.p (.mv (t 10))),
 a 68 (.p (.bin .and (t 67) (k (.int .u8 63)))),
 a 69 (.p (.conv .i32 (t 68))),
 a 70 (.p (.bin .or (t 66) (t 69))),
 a 2 (.p (.mv (t 70))),
 a 3 (.p (.mv (k (.int .i64 2))))])
 .ret)
 .skip))
 (.seq (.reg [a 71 (.p (.mv (t 0))),
 a 72 (.p (.idxS 1 (t 71) (k (.int .i64 2)))),
 a 73 (.r (.load none (t 72))),
 a 11 (.p (.mv (t 73)))])
 (.seq (.seq (.reg [a 74 (.p (.mv (t 11))),
 a 75 (.p (.bin .lss (t 74) (k (.int .u8 128)))),
 a 76 (.p (.mv (t 75))),
 c 77 (.p (.mv (t 11))) 76 false,
 c 78 (.p (.bin .lss (k (.int .u8 191)) (t 77))) 76 false,
 a 79 (.p (.sel (t 76) (k (.bool true)) (t 78)))])
 (.cond (t 79)
 (.seq (.reg [a 2 (.p (.mv (k (.int .i32 65533)))),
 a 3 (.p (.mv (k (.int .i64 1))))])
 .ret)
 .skip))
 (.seq (.seq (.reg [a 80 (.p (.mv (t 8))),
 a 81 (.p (.bin .leq (t 80) (k (.int .i64 3))))])
 (.cond (t 81)
 (.seq (.reg [a 82 (.p (.mv (t 5))),
 a 83 (.p (.bin .and (t 82) (k (.int .u8 15)))),
 a 84 (.p (.conv .i32 (t 83))),
 a 85 (.p (.bin .shl (t 84) (k (.int .u64 12)))),
 a 86 (.p (.mv (t 10))),
 a 87 (.p (.bin .and (t 86) (k (.int .u8 63)))),
 a 88 (.p (.conv .i32 (t 87))),
 a 89 (.p (.bin .shl (t 88) (k (.int .u64 6)))),
 a 90 (.p (.bin .or (t 85) (t 89))),
 a 91 (.p (.mv (t 11))),
 a 92 (.p (.bin .and (t 91) (k (.int .u8 63)))),
 a 93 (.p (.conv .i32 (t 92))),
 a 94 (.p (.bin .or (t 90) (t 93))),
 a 2 (.p (.mv (t 94))),
 a 3 (.p (.mv (k (.int .i64 3))))])
 .ret)
 .skip))
 (.seq (.reg [a 95 (.p (.mv (t 0))),
 a 96 (.p (.idxS 1 (t 95) (k (.int .i64 3)))),
 a 97 (.r (.load none (t 96))),
 a 12 (.p (.mv (t 97)))])
 (.seq (.seq (.reg [a 98 (.p (.mv (t 12))),
 a 99 (.p (.bin .lss (t 98) (k (.int .u8 128)))),
 a 100 (.p (.mv (t 99))),
 c 101 (.p (.mv (t 12))) 100 false,
 c 102 (.p (.bin .lss (k (.int .u8 191)) (t 101))) 100 false,
 a 103 (.p (.sel (t 100) (k (.bool true)) (t 102)))])
 (.cond (t 103)
 (.seq (.reg [a 2 (.p (.mv (k (.int .i32 65533)))),
 a 3 (.p (.mv (k (.int .i64 1))))])
 .ret)
 .skip))
 (.seq (.reg [a 104 (.p (.mv (t 5))),
 a 105 (.p (.bin .and (t 104) (k (.int .u8 7)))),
 a 106 (.p (.conv .i32 (t 105))),
 a 107 (.p (.bin .shl (t 106) (k (.int .u64 18)))),
 a 108 (.p (.mv (t 10))),
 a 109 (.p (.bin .and (t 108) (k (.int .u8 63)))),
 a 110 (.p (.conv .i32 (t 109))),
 a 111 (.p (.bin .shl (t 110) (k (.int .u64 12)))),
 a 112 (.p (.bin .or (t 107) (t 111))),
 a 113 (.p (.mv (t 11))),
 a 114 (.p (.bin .and (t 113) (k (.int .u8 63)))),
 a 115 (.p (.conv .i32 (t 114))),
 a 116 (.p (.bin .shl (t 115) (k (.int .u64 6)))),
 a 117 (.p (.bin .or (t 112) (t 116))),
 a 118 (.p (.mv (t 12))),
 a 119 (.p (.bin .and (t 118) (k (.int .u8 63)))),
 a 120 (.p (.conv .i32 (t 119))),
 a 121 (.p (.bin .or (t 117) (t 120))),
 a 2 (.p (.mv (t 121))),
 a 3 (.p (.mv (k (.int .i64 4))))])
 .ret)))))))))))))))))), [.tmp 2,.tmp 3]⟩
/-- unicode/utf8.RuneCountInString -/
def F_unicode_utf8_RuneCountInString : AFn := ⟨1, 10, (.seq (.reg [a 2 (.p (.mv (k (.int .i64 0))))])
 (.seq (.seq (.reg [a 3 (.p (.mv (t 0))),
 a 4 .bad])
 (.block 0 (.loop (.seq (.reg [a 5 .bad,
 a 6 (.p (.extract (t 5) 0))])
 (.seq (.cond (t 6)
 .skip
 (.exit 0))
 (.block 1 (.reg [a 7 (.p (.mv (t 2))),
 a 8 (.p (.bin .add (t 7) (k (.int .i64 1)))),
 a 2 (.p (.mv (t 8)))])))))))
 (.seq (.reg [a 9 (.p (.mv (t 2))),
 a 2 (.p (.mv (t 9)))])
 .ret))), [.tmp 2]⟩
/-- internal/bytealg.hashStr(()byte) -/
def F_internal_bytealg_hashStr_byte : AFn := ⟨1, 40, (.seq (.reg [a 2 (.p (.mv (k (.int .u32 0)))),
 a 3 (.p (.mv (k (.int .u32 0))))])
 (.seq (.reg [a 4 (.p (.mv (k (.int .u32 0))))])
 (.seq (.seq (.reg [a 5 (.p (.mv (k (.int .i64 0))))])
 (.block 0 (.loop (.seq (.seq (.reg [a 9 (.p (.mv (t 5))),
 a 10 (.p (.mv (t 0))),
 a 11 (.p (.len false (t 10))),
 a 12 (.p (.bin .lss (t 9) (t 11)))])
 (.cond (t 12)
 .skip
 (.exit 0)))
 (.seq (.block 1 (.reg [a 15 (.p (.mv (t 4))),
 a 16 (.p (.bin .mul (t 15) (k (.int .u32 16777619)))),
 a 17 (.p (.mv (t 0))),
 a 18 (.p (.mv (t 5))),
 a 19 (.p (.idxS 1 (t 17) (t 18))),
 a 20 (.r (.load none (t 19))),
 a 21 (.p (.conv .u32 (t 20))),
 a 22 (.p (.bin .add (t 16) (t 21))),
 a 4 (.p (.mv (t 22)))]))
 (.reg [a 13 (.p (.mv (t 5))),
 a 14 (.p (.bin .add (t 13) (k (.int .i64 1)))),
 a 5 (.p (.mv (t 14)))]))))))
 (.seq (.reg [a 6 (.p (.mv (k (.int .u32 1)))),
 a 7 (.p (.mv (k (.int .u32 16777619))))])
 (.seq (.seq (.reg [a 23 (.p (.mv (t 0))),
 a 24 (.p (.len false (t 23))),
 a 8 (.p (.mv (t 24)))])
 (.block 2 (.loop (.seq (.seq (.reg [a 25 (.p (.mv (t 8))),
 a 26 (.p (.bin .gtr (t 25) (k (.int .i64 0))))])
 (.cond (t 26)
 .skip
 (.exit 2)))
 (.seq (.block 3 (.seq (.seq (.reg [a 29 (.p (.mv (t 8))),
 a 30 (.p (.bin .and (t 29) (k (.int .i64 1)))),
 a 31 (.p (.bin .neq (t 30) (k (.int .i64 0))))])
 (.cond (t 31)
 (.reg [a 32 (.p (.mv (t 6))),
 a 33 (.p (.mv (t 7))),
 a 34 (.p (.bin .mul (t 32) (t 33))),
 a 6 (.p (.mv (t 34)))])
 .skip))
 (.reg [a 35 (.p (.mv (t 7))),
 a 36 (.p (.mv (t 7))),
 a 37 (.p (.bin .mul (t 35) (t 36))),
 a 7 (.p (.mv (t 37)))])))
 (.reg [a 27 (.p (.mv (t 8))),
 a 28 (.p (.bin .shr (t 27) (k (.int .u64 1)))),
 a 8 (.p (.mv (t 28)))]))))))
 (.seq (.reg [a 38 (.p (.mv (t 4))),
 a 39 (.p (.mv (t 6))),
 a 2 (.p (.mv (t 38))),
 a 3 (.p (.mv (t 39)))])
 .ret)))))), [.tmp 2,.tmp 3]⟩
end Go.Ab.Fs
