/- Parts: Ir0, Ir1. -/
import Derived.Test.YtlelihddjacplaaGreatTpA
set_option linter.unusedVariables false
namespace Go.Proofs.YtlelihddjacplaaGreat.AM
def f3 : Func := ⟨.seq (cR [oA 6 .move [.c (.bool false)]] [0,1,2])
 (.seq (.seq (cR [oA 19 .call [.c (.func (.func 4) #[] #[])],
 oA 20 (.un .not) [.t 19]] [0,1,2,20])
 (.cond (.t 20) (.seq (cR [oA 6 .move [.c (.bool false)]] [6])
 (.ret))
 (.skip)))
 (.seq (cR [oM 21 0,
 oM 22 1,
 oA 23 .call [.c (.func (.func 5) #[] #[]),.t 21,.t 22],
 oM 7 23] [0,1,2,7])
 (.seq (.seq (cD [⟨[oM 24 7,
 oA 25 .toStr [.t 24],
 oM 26 0,
 oM 27 1],some (oA 28 .call [.c (.func (.func 6) #[] #[]),.t 26,.t 27]),[25],[]⟩,
 ⟨[oA 29 .toStr [.t 28],
 oA 30 (.eqStr true) [.t 25,.t 29]],none,[],[]⟩] [24,25,26,27,28,29,30] [2,30])
 (.cond (.t 30) (.seq (cR [oA 6 .move [.c (.bool false)]] [6])
 (.ret))
 (.skip)))
 (.seq (cR [oA 32 .call [.c (.func (.func 7) #[] #[]),.c (.int .i64 (64)),.c (.int .i64 (20)),.c (.float .f64 4607182418800017408)],
 oM 31 32,
 oA 33 (.extract 0) [.t 31],
 oA 34 (.extract 1) [.t 31],
 oM 8 33,
 oM 9 34] [2,8,9])
 (.seq (cR [oA 36 .call [.c (.func (.func 7) #[] #[]),.c (.int .i64 (63)),.c (.int .i64 (20)),.c (.float .f64 4607182418800017408)],
 oM 35 36,
 oA 37 (.extract 0) [.t 35],
 oA 38 (.extract 1) [.t 35],
 oM 10 37,
 oM 11 38] [2,8,9,11])
 (.seq (cR [oA 40 .call [.c (.func (.func 7) #[] #[]),.c (.int .i64 (64)),.c (.int .i64 (0)),.c (.float .f64 4607182418800017408)],
 oM 39 40,
 oA 41 (.extract 0) [.t 39],
 oA 42 (.extract 1) [.t 39],
 oM 12 41,
 oM 13 42] [2,8,9,11,13])
 (.seq (.seq (cR [oM 43 9,
 oA 44 (.bin .neq) [.t 43,.c (.int .i64 (0))],
 oM 45 44,
 oG (some 46) .move [.t 8] 45 false,
 oG (some 47) (.isNil .ptr false) [.t 46] 45 false,
 oA 48 .pick [.t 45,.c (.bool true),.t 47],
 oM 49 48,
 oG (some 50) .move [.t 11] 49 false,
 oG (some 51) (.bin .neq) [.t 50,.c (.int .i64 (1))] 49 false,
 oA 52 .pick [.t 49,.c (.bool true),.t 51],
 oM 53 52,
 oG (some 54) .move [.t 13] 53 false,
 oG (some 55) (.bin .neq) [.t 54,.c (.int .i64 (1))] 53 false,
 oA 56 .pick [.t 53,.c (.bool true),.t 55]] [2,8,56])
 (.cond (.t 56) (.seq (cR [oA 6 .move [.c (.bool false)]] [6])
 (.ret))
 (.skip)))
 (.seq (.seq (cR [oM 57 2,
 oA 58 (.bin .lss) [.t 57,.c (.int .i64 (1))],
 oM 59 58,
 oG (some 60) .move [.t 2] 59 false,
 oG (some 61) (.bin .gtr) [.t 60,.c (.int .i64 (9))] 59 false,
 oA 62 .pick [.t 59,.c (.bool true),.t 61]] [2,8,62])
 (.cond (.t 62) (.seq (cR [oM 63 8,
 oM 64 2,
 oA 65 (.build [(.int .i64 (0)), (.int .i64 (0)), (.int .i64 (0)), (.int .u8 (0)), (.slice none 0 0), (.int .u32 (0))] [(0, 1)]) [.t 64],
 oA 66 .call [.c (.func (.func 8) #[] #[]),.t 63,.t 65],
 oA 67 (.bin .eql) [.t 66,.c (.int .i64 (1))],
 oM 6 67] [6])
 (.ret))
 (.skip)))
 (.seq (cR [oM 68 8,
 oA 69 (.build [(.int .i64 (0)), (.int .i64 (0)), (.int .i64 (0)), (.int .u8 (0)), (.slice none 0 0), (.int .u32 (0))] [(0, 1), (1, 1), (2, 1), (5, 1)]) [.c (.int .i64 (6)),.c (.int .i64 (1)),.c (.int .i64 (40)),.c (.int .u32 (1))],
 oA 70 .call [.c (.func (.func 8) #[] #[]),.t 68,.t 69],
 oM 14 70] [8,14])
 (.seq (cR [oM 71 8,
 oA 72 (.build [(.int .i64 (0)), (.int .i64 (0)), (.int .i64 (0)), (.int .u8 (0)), (.slice none 0 0), (.int .u32 (0))] [(0, 1)]) [.c (.int .i64 (8))],
 oA 73 .call [.c (.func (.func 8) #[] #[]),.t 71,.t 72],
 oM 15 73] [8,14,15])
 (.seq (cR [oM 74 8,
 oA 75 (.build [(.int .i64 (0)), (.int .i64 (0)), (.int .i64 (0)), (.int .u8 (0)), (.slice none 0 0), (.int .u32 (0))] [(0, 1)]) [.c (.int .i64 (3))],
 oA 76 .call [.c (.func (.func 8) #[] #[]),.t 74,.t 75],
 oM 16 76] [8,14,15,16])
 (.seq (cR [oM 77 8,
 oA 78 (.build [(.int .i64 (0)), (.int .i64 (0)), (.int .i64 (0)), (.int .u8 (0)), (.slice none 0 0), (.int .u32 (0))] [(0, 1), (1, 1), (2, 1), (5, 1)]) [.c (.int .i64 (6)),.c (.int .i64 (1)),.c (.int .i64 (40)),.c (.int .u32 (1))],
 oA 79 .call [.c (.func (.func 8) #[] #[]),.t 77,.t 78],
 oM 17 79] [8,14,15,16,17])
 (.seq (cR [oM 80 8,
 oA 81 (.build [(.int .i64 (0)), (.int .i64 (0)), (.int .i64 (0)), (.int .u8 (0)), (.slice none 0 0), (.int .u32 (0))] [(0, 1)]) [.c (.int .i64 (5))],
 oA 82 .call [.c (.func (.func 8) #[] #[]),.t 80,.t 81],
 oM 18 82] [8,14,15,16,17,18])
 (.seq (cR [oM 83 14,
 oA 84 (.bin .eql) [.t 83,.c (.int .i64 (0))],
 oM 85 84,
 oG (some 86) .move [.t 15] 85 true,
 oG (some 87) (.bin .eql) [.t 86,.c (.int .i64 (5))] 85 true,
 oA 88 .pick [.t 85,.t 87,.c (.bool false)],
 oM 89 88,
 oG (some 90) .move [.t 16] 89 true,
 oG (some 91) (.bin .eql) [.t 90,.c (.int .i64 (9))] 89 true,
 oA 92 .pick [.t 89,.t 91,.c (.bool false)],
 oM 93 92,
 oG (some 94) .move [.t 17] 93 true,
 oG (some 95) (.bin .eql) [.t 94,.c (.int .i64 (0))] 93 true,
 oA 96 .pick [.t 93,.t 95,.c (.bool false)],
 oM 97 96,
 oG (some 98) .move [.t 18] 97 true,
 oG (some 99) (.bin .eql) [.t 98,.c (.int .i64 (0))] 97 true,
 oA 100 .pick [.t 97,.t 99,.c (.bool false)],
 oM 101 100,
 oG (some 102) .move [.t 8] 101 true,
 oG (some 103) .call [.c (.func (.func 9) #[] #[]),.t 102] 101 true,
 oG (some 104) (.isNil .ptr true) [.t 103] 101 true,
 oA 105 .pick [.t 101,.t 104,.c (.bool false)],
 oM 106 105,
 oG (some 107) .move [.t 8] 106 true,
 oG (some 108) (.build [(.int .i64 (0)), (.int .i64 (0)), (.int .i64 (0)), (.int .u8 (0)), (.slice none 0 0), (.int .u32 (0))] [(0, 1), (1, 1)]) [.c (.int .i64 (6)),.c (.int .i64 (64))] 106 true,
 oG (some 109) .call [.c (.func (.func 8) #[] #[]),.t 107,.t 108] 106 true,
 oG (some 110) (.bin .eql) [.t 109,.c (.int .i64 (1))] 106 true,
 oA 111 .pick [.t 106,.t 110,.c (.bool false)],
 oM 6 111] [6])
 (.ret))))))))))))))),
 [.tmp 6], none⟩

def f4 : Func := ⟨.seq (cR [oA 0 .move [.c (.bool false)]] [])
 (.seq (cR [oA 10 .call [.c (.func (.func 7) #[] #[]),.c (.int .i64 (64)),.c (.int .i64 (20)),.c (.float .f64 4607182418800017408)],
 oM 9 10,
 oA 11 (.extract 0) [.t 9],
 oA 12 (.extract 1) [.t 9],
 oM 1 11,
 oM 2 12] [1,2])
 (.seq (.seq (cR [oM 13 2,
 oA 14 (.bin .neq) [.t 13,.c (.int .i64 (0))],
 oM 15 14,
 oG (some 16) .move [.t 1] 15 false,
 oG (some 17) (.isNil .ptr false) [.t 16] 15 false,
 oA 18 .pick [.t 15,.c (.bool true),.t 17]] [1,18])
 (.cond (.t 18) (.seq (cR [oA 0 .move [.c (.bool false)]] [0])
 (.ret))
 (.skip)))
 (.seq (cR [oM 19 1,
 oA 20 (.build [(.int .i64 (0)), (.int .i64 (0)), (.int .i64 (0)), (.int .u8 (0)), (.slice none 0 0), (.int .u32 (0))] [(0, 1), (1, 1), (2, 1), (3, 1)]) [.c (.int .i64 (1)),.c (.int .i64 (3)),.c (.int .i64 (5)),.c (.int .u8 (7))],
 oA 21 .call [.c (.func (.func 8) #[] #[]),.t 19,.t 20],
 oM 3 21] [1,3])
 (.seq (cR [oM 22 1,
 oA 23 (.build [(.int .i64 (0)), (.int .i64 (0)), (.int .i64 (0)), (.int .u8 (0)), (.slice none 0 0), (.int .u32 (0))] [(0, 1)]) [.c (.int .i64 (3))],
 oA 24 .call [.c (.func (.func 8) #[] #[]),.t 22,.t 23],
 oM 4 24] [1,3,4])
 (.seq (cR [oM 25 1,
 oA 26 (.build [(.int .i64 (0)), (.int .i64 (0)), (.int .i64 (0)), (.int .u8 (0)), (.slice none 0 0), (.int .u32 (0))] [(0, 1), (1, 1), (2, 1), (3, 1)]) [.c (.int .i64 (1)),.c (.int .i64 (3)),.c (.int .i64 (5)),.c (.int .u8 (9))],
 oA 27 .call [.c (.func (.func 8) #[] #[]),.t 25,.t 26],
 oM 5 27] [1,3,4,5])
 (.seq (cR [oM 28 1,
 oA 29 (.build [(.int .i64 (0)), (.int .i64 (0)), (.int .i64 (0)), (.int .u8 (0)), (.slice none 0 0), (.int .u32 (0))] [(0, 1)]) [.c (.int .i64 (5))],
 oA 30 .call [.c (.func (.func 8) #[] #[]),.t 28,.t 29],
 oM 6 30] [1,3,4,5,6])
 (.seq (.seq (cR [oM 31 1,
 oA 32 .call [.c (.func (.func 9) #[] #[]),.t 31],
 oA 33 (.isNil .ptr false) [.t 32],
 oM 34 33,
 oG (some 35) .move [.t 3] 34 false,
 oG (some 36) (.bin .neq) [.t 35,.c (.int .i64 (0))] 34 false,
 oA 37 .pick [.t 34,.c (.bool true),.t 36],
 oM 38 37,
 oG (some 39) .move [.t 4] 38 false,
 oG (some 40) (.bin .neq) [.t 39,.c (.int .i64 (0))] 38 false,
 oA 41 .pick [.t 38,.c (.bool true),.t 40],
 oM 42 41,
 oG (some 43) .move [.t 5] 42 false,
 oG (some 44) (.bin .neq) [.t 43,.c (.int .i64 (0))] 42 false,
 oA 45 .pick [.t 42,.c (.bool true),.t 44],
 oM 46 45,
 oG (some 47) .move [.t 6] 46 false,
 oG (some 48) (.bin .neq) [.t 47,.c (.int .i64 (0))] 46 false,
 oA 49 .pick [.t 46,.c (.bool true),.t 48]] [1,49])
 (.cond (.t 49) (.seq (cR [oA 0 .move [.c (.bool false)]] [0])
 (.ret))
 (.skip)))
 (.seq (cR [oM 51 1,
 oA 52 .call [.c (.func (.func 9) #[] #[]),.t 51],
 oA 53 .call [.c (.func (.func 10) #[] #[]),.t 52,.c (.int .i64 (3))],
 oM 50 53,
 oA 54 (.extract 0) [.t 50],
 oA 55 (.extract 1) [.t 50],
 oM 7 54,
 oM 8 55] [1,7,8])
 (.seq (cD [⟨[oM 56 8,
 oA 57 (.bin .eql) [.t 56,.c (.int .i64 (0))],
 oM 58 57,
 oG (some 59) .move [.t 7] 58 true,
 oG (some 60) .toStr [.t 59] 58 true],some (oG (some 61) .call [.c (.func (.func 6) #[] #[]),.c (.int .i64 (5)),.c (.int .u8 (7))] 58 true),[60],[]⟩,
 ⟨[oG (some 62) .toStr [.t 61] 58 true,
 oG (some 63) (.eqStr false) [.t 60,.t 62] 58 true,
 oA 64 .pick [.t 58,.t 63,.c (.bool false)],
 oM 65 64,
 oG (some 68) .move [.t 7] 65 true,
 oG (some 69) .toStr [.t 68] 65 true],some (oG (some 66) .call [.c (.func (.func 5) #[] #[]),.c (.int .i64 (5)),.c (.int .u8 (7))] 65 true),[69],[]⟩,
 ⟨[oG (some 67) .toStr [.t 66] 65 true,
 oG (some 70) (.eqStr false) [.t 67,.t 69] 65 true,
 oA 71 .pick [.t 65,.t 70,.c (.bool false)],
 oM 72 71,
 oG (some 73) .move [.t 1] 72 true],some (oG (some 74) .call [.c (.func (.func 9) #[] #[]),.t 73] 72 true),[],[]⟩,
 ⟨[],some (oG (some 75) .call [.c (.func (.func 11) #[] #[]),.t 74] 72 true),[],[]⟩,
 ⟨[oG (some 76) (.bin .eql) [.t 75,.c (.int .i64 (0))] 72 true,
 oA 77 .pick [.t 72,.t 76,.c (.bool false)],
 oM 0 77],none,[],[]⟩] [56,57,58,59,60,61,62,63,64,65,66,67,68,69,70,71,72,73,74,75,76,77,0] [0])
 (.ret)))))))))),
 [.tmp 0], none⟩

def l5_0 : Code :=
 .seq (cR [oA 11 (.bin .lss) [.t 10,.t 9]] [0,1,5,9,10,11])
 (.seq (.cond (.t 11) (.skip)
 (.exit 0))
 (.seq (.block 1 (.seq (cR [oM 12 10,
 oM 6 12] [0,1,5,6,9,10])
 (cR [oM 13 5,
 oM 14 6,
 oM 15 1,
 oM 16 6,
 oM 17 0,
 oA 18 (.bin .and) [.t 17,.c (.int .i64 (65535))],
 oA 19 (.bin .mul) [.t 16,.t 18],
 oA 20 (.bin .quo) [.t 19,.c (.int .i64 (16))],
 oA 21 (.toInt .u8) [.t 20],
 oA 22 (.bin .add) [.t 15,.t 21],
 oA 23 (.idxAddr 1) [.t 13,.t 14],
 oN (.store 1) [.t 23,.t 22]] [0,1,5,9,10])))
 (cR [oA 24 (.bin .add) [.t 10,.c (.int .i64 (1))],
 oM 10 24] [0,1,5,9,10])))
def f5 : Func := ⟨.seq (cR [oA 4 .move [.c (.slice none 0 0)]] [0,1])
 (.seq (cR [oA 7 (.newSlice 5 1 1 [(.int .u8 (0))]) [.c (.int .i64 (128)),.c (.int .i64 (128))],
 oM 5 7] [0,1,5])
 (.seq (.seq (cR [oM 8 5,
 oA 9 .lenS [.t 8],
 oA 10 .move [.c (.int .i64 (0))]] [0,1,5,9,10])
 (.block 0 (.loop [0,1,5,9,10] l5_0)))
 (.seq (cR [oM 25 5,
 oM 4 25] [4])
 (.ret)))),
 [.tmp 4], none⟩

def l6_0 : Code :=
 .seq (.seq (cR [oM 8 6,
 oA 9 (.bin .lss) [.t 8,.c (.int .i64 (128))]] [0,1,5,6,9])
 (.cond (.t 9) (.skip)
 (.exit 0)))
 (.seq (.block 1 (cR [oM 12 5,
 oM 13 6,
 oM 14 1,
 oM 15 6,
 oM 16 0,
 oA 17 (.bin .and) [.t 16,.c (.int .i64 (65535))],
 oA 18 (.bin .mul) [.t 15,.t 17],
 oA 19 (.bin .quo) [.t 18,.c (.int .i64 (16))],
 oA 20 (.toInt .u8) [.t 19],
 oA 21 (.bin .add) [.t 14,.t 20],
 oA 22 (.idxAddr 1) [.t 12,.t 13],
 oN (.store 1) [.t 22,.t 21]] [0,1,5,6]))
 (cR [oM 10 6,
 oA 11 (.bin .add) [.t 10,.c (.int .i64 (1))],
 oM 6 11] [0,1,5,6]))
def f6 : Func := ⟨.seq (cR [oA 4 .move [.c (.slice none 0 0)]] [0,1])
 (.seq (cR [oA 7 (.newSlice 5 1 1 [(.int .u8 (0))]) [.c (.int .i64 (128)),.c (.int .i64 (128))],
 oM 5 7] [0,1,5])
 (.seq (.seq (cR [oA 6 .move [.c (.int .i64 (0))]] [0,1,5,6])
 (.block 0 (.loop [0,1,5,6] l6_0)))
 (.seq (cR [oM 23 5,
 oM 4 23] [4])
 (.ret)))),
 [.tmp 4], none⟩

def f7 : Func := ⟨.seq (cR [oA 6 .move [.c (.pointer none)],
 oA 7 .move [.c (.int .i64 (0))]] [0,1,2])
 (.seq (cR [oM 14 0,
 oA 15 .call [.c (.func (.func 12) #[] #[]),.t 14],
 oM 13 15,
 oA 16 (.extract 0) [.t 13],
 oA 17 (.extract 1) [.t 13],
 oM 8 16,
 oM 9 17] [1,2,8,9])
 (.seq (.seq (cR [oM 18 9,
 oA 19 (.bin .neq) [.t 18,.c (.int .i64 (0))]] [1,2,8,9,19])
 (.cond (.t 19) (.seq (cR [oM 20 9,
 oA 6 .move [.c (.pointer none)],
 oM 7 20] [6,7])
 (.ret))
 (.skip)))
 (.seq (.seq (cR [oM 21 8,
 oM 22 1,
 oM 23 2,
 oA 24 .call [.c (.func (.func 13) #[] #[]),.t 21,.t 22,.t 23],
 oM 10 24] [8,10])
 (.seq (cR [oM 25 10,
 oA 26 (.bin .neq) [.t 25,.c (.int .i64 (0))]] [8,10,26])
 (.cond (.t 26) (.seq (cR [oM 27 10,
 oA 6 .move [.c (.pointer none)],
 oM 7 27] [6,7])
 (.ret))
 (.skip))))
 (.seq (cR [oM 28 8,
 oA 29 (.build [(.pointer none), (.pointer none)] [(0, 1)]) [.t 28],
 oA 30 (.box 46 2) [.t 29],
 oM 11 30] [11])
 (.seq (.seq (cR [oM 31 11,
 oA 32 .call [.c (.func (.func 14) #[] #[]),.t 31],
 oM 12 32] [11,12])
 (.seq (cR [oM 33 12,
 oA 34 (.bin .neq) [.t 33,.c (.int .i64 (0))]] [11,12,34])
 (.cond (.t 34) (.seq (cR [oM 35 12,
 oA 6 .move [.c (.pointer none)],
 oM 7 35] [6,7])
 (.ret))
 (.skip))))
 (.seq (cR [oM 36 11,
 oM 6 36,
 oA 7 .move [.c (.int .i64 (0))]] [6,7])
 (.ret))))))),
 [.tmp 6, .tmp 7], none⟩

def f8 : Func := ⟨.seq (cR [oA 3 (.box 34 6) [.t 1],
 oA 4 .move [.c (.int .i64 (0))]] [0,3])
 (.seq (.seq (cR [oM 11 0,
 oA 12 (.isNil .ptr false) [.t 11],
 oM 13 12,
 oG (some 14) .move [.t 0] 13 false,
 oG (some 15) .nilCheck [.t 14] 13 false,
 oG (some 16) (.fieldAddr 0) [.t 15] 13 false,
 oG (some 17) (.load false 1) [.t 16] 13 false,
 oG (some 18) (.isNil .ptr false) [.t 17] 13 false,
 oA 19 .pick [.t 13,.c (.bool true),.t 18]] [0,3,19])
 (.cond (.t 19) (.seq (cR [oA 4 .move [.c (.int .i64 (1))]] [4])
 (.ret))
 (.skip)))
 (.seq (.seq (cR [oM 21 0,
 oA 22 (.load true 6) [.t 3],
 oA 23 .call [.c (.func (.func 15) #[] #[]),.t 21,.t 22],
 oM 20 23,
 oA 24 (.extract 0) [.t 20],
 oA 25 (.extract 1) [.t 20],
 oM 5 24,
 oM 6 25] [0,3,5,6])
 (.seq (cR [oM 26 6] [0,3,5,26])
 (.cond (.t 26) (.seq (cR [oM 27 5,
 oM 4 27] [4])
 (.ret))
 (.skip))))
 (.seq (.seq (cR [oA 28 (.fieldAddr 0) [.t 3],
 oA 29 (.load false 1) [.t 28],
 oA 30 (.bin .lss) [.t 29,.c (.int .i64 (1))],
 oM 31 30,
 oG (some 32) (.fieldAddr 0) [.t 3] 31 false,
 oG (some 33) (.load false 1) [.t 32] 31 false,
 oG (some 34) (.bin .gtr) [.t 33,.c (.int .i64 (9))] 31 false,
 oA 35 .pick [.t 31,.c (.bool true),.t 34]] [0,3,35])
 (.cond (.t 35) (.seq (cR [oA 4 .move [.c (.int .i64 (1))]] [4])
 (.ret))
 (.skip)))
 (.seq (.seq (cR [oM 36 0,
 oA 37 .nilCheck [.t 36],
 oA 38 (.fieldAddr 1) [.t 37],
 oA 39 (.load false 1) [.t 38],
 oA 40 (.isNil .ptr false) [.t 39]] [0,3,40])
 (.cond (.t 40) (.seq (cR [oA 4 .move [.c (.int .i64 (9))]] [4])
 (.ret))
 (.skip)))
 (.seq (.seq (cR [oA 41 (.fieldAddr 0) [.t 3],
 oA 42 (.load false 1) [.t 41]] [0,3,42])
 (.block 0 (.seq (cR [oA 44 (.bin .eql) [.t 42,.c (.int .i64 (1))],
 oM 43 44] [0,3,42,43])
 (.cond (.t 43) (.seq (cD [⟨[oM 45 0,
 oA 46 .nilCheck [.t 45],
 oA 47 (.fieldAddr 1) [.t 46],
 oA 48 (.load false 1) [.t 47],
 oA 49 (.fieldAddr 1) [.t 3],
 oA 50 (.load false 1) [.t 49],
 oA 51 (.fieldAddr 2) [.t 3],
 oA 52 (.load false 1) [.t 51],
 oA 53 (.fieldAddr 3) [.t 3],
 oA 54 (.load false 1) [.t 53]],some (oA 55 .call [.c (.func (.func 5) #[] #[]),.t 52,.t 54]),[48,50],[]⟩,
 ⟨[],some (oA 56 .call [.c (.func (.func 16) #[] #[]),.t 48,.t 50,.t 55]),[],[]⟩,
 ⟨[oM 4 56],none,[],[]⟩] [45,46,47,48,49,50,51,52,53,54,55,56,4] [4])
 (.ret))
 (.seq (cR [oA 58 (.bin .eql) [.t 42,.c (.int .i64 (2))],
 oM 57 58] [0,3,42,57])
 (.cond (.t 57) (.seq (cD [⟨[oM 59 0,
 oA 60 .nilCheck [.t 59],
 oA 61 (.fieldAddr 1) [.t 60],
 oA 62 (.load false 1) [.t 61],
 oA 63 (.fieldAddr 1) [.t 3],
 oA 64 (.load false 1) [.t 63],
 oA 65 (.fieldAddr 2) [.t 3],
 oA 66 (.load false 1) [.t 65]],some (oA 67 .call [.c (.func (.func 17) #[] #[]),.t 62,.t 64,.t 66]),[],[]⟩,
 ⟨[oM 4 67],none,[],[]⟩] [59,60,61,62,63,64,65,66,67,4] [4])
 (.ret))
 (.seq (cR [oA 69 (.bin .eql) [.t 42,.c (.int .i64 (3))],
 oM 68 69] [0,42,68])
 (.cond (.t 68) (.seq (cR [oM 70 0,
 oA 71 .nilCheck [.t 70],
 oA 72 (.fieldAddr 1) [.t 71],
 oA 73 (.load false 1) [.t 72],
 oA 74 .call [.c (.func (.func 18) #[] #[]),.t 73],
 oM 4 74] [4])
 (.ret))
 (.seq (cR [oA 76 (.bin .eql) [.t 42,.c (.int .i64 (4))],
 oM 75 76] [0,75])
 (.cond (.t 75) (.seq (cR [oM 78 0,
 oA 79 .nilCheck [.t 78],
 oA 80 (.fieldAddr 1) [.t 79],
 oA 81 (.load false 1) [.t 80],
 oA 82 .call [.c (.func (.func 19) #[] #[]),.t 81],
 oM 77 82,
 oA 83 (.extract 0) [.t 77],
 oA 84 (.extract 1) [.t 77],
 oM 7 83,
 oM 8 84] [8])
 (.seq (cR [oM 85 8,
 oM 4 85] [4])
 (.ret)))
 (.skip)))))))))))
 (.seq (cR [oM 87 0,
 oA 88 .nilCheck [.t 87],
 oA 89 (.fieldAddr 1) [.t 88],
 oA 90 (.load false 1) [.t 89],
 oA 91 .call [.c (.func (.func 20) #[] #[]),.t 90],
 oM 86 91,
 oA 92 (.extract 0) [.t 86],
 oA 93 (.extract 1) [.t 86],
 oA 9 (.new 57 5 [(.slice none 0 0), (.int .i64 (0)), (.int .i64 (0)), (.bool false), (.bool false)]) [],
 oN (.store 5) [.t 9,.t 92],
 oM 10 93] [9,10])
 (.seq (.seq (cR [oM 94 10,
 oA 95 (.bin .eql) [.t 94,.c (.int .i64 (0))],
 oM 96 95,
 oG (some 97) (.fieldAddr 0) [.t 9] 96 true,
 oG (some 98) (.load false 1) [.t 97] 96 true,
 oG (some 99) .lenS [.t 98] 96 true,
 oG (some 100) (.bin .gtr) [.t 99,.c (.int .i64 (0))] 96 true,
 oA 101 .pick [.t 96,.t 100,.c (.bool false)]] [10,101])
 (.cond (.t 101) (cR [oA 10 .move [.c (.int .i64 (10))]] [10])
 (.skip)))
 (.seq (cR [oM 102 10,
 oM 4 102] [4])
 (.ret))))))))),
 [.tmp 4], none⟩

def f9 : Func := ⟨.seq (cR [oA 2 .move [.c (.pointer none)]] [0])
 (.seq (.seq (cR [oM 3 0,
 oA 4 (.isNil .ptr false) [.t 3]] [0,4])
 (.cond (.t 4) (.seq (cR [oA 2 .move [.c (.pointer none)]] [2])
 (.ret))
 (.skip)))
 (.seq (cR [oM 5 0,
 oA 6 .nilCheck [.t 5],
 oA 7 (.fieldAddr 1) [.t 6],
 oA 8 (.load false 1) [.t 7],
 oM 2 8] [2])
 (.ret))),
 [.tmp 2], none⟩

def f10 : Func := ⟨.seq (cR [oA 4 .move [.c (.slice none 0 0)],
 oA 5 .move [.c (.int .i64 (0))]] [0,1])
 (.seq (.seq (cR [oM 13 0,
 oA 14 (.isNil .ptr false) [.t 13],
 oM 15 14,
 oG (some 16) .move [.t 0] 15 false,
 oG (some 17) .move [.t 1] 15 false,
 oG (some 18) .call [.c (.func (.func 21) #[] #[]),.t 16,.t 17,.c (.int .i64 (1))] 15 false,
 oG (some 19) (.un .not) [.t 18] 15 false,
 oA 20 .pick [.t 15,.c (.bool true),.t 19]] [0,1,20])
 (.cond (.t 20) (.seq (cR [oA 4 .move [.c (.slice none 0 0)],
 oA 5 .move [.c (.int .i64 (1))]] [4,5])
 (.ret))
 (.skip)))
 (.seq (cR [oA 21 (.newSlice 5 1 1 [(.int .u8 (0))]) [.c (.int .i64 (128)),.c (.int .i64 (128))],
 oM 6 21] [0,1,6])
 (.seq (.seq (cR [oM 23 0,
 oA 24 .nilCheck [.t 23],
 oA 25 (.fieldAddr 1) [.t 24],
 oA 26 (.load false 1) [.t 25],
 oM 27 1,
 oA 28 .call [.c (.func (.func 22) #[] #[]),.t 26,.t 27],
 oM 22 28,
 oA 29 (.extract 0) [.t 22],
 oA 30 (.extract 1) [.t 22],
 oM 7 29,
 oM 8 30] [0,1,6,7,8])
 (.seq (cR [oM 31 8] [0,1,6,7,31])
 (.cond (.t 31) (.seq (.seq (cR [oM 32 7,
 oA 33 (.isNil .slice false) [.t 32]] [6,7,33])
 (.cond (.t 33) (cR [oM 34 6,
 oM 7 34] [7])
 (.skip)))
 (.seq (cR [oM 35 7,
 oM 4 35,
 oA 5 .move [.c (.int .i64 (0))]] [4,5])
 (.ret)))
 (.skip))))
 (.seq (cR [oM 37 0,
 oA 38 .nilCheck [.t 37],
 oA 39 (.fieldAddr 0) [.t 38],
 oA 40 (.load false 1) [.t 39],
 oM 41 1,
 oA 42 .call [.c (.func (.func 23) #[] #[]),.t 40,.t 41],
 oM 36 42,
 oA 43 (.extract 0) [.t 36],
 oA 44 (.extract 1) [.t 36],
 oA 45 (.extract 2) [.t 36],
 oA 9 (.new 70 5 [(.int .i64 (0)), (.int .i64 (0)), (.int .i64 (0)), (.int .i64 (0)), (.int .i64 (0))]) [],
 oN (.store 5) [.t 9,.t 43],
 oM 10 44,
 oM 11 45] [0,6,9,10,11])
 (.seq (.block 0 (.seq (cR [oM 47 11,
 oA 48 (.bin .neq) [.t 47,.c (.int .i64 (0))],
 oM 46 48] [0,6,9,10,11,46])
 (.cond (.t 46) (.seq (cR [oM 49 11,
 oA 50 .call [.c (.func (.func 24) #[] #[]),.t 49],
 oA 4 .move [.c (.slice none 0 0)],
 oM 5 50] [4,5])
 (.ret))
 (.seq (cR [oM 52 10,
 oA 53 (.un .not) [.t 52],
 oM 51 53] [0,6,9,51])
 (.cond (.t 51) (.seq (cR [oM 54 6,
 oM 4 54,
 oA 5 .move [.c (.int .i64 (0))]] [4,5])
 (.ret))
 (.skip))))))
 (.seq (cD [⟨[oM 56 0,
 oA 57 .nilCheck [.t 56],
 oA 58 (.fieldAddr 0) [.t 57],
 oA 59 (.load false 1) [.t 58],
 oA 61 (.fieldAddr 1) [.t 9],
 oA 62 (.load true 3) [.t 61],
 oA 63 (.fieldAddr 4) [.t 9],
 oA 64 (.load false 1) [.t 63]],some (oA 60 .call [.c (.func (.func 25) #[] #[]),.t 59]),[62,64],[]⟩,
 ⟨[],some (oA 65 .call [.c (.func (.func 26) #[] #[]),.t 60,.t 62,.t 64]),[],[]⟩,
 ⟨[oM 55 65,
 oA 66 (.extract 0) [.t 55],
 oA 67 (.extract 1) [.t 55],
 oM 12 66,
 oM 11 67],none,[],[]⟩] [56,57,58,59,60,61,62,63,64,65,55,66,67,12,11] [9,11,12])
 (.seq (.block 1 (.seq (cR [oM 69 11,
 oA 70 (.bin .neq) [.t 69,.c (.int .i64 (0))],
 oM 68 70] [9,11,12,68])
 (.cond (.t 68) (.seq (cR [oM 71 11,
 oA 72 .call [.c (.func (.func 24) #[] #[]),.t 71],
 oA 4 .move [.c (.slice none 0 0)],
 oM 5 72] [4,5])
 (.ret))
 (.seq (cR [oA 74 (.fieldAddr 1) [.t 9],
 oA 75 (.fieldAddr 2) [.t 74],
 oA 76 (.load false 1) [.t 75],
 oM 77 12,
 oA 78 .lenS [.t 77],
 oA 79 (.bin .geq) [.t 76,.t 78],
 oM 73 79] [9,12,73])
 (.cond (.t 73) (.seq (cR [oA 4 .move [.c (.slice none 0 0)],
 oA 5 .move [.c (.int .i64 (10))]] [4,5])
 (.ret))
 (.skip))))))
 (.seq (cR [oM 80 12,
 oA 81 (.fieldAddr 1) [.t 9],
 oA 82 (.fieldAddr 2) [.t 81],
 oA 83 (.load false 1) [.t 82],
 oA 84 (.idxAddr 1) [.t 80,.t 83],
 oA 85 (.load false 1) [.t 84],
 oM 4 85,
 oA 5 .move [.c (.int .i64 (0))]] [4,5])
 (.ret))))))))),
 [.tmp 4, .tmp 5], none⟩

def f11 : Func := ⟨.seq (cR [oA 2 .move [.c (.int .i64 (0))]] [0])
 (.seq (.seq (cR [oM 3 0,
 oA 4 (.isNil .ptr false) [.t 3]] [0,4])
 (.cond (.t 4) (.seq (cR [oA 2 .move [.c (.int .i64 (0))]] [2])
 (.ret))
 (.skip)))
 (.seq (cR [oM 5 0,
 oA 6 .nilCheck [.t 5],
 oA 7 (.fieldAddr 1) [.t 6],
 oA 8 (.load false 1) [.t 7],
 oA 9 .call [.c (.func (.func 27) #[] #[]),.t 8],
 oM 2 9] [2])
 (.ret))),
 [.tmp 2], none⟩

def l12_0 : Code :=
 .seq (cR [oA 15 (.bin .lss) [.t 14,.t 13]] [4,13,14,15])
 (.seq (.cond (.t 15) (.skip)
 (.exit 0))
 (.seq (.block 1 (cD [⟨[oM 16 4,
 oM 17 4,
 oA 18 .nilCheck [.t 17],
 oA 19 (.fieldAddr 0) [.t 18],
 oA 20 (.load false 1) [.t 19]],some (oA 21 (.newSlice 5 1 1 [(.int .u8 (0))]) [.c (.int .i64 (64)),.c (.int .i64 (64))]),[20],[]⟩,
 ⟨[],some (oA 22 (.buildSlice 23 1 1 [(.slice none 0 0)] [(0, 1)]) [.t 21]),[20],[]⟩,
 ⟨[],some (oA 23 (.append 23 1 24) [.t 20,.t 22]),[],[]⟩,
 ⟨[oA 24 .nilCheck [.t 16],
 oA 25 (.fieldAddr 0) [.t 24]],some (oN (.store 1) [.t 25,.t 23]),[],[]⟩] [16,17,18,19,20,21,22,23,24,25] [4,13,14]))
 (cR [oA 26 (.bin .add) [.t 14,.c (.int .i64 (1))],
 oM 14 26] [4,13,14])))
def f12 : Func := ⟨.seq (cR [oA 2 .move [.c (.pointer none)],
 oA 3 .move [.c (.int .i64 (0))]] [0])
 (.seq (.seq (cR [oM 5 0,
 oA 6 (.bin .lss) [.t 5,.c (.int .i64 (64))],
 oM 7 6,
 oG (some 8) .move [.t 0] 7 false,
 oG (some 9) (.bin .gtr) [.t 8,.c (.int .i64 (8192))] 7 false,
 oA 10 .pick [.t 7,.c (.bool true),.t 9]] [0,10])
 (.cond (.t 10) (.seq (cR [oA 2 .move [.c (.pointer none)],
 oA 3 .move [.c (.int .i64 (1))]] [2,3])
 (.ret))
 (.skip)))
 (.seq (cR [oA 11 (.build [(.slice none 0 0), (.slice none 0 0), (.slice none 0 0), (.int .i64 (0)), (.int .i64 (0)), (.int .i64 (0)), (.int .i64 (0)), (.int .i64 (0)), (.int .i64 (0)), (.int .i64 (0)), (.int .i64 (0))] []) [],
 oA 12 (.box 83 11) [.t 11],
 oM 4 12] [0,4])
 (.seq (.seq (cR [oM 13 0,
 oA 14 .move [.c (.int .i64 (0))]] [4,13,14])
 (.block 0 (.loop [4,13,14] l12_0)))
 (.seq (cR [oM 27 4,
 oM 2 27,
 oA 3 .move [.c (.int .i64 (0))]] [2,3])
 (.ret))))),
 [.tmp 2, .tmp 3], none⟩

def f13 : Func := ⟨.seq (cR [oA 6 .move [.c (.int .i64 (0))]] [0,1,2])
 (.seq (cR [oM 7 0,
 oM 8 1,
 oM 9 2,
 oA 10 .call [.c (.func (.func 28) #[] #[]),.t 7,.t 8,.t 9],
 oM 6 10] [6])
 (.ret)),
 [.tmp 6], none⟩

def f14 : Func := ⟨.seq (cR [oA 2 .move [.c (.int .i64 (0))]] [0])
 (.seq (cR [oM 4 0,
 oM 5 0,
 oA 6 .nilCheck [.t 5],
 oA 7 (.fieldAddr 0) [.t 6],
 oA 8 (.load false 1) [.t 7],
 oA 9 .call [.c (.func (.func 29) #[] #[]),.t 8],
 oM 3 9,
 oA 10 (.extract 0) [.t 3],
 oA 11 (.extract 1) [.t 3],
 oA 12 .nilCheck [.t 4],
 oA 13 (.fieldAddr 1) [.t 12],
 oN (.store 1) [.t 13,.t 10],
 oM 2 11] [2])
 (.seq (cR [oM 14 2,
 oM 2 14] [2])
 (.ret))),
 [.tmp 2], none⟩

def f15 : Func := ⟨.seq (cR [oA 3 (.box 34 6) [.t 1],
 oA 4 .move [.c (.int .i64 (0))],
 oA 5 .move [.c (.bool false)]] [0,3])
 (.seq (.seq (cR [oA 6 (.fieldAddr 0) [.t 3],
 oA 7 (.load false 1) [.t 6]] [0,3,7])
 (.block 0 (.seq (cR [oA 9 (.bin .eql) [.t 7,.c (.int .i64 (5))],
 oM 8 9] [0,3,7,8])
 (.cond (.t 8) (.seq (cD [⟨[oM 10 0,
 oA 11 .nilCheck [.t 10],
 oA 12 (.fieldAddr 0) [.t 11],
 oA 13 (.load false 1) [.t 12],
 oA 14 (.fieldAddr 4) [.t 3],
 oA 15 (.load false 1) [.t 14]],some (oA 16 .call [.c (.func (.func 30) #[] #[]),.t 13,.t 15]),[],[]⟩] [10,11,12,13,14,15,16] [0])
 (.seq (cR [oM 17 0,
 oA 18 .call [.c (.func (.func 14) #[] #[]),.t 17],
 oM 4 18,
 oA 5 .move [.c (.bool true)]] [4,5])
 (.ret)))
 (.seq (cR [oA 20 (.bin .eql) [.t 7,.c (.int .i64 (8))],
 oM 19 20] [0,3,7,19])
 (.cond (.t 19) (.seq (cR [oM 21 0,
 oA 22 .call [.c (.func (.func 14) #[] #[]),.t 21],
 oM 4 22,
 oA 5 .move [.c (.bool true)]] [4,5])
 (.ret))
 (.seq (cR [oA 24 (.bin .eql) [.t 7,.c (.int .i64 (6))],
 oM 23 24] [0,3,7,23])
 (.cond (.t 23) (.seq (.seq (cD [⟨[oM 25 0,
 oA 26 .nilCheck [.t 25],
 oA 27 (.fieldAddr 0) [.t 26],
 oA 28 (.load false 1) [.t 27],
 oA 29 (.fieldAddr 1) [.t 3],
 oA 30 (.load false 1) [.t 29],
 oA 31 (.fieldAddr 2) [.t 3],
 oA 32 (.load false 1) [.t 31],
 oA 33 (.fieldAddr 5) [.t 3],
 oA 34 (.load false 1) [.t 33]],some (oA 35 .call [.c (.func (.func 31) #[] #[]),.t 28,.t 30,.t 32,.t 34]),[],[]⟩,
 ⟨[oA 36 (.un .not) [.t 35]],none,[],[]⟩] [25,26,27,28,29,30,31,32,33,34,35,36] [36])
 (.cond (.t 36) (.seq (cR [oA 4 .move [.c (.int .i64 (1))],
 oA 5 .move [.c (.bool true)]] [4,5])
 (.ret))
 (.skip)))
 (.seq (cR [oA 4 .move [.c (.int .i64 (0))],
 oA 5 .move [.c (.bool true)]] [4,5])
 (.ret)))
 (.seq (cR [oA 38 (.bin .eql) [.t 7,.c (.int .i64 (7))],
 oM 37 38] [0,3,37])
 (.cond (.t 37) (.seq (cD [⟨[oM 39 0,
 oA 40 .nilCheck [.t 39],
 oA 41 (.fieldAddr 0) [.t 40],
 oA 42 (.load false 1) [.t 41],
 oA 43 (.fieldAddr 1) [.t 3],
 oA 44 (.load false 1) [.t 43],
 oA 45 (.fieldAddr 2) [.t 3],
 oA 46 (.load false 1) [.t 45],
 oA 47 (.build [(.int .i64 (0)), (.int .i64 (0))] [(0, 1), (1, 1)]) [.t 44,.t 46]],some (oA 48 (.buildSlice 90 2 1 [(.int .i64 (0)), (.int .i64 (0))] [(0, 2)]) [.t 47]),[42],[]⟩,
 ⟨[],some (oA 49 .call [.c (.func (.func 32) #[] #[]),.t 42,.t 48]),[],[]⟩] [39,40,41,42,43,44,45,46,47,48,49] [])
 (.seq (cR [oA 4 .move [.c (.int .i64 (0))],
 oA 5 .move [.c (.bool true)]] [4,5])
 (.ret)))
 (.skip)))))))))))
 (.seq (cR [oA 4 .move [.c (.int .i64 (0))],
 oA 5 .move [.c (.bool false)]] [4,5])
 (.ret))),
 [.tmp 4, .tmp 5], none⟩

def f16 : Func := ⟨.seq (cR [oA 6 .move [.c (.int .i64 (0))]] [0,1,2])
 (.seq (.block 0 (.seq (cR [oM 9 0,
 oA 10 (.isNil .ptr false) [.t 9],
 oM 11 10,
 oG (some 12) .move [.t 0] 11 false,
 oG (some 13) .move [.t 1] 11 false,
 oG (some 14) .call [.c (.func (.func 21) #[] #[]),.t 12,.t 13,.c (.int .i64 (1))] 11 false,
 oG (some 15) (.un .not) [.t 14] 11 false,
 oA 16 .pick [.t 11,.c (.bool true),.t 15],
 oM 17 16,
 oG (some 18) .move [.t 2] 17 false,
 oG (some 19) .lenS [.t 18] 17 false,
 oG (some 20) (.bin .neq) [.t 19,.c (.int .i64 (128))] 17 false,
 oA 21 .pick [.t 17,.c (.bool true),.t 20],
 oM 8 21] [0,1,2,8])
 (.cond (.t 8) (.seq (cR [oA 6 .move [.c (.int .i64 (1))]] [6])
 (.ret))
 (.seq (cR [oM 23 0,
 oA 24 .call [.c (.func (.func 33) #[] #[]),.t 23],
 oM 22 24] [0,1,2,22])
 (.cond (.t 22) (.seq (cR [oA 6 .move [.c (.int .i64 (9))]] [6])
 (.ret))
 (.skip))))))
 (.seq (.seq (cR [oM 25 0,
 oA 26 .nilCheck [.t 25],
 oA 27 (.fieldAddr 1) [.t 26],
 oA 28 (.load false 1) [.t 27],
 oM 29 1,
 oA 30 (.buildSlice 3 1 1 [(.int .i64 (0))] [(0, 1)]) [.t 29],
 oA 31 .call [.c (.func (.func 34) #[] #[]),.t 28,.t 30],
 oA 32 (.un .not) [.t 31]] [0,1,2,32])
 (.cond (.t 32) (.seq (cR [oM 33 0,
 oA 34 .call [.c (.func (.func 18) #[] #[]),.t 33],
 oM 7 34] [0,1,2,7])
 (.seq (cR [oM 35 7,
 oA 36 (.bin .neq) [.t 35,.c (.int .i64 (0))]] [0,1,2,7,36])
 (.cond (.t 36) (.seq (cR [oM 37 7,
 oM 6 37] [6])
 (.ret))
 (.skip))))
 (.skip)))
 (.seq (cR [oM 38 0,
 oA 39 .nilCheck [.t 38],
 oA 40 (.fieldAddr 1) [.t 39],
 oA 41 (.load false 1) [.t 40],
 oM 42 1,
 oM 43 2,
 oA 44 .call [.c (.func (.func 35) #[] #[]),.t 41,.t 42,.t 43]] [])
 (.seq (cR [oA 6 .move [.c (.int .i64 (0))]] [6])
 (.ret))))),
 [.tmp 6], none⟩

def l17_0 : Code :=
 .seq (.seq (cR [oM 22 2,
 oA 23 (.bin .gtr) [.t 22,.c (.int .i64 (0))]] [0,1,2,23])
 (.cond (.t 23) (.skip)
 (.exit 1)))
 (.block 2 (.seq (cR [oM 24 2,
 oA 25 .min [.t 24,.c (.int .i64 (64))],
 oM 7 25] [0,1,2,7])
 (.seq (.seq (cR [oM 26 0,
 oA 27 .nilCheck [.t 26],
 oA 28 (.fieldAddr 1) [.t 27],
 oA 29 (.load false 1) [.t 28],
 oM 30 1,
 oM 31 7,
 oA 32 .call [.c (.func (.func 36) #[] #[]),.t 29,.t 30,.t 31],
 oA 33 (.un .not) [.t 32]] [0,1,2,7,33])
 (.cond (.t 33) (.seq (.seq (cR [oM 34 0,
 oA 35 .call [.c (.func (.func 18) #[] #[]),.t 34],
 oM 8 35] [0,1,2,7,8])
 (.seq (cR [oM 36 8,
 oA 37 (.bin .neq) [.t 36,.c (.int .i64 (0))]] [0,1,2,7,8,37])
 (.cond (.t 37) (.seq (cR [oM 38 8,
 oM 6 38] [6])
 (.ret))
 (.skip))))
 (cR [oM 39 0,
 oA 40 .nilCheck [.t 39],
 oA 41 (.fieldAddr 1) [.t 40],
 oA 42 (.load false 1) [.t 41],
 oM 43 1,
 oM 44 7,
 oA 45 .call [.c (.func (.func 36) #[] #[]),.t 42,.t 43,.t 44]] [0,1,2,7]))
 (.skip)))
 (cR [oM 46 1,
 oM 47 7,
 oA 48 (.bin .add) [.t 46,.t 47],
 oM 49 2,
 oM 50 7,
 oA 51 (.bin .sub) [.t 49,.t 50],
 oM 1 48,
 oM 2 51] [0,1,2]))))
def f17 : Func := ⟨.seq (cR [oA 6 .move [.c (.int .i64 (0))]] [0,1,2])
 (.seq (.block 0 (.seq (cR [oM 10 0,
 oA 11 (.isNil .ptr false) [.t 10],
 oM 12 11,
 oG (some 13) .move [.t 0] 12 false,
 oG (some 14) .move [.t 1] 12 false,
 oG (some 15) .move [.t 2] 12 false,
 oG (some 16) .call [.c (.func (.func 21) #[] #[]),.t 13,.t 14,.t 15] 12 false,
 oG (some 17) (.un .not) [.t 16] 12 false,
 oA 18 .pick [.t 12,.c (.bool true),.t 17],
 oM 9 18] [0,1,2,9])
 (.cond (.t 9) (.seq (cR [oA 6 .move [.c (.int .i64 (1))]] [6])
 (.ret))
 (.seq (cR [oM 20 0,
 oA 21 .call [.c (.func (.func 33) #[] #[]),.t 20],
 oM 19 21] [0,1,2,19])
 (.cond (.t 19) (.seq (cR [oA 6 .move [.c (.int .i64 (9))]] [6])
 (.ret))
 (.skip))))))
 (.seq (.block 1 (.loop [0,1,2] l17_0))
 (.seq (cR [oA 6 .move [.c (.int .i64 (0))]] [6])
 (.ret)))),
 [.tmp 6], none⟩

def f18 : Func := ⟨.seq (cR [oA 2 .move [.c (.int .i64 (0))]] [0])
 (.seq (.block 0 (.seq (cR [oM 7 0,
 oA 8 (.isNil .ptr false) [.t 7],
 oM 6 8] [0,6])
 (.cond (.t 6) (.seq (cR [oA 2 .move [.c (.int .i64 (1))]] [2])
 (.ret))
 (.seq (cR [oM 10 0,
 oA 11 .nilCheck [.t 10],
 oA 12 (.fieldAddr 1) [.t 11],
 oA 13 (.load false 1) [.t 12],
 oA 14 .call [.c (.func (.func 27) #[] #[]),.t 13],
 oA 15 (.bin .eql) [.t 14,.c (.int .i64 (0))],
 oM 9 15] [0,9])
 (.cond (.t 9) (.seq (cR [oA 2 .move [.c (.int .i64 (0))]] [2])
 (.ret))
 (.seq (cR [oM 17 0,
 oA 18 .call [.c (.func (.func 33) #[] #[]),.t 17],
 oM 16 18] [0,16])
 (.cond (.t 16) (.seq (cR [oA 2 .move [.c (.int .i64 (9))]] [2])
 (.ret))
 (.skip))))))))
 (.seq (cR [oM 20 0,
 oA 21 .call [.c (.func (.func 37) #[] #[]),.t 20],
 oM 19 21,
 oA 22 (.extract 0) [.t 19],
 oA 23 (.extract 1) [.t 19],
 oA 24 (.extract 2) [.t 19],
 oM 3 22,
 oM 4 23,
 oM 5 24] [0,3,4,5])
 (.seq (.seq (cR [oM 25 5,
 oA 26 (.bin .neq) [.t 25,.c (.int .i64 (0))]] [0,3,4,5,26])
 (.cond (.t 26) (.seq (cR [oM 27 0,
 oA 28 .nilCheck [.t 27],
 oA 29 (.fieldAddr 0) [.t 28],
 oA 30 (.load false 1) [.t 29],
 oA 31 .call [.c (.func (.func 38) #[] #[]),.t 30]] [5])
 (.seq (cR [oM 32 5,
 oM 2 32] [2])
 (.ret)))
 (.skip)))
 (.seq (cR [oM 33 0,
 oA 34 .nilCheck [.t 33],
 oA 35 (.fieldAddr 0) [.t 34],
 oA 36 (.load false 1) [.t 35],
 oM 37 3,
 oM 38 4,
 oA 39 .call [.c (.func (.func 39) #[] #[]),.t 36,.t 37,.t 38],
 oM 5 39] [0,5])
 (.seq (.seq (cR [oM 40 5,
 oA 41 (.bin .eql) [.t 40,.c (.int .i64 (0))],
 oM 42 41,
 oG (some 43) .move [.t 0] 42 false,
 oG (some 44) .call [.c (.func (.func 33) #[] #[]),.t 43] 42 false,
 oA 45 .pick [.t 42,.c (.bool true),.t 44]] [0,5,45])
 (.cond (.t 45) (cR [oM 46 0,
 oA 47 .nilCheck [.t 46],
 oA 48 (.fieldAddr 1) [.t 47],
 oA 49 (.load false 1) [.t 48],
 oA 50 .call [.c (.func (.func 40) #[] #[]),.t 49]] [5])
 (.skip)))
 (.seq (cR [oM 51 5,
 oM 2 51] [2])
 (.ret))))))),
 [.tmp 2], none⟩

def l19_0 : Code :=
 .seq (cR [oA 32 (.bin .lss) [.t 31,.t 30]] [0,6,29,30,31,32])
 (.seq (.cond (.t 32) (.skip)
 (.exit 1))
 (.seq (.block 2 (.seq (cR [oA 33 (.idxAddr 8) [.t 29,.t 31],
 oA 34 (.load true 8) [.t 33],
 oA 8 (.new 106 8 [(.int .i64 (0)), (.int .i64 (0)), (.int .i64 (0)), (.bool false), (.slice none 0 0), (.slice none 0 0), (.slice none 0 0), (.int .i64 (0))]) [],
 oN (.store 8) [.t 8,.t 34]] [0,6,8,29,30,31])
 (.seq (cR [oA 35 (.fieldAddr 7) [.t 8],
 oA 36 (.load false 1) [.t 35],
 oA 37 (.fieldAddr 7) [.t 6],
 oA 38 (.load false 1) [.t 37],
 oA 39 (.bin .gtr) [.t 36,.t 38]] [0,6,8,29,30,31,39])
 (.cond (.t 39) (cR [oA 40 (.load true 8) [.t 8],
 oN (.store 8) [.t 6,.t 40]] [0,6,29,30,31])
 (.skip)))))
 (cR [oA 41 (.bin .add) [.t 31,.c (.int .i64 (1))],
 oM 31 41] [0,6,29,30,31])))
def f19 : Func := ⟨.seq (cR [oA 2 .move [.c (.bool false)],
 oA 3 .move [.c (.int .i64 (0))]] [0])
 (.seq (.block 0 (.seq (cR [oM 11 0,
 oA 12 (.isNil .ptr false) [.t 11],
 oM 10 12] [0,10])
 (.cond (.t 10) (.seq (cR [oA 2 .move [.c (.bool false)],
 oA 3 .move [.c (.int .i64 (1))]] [2,3])
 (.ret))
 (.seq (cR [oM 14 0,
 oA 15 .call [.c (.func (.func 11) #[] #[]),.t 14],
 oA 16 (.bin .gtr) [.t 15,.c (.int .i64 (0))],
 oM 17 16,
 oG (some 18) .move [.t 0] 17 false,
 oG (some 19) .call [.c (.func (.func 33) #[] #[]),.t 18] 17 false,
 oA 20 .pick [.t 17,.c (.bool true),.t 19],
 oM 13 20] [0,13])
 (.cond (.t 13) (.seq (cR [oA 2 .move [.c (.bool false)],
 oA 3 .move [.c (.int .i64 (9))]] [2,3])
 (.ret))
 (.skip))))))
 (.seq (cR [oM 22 0,
 oA 23 .call [.c (.func (.func 41) #[] #[]),.t 22],
 oM 21 23,
 oA 24 (.extract 0) [.t 21],
 oA 25 (.extract 1) [.t 21],
 oM 4 24,
 oM 5 25] [0,4,5])
 (.seq (.seq (cR [oM 26 5,
 oA 27 (.bin .neq) [.t 26,.c (.int .i64 (0))]] [0,4,5,27])
 (.cond (.t 27) (.seq (cR [oM 28 5,
 oA 2 .move [.c (.bool false)],
 oM 3 28] [2,3])
 (.ret))
 (.skip)))
 (.seq (cR [oA 6 (.new 106 8 [(.int .i64 (0)), (.int .i64 (0)), (.int .i64 (0)), (.bool false), (.slice none 0 0), (.slice none 0 0), (.slice none 0 0), (.int .i64 (0))]) []] [0,4,6])
 (.seq (.seq (cR [oM 29 4,
 oA 30 .lenS [.t 29],
 oA 31 .move [.c (.int .i64 (0))]] [0,6,29,30,31])
 (.block 1 (.loop [0,6,29,30,31] l19_0)))
 (.seq (.seq (cR [oA 42 (.fieldAddr 7) [.t 6],
 oA 43 (.load false 1) [.t 42],
 oA 44 (.bin .eql) [.t 43,.c (.int .i64 (0))]] [0,6,44])
 (.cond (.t 44) (.seq (cR [oA 2 .move [.c (.bool true)],
 oA 3 .move [.c (.int .i64 (0))]] [2,3])
 (.ret))
 (.skip)))
 (.seq (cR [oM 46 0,
 oA 47 (.load true 8) [.t 6],
 oA 48 .call [.c (.func (.func 42) #[] #[]),.t 46,.t 47],
 oM 45 48,
 oA 49 (.extract 0) [.t 45],
 oA 50 (.extract 1) [.t 45],
 oM 9 49,
 oM 5 50] [0,5,9])
 (.seq (.seq (cR [oM 51 5,
 oA 52 (.bin .neq) [.t 51,.c (.int .i64 (0))]] [0,5,9,52])
 (.cond (.t 52) (.seq (cR [oM 53 0,
 oA 54 .call [.c (.func (.func 43) #[] #[]),.t 53],
 oA 55 .call [.c (.func (.func 38) #[] #[]),.t 54]] [5])
 (.seq (cR [oM 56 5,
 oA 2 .move [.c (.bool false)],
 oM 3 56] [2,3])
 (.ret)))
 (.skip)))
 (.seq (cR [oM 57 0,
 oA 58 .call [.c (.func (.func 43) #[] #[]),.t 57],
 oM 59 9,
 oA 60 .call [.c (.func (.func 39) #[] #[]),.t 58,.t 59,.c (.slice none 0 0)],
 oA 2 .move [.c (.bool false)],
 oM 3 60] [2,3])
 (.ret)))))))))),
 [.tmp 2, .tmp 3], none⟩

def l20_0 : Code :=
 .seq (cR [oA 37 (.bin .lss) [.t 36,.c (.int .i64 (2))]] [2,6,36,37])
 (.seq (.cond (.t 37) (.skip)
 (.exit 0))
 (.seq (.block 1 (.seq (cR [oM 38 36,
 oM 7 38] [2,6,7,36])
 (cD [⟨[oM 39 6,
 oM 40 7,
 oM 41 6,
 oM 42 7,
 oA 44 .nilCheck [.t 39],
 oA 45 (.fieldAddr 1) [.t 44],
 oA 46 (.fieldAddr 3) [.t 45]],some (oA 43 .call [.c (.func (.func 48) #[] #[]),.t 41,.t 42]),[],[]⟩,
 ⟨[oA 47 (.idxAddrA 2 1) [.t 46,.t 40]],some (oN (.store 1) [.t 47,.t 43]),[],[]⟩] [39,40,41,42,43,44,45,46,47] [2,6,36])))
 (cR [oA 48 (.bin .add) [.t 36,.c (.int .i64 (1))],
 oM 36 48] [2,6,36])))
def f20 : Func := ⟨.seq (cR [oA 2 (.new 57 5 [(.slice none 0 0), (.int .i64 (0)), (.int .i64 (0)), (.bool false), (.bool false)]) [],
 oA 3 .move [.c (.int .i64 (0))]] [0,2])
 (.seq (.seq (cR [oM 8 0,
 oA 9 (.isNil .ptr false) [.t 8]] [0,2,9])
 (.cond (.t 9) (.seq (cR [oA 10 (.build [(.slice none 0 0), (.int .i64 (0)), (.int .i64 (0)), (.bool false), (.bool false)] []) [],
 oN (.store 5) [.t 2,.t 10],
 oA 3 .move [.c (.int .i64 (1))]] [2,3])
 (.ret))
 (.skip)))
 (.seq (cR [oM 11 0,
 oA 12 .call [.c (.func (.func 43) #[] #[]),.t 11],
 oM 4 12] [0,2,4])
 (.seq (cR [oM 13 4,
 oA 14 .call [.c (.func (.func 44) #[] #[]),.t 13],
 oA 15 (.field 4 true 4) [.t 14],
 oA 5 (.new 113 4 [(.int .i64 (0)), (.int .i64 (0)), (.int .i64 (0)), (.int .i64 (0))]) [],
 oN (.store 4) [.t 5,.t 15]] [0,2,4,5])
 (.seq (cR [oM 16 4,
 oA 17 .newMap [],
 oA 18 (.build [(.pointer none), (.slice none 0 0), (.int .i64 (0)), (.int .i64 (0)), (.bool false), (.bool false), (.map none)] [(0, 1), (6, 1)]) [.t 16,.t 17],
 oA 19 (.box 120 7) [.t 18],
 oM 6 19] [0,2,4,5,6])
 (.seq (cD [⟨[oM 20 6,
 oM 21 4,
 oA 23 (.load true 4) [.t 5],
 oM 24 0],some (oA 22 .call [.c (.func (.func 25) #[] #[]),.t 21]),[23],[]⟩,
 ⟨[],some (oA 25 .call [.c (.func (.func 46) #[] #[]),.t 24]),[23],[]⟩,
 ⟨[],some (oA 26 .call [.c (.func (.func 45) #[] #[]),.t 22,.t 23,.t 25]),[],[]⟩,
 ⟨[oA 27 .nilCheck [.t 20],
 oA 28 (.fieldAddr 1) [.t 27],
 oA 29 (.fieldAddr 0) [.t 28]],some (oN (.store 1) [.t 29,.t 26]),[],[]⟩] [20,21,22,23,24,25,26,27,28,29] [2,5,6])
 (.seq (cR [oM 30 6,
 oA 31 (.fieldAddr 0) [.t 5],
 oA 32 (.load true 3) [.t 31],
 oA 33 (.fieldAddr 3) [.t 5],
 oA 34 (.load false 1) [.t 33],
 oA 35 .call [.c (.func (.func 47) #[] #[]),.t 30,.t 32,.t 34,.c (.int .i64 (0)),.c (.int .i64 (512))]] [2,6])
 (.seq (.seq (cR [oA 36 .move [.c (.int .i64 (0))]] [2,6,36])
 (.block 0 (.loop [2,6,36] l20_0)))
 (.seq (cR [oM 49 6,
 oA 50 .nilCheck [.t 49],
 oA 51 (.fieldAddr 1) [.t 50],
 oA 52 (.load true 5) [.t 51],
 oN (.store 5) [.t 2,.t 52],
 oA 3 .move [.c (.int .i64 (0))]] [2,3])
 (.ret))))))))),
 [.cell 2 true 5, .tmp 3], none⟩

def f21 : Func := ⟨.seq (cR [oA 6 .move [.c (.bool false)]] [0,1,2])
 (.seq (cR [oM 7 2,
 oA 8 (.bin .geq) [.t 7,.c (.int .i64 (0))],
 oM 9 8,
 oG (some 10) .move [.t 1] 9 true,
 oG (some 11) (.bin .geq) [.t 10,.c (.int .i64 (0))] 9 true,
 oA 12 .pick [.t 9,.t 11,.c (.bool false)],
 oM 13 12,
 oG (some 14) .move [.t 2] 13 true,
 oG (some 15) .move [.t 0] 13 true,
 oG (some 16) .call [.c (.func (.func 46) #[] #[]),.t 15] 13 true,
 oG (some 17) (.bin .leq) [.t 14,.t 16] 13 true,
 oA 18 .pick [.t 13,.t 17,.c (.bool false)],
 oM 19 18,
 oG (some 20) .move [.t 1] 19 true,
 oG (some 21) .move [.t 0] 19 true,
 oG (some 22) .call [.c (.func (.func 46) #[] #[]),.t 21] 19 true,
 oG (some 23) .move [.t 2] 19 true,
 oG (some 24) (.bin .sub) [.t 22,.t 23] 19 true,
 oG (some 25) (.bin .leq) [.t 20,.t 24] 19 true,
 oA 26 .pick [.t 19,.t 25,.c (.bool false)],
 oM 6 26] [6])
 (.ret)),
 [.tmp 6], none⟩

def f22 : Func := ⟨.seq (cR [oA 4 .move [.c (.slice none 0 0)],
 oA 5 .move [.c (.bool false)]] [0,1])
 (.seq (.seq (cR [oM 8 0,
 oA 9 .call [.c (.func (.func 49) #[] #[]),.t 8],
 oA 10 (.un .not) [.t 9]] [0,1,10])
 (.cond (.t 10) (.seq (cR [oA 4 .move [.c (.slice none 0 0)],
 oA 5 .move [.c (.bool false)]] [4,5])
 (.ret))
 (.skip)))
 (.seq (cR [oM 12 0,
 oA 13 .nilCheck [.t 12],
 oA 14 (.fieldAddr 1) [.t 13],
 oA 15 (.load false 1) [.t 14],
 oM 16 1,
 oA 17 (.lookup none (.slice none 0 0) true) [.t 15,.t 16],
 oM 11 17,
 oA 18 (.extract 0) [.t 11],
 oA 19 (.extract 1) [.t 11],
 oM 6 18,
 oM 7 19] [6,7])
 (.seq (cR [oM 20 6,
 oA 21 .call [.c (.func (.func 50) #[] #[]),.t 20],
 oM 22 7,
 oM 4 21,
 oM 5 22] [4,5])
 (.ret)))),
 [.tmp 4, .tmp 5], none⟩

def f23 : Func := ⟨.seq (cR [oA 4 (.new 70 5 [(.int .i64 (0)), (.int .i64 (0)), (.int .i64 (0)), (.int .i64 (0)), (.int .i64 (0))]) [],
 oA 5 .move [.c (.bool false)],
 oA 6 .move [.c (.int .i64 (0))]] [0,1,4])
 (.seq (.seq (cR [oM 7 0,
 oA 8 .call [.c (.func (.func 51) #[] #[]),.t 7],
 oA 9 (.un .not) [.t 8],
 oM 10 9,
 oG (some 11) .move [.t 1] 10 false,
 oG (some 12) (.bin .lss) [.t 11,.c (.int .i64 (0))] 10 false,
 oA 13 .pick [.t 10,.c (.bool true),.t 12],
 oM 14 13,
 oG (some 15) .move [.t 1] 14 false,
 oG (some 16) .move [.t 0] 14 false,
 oG (some 17) .nilCheck [.t 16] 14 false,
 oG (some 18) (.fieldAddr 1) [.t 17] 14 false,
 oG (some 19) (.fieldAddr 2) [.t 18] 14 false,
 oG (some 20) (.load false 1) [.t 19] 14 false,
 oG (some 21) (.bin .geq) [.t 15,.t 20] 14 false,
 oA 22 .pick [.t 14,.c (.bool true),.t 21]] [0,1,4,22])
 (.cond (.t 22) (.seq (cR [oA 23 (.build [(.int .i64 (0)), (.int .i64 (0)), (.int .i64 (0)), (.int .i64 (0)), (.int .i64 (0))] []) [],
 oN (.store 5) [.t 4,.t 23],
 oA 5 .move [.c (.bool false)],
 oA 6 .move [.c (.int .i64 (1))]] [4,5,6])
 (.ret))
 (.skip)))
 (.seq (cD [⟨[oM 24 0,
 oA 25 .nilCheck [.t 24],
 oA 26 (.fieldAddr 11) [.t 25],
 oA 27 (.load false 1) [.t 26],
 oA 28 (.iface 76) [.t 27],
 oM 29 0,
 oA 30 .nilCheck [.t 29],
 oA 31 (.fieldAddr 1) [.t 30],
 oA 32 (.fieldAddr 4) [.t 31],
 oA 33 (.load true 4) [.t 32],
 oM 34 1],some (oA 35 .call [.c (.func (.func 52) #[] #[]),.t 28,.t 33,.t 34]),[],[]⟩,
 ⟨[oA 36 (.extract 0) [.t 35],
 oA 37 (.extract 1) [.t 35],
 oA 38 (.extract 2) [.t 35]],some (oN (.store 5) [.t 4,.t 36]),[],[]⟩,
 ⟨[oM 5 37,
 oM 6 38],none,[],[]⟩] [24,25,26,27,28,29,30,31,32,33,34,35,36,37,38,5,6] [4,5,6])
 (.ret))),
 [.cell 4 true 5, .tmp 5, .tmp 6], none⟩

def f24 : Func := ⟨.seq (cR [oA 2 .move [.c (.int .i64 (0))]] [0])
 (.seq (.seq (cR [oM 3 0,
 oA 4 (.bin .eql) [.t 3,.c (.int .i64 (6))]] [0,4])
 (.cond (.t 4) (.seq (cR [oM 5 0,
 oM 2 5] [2])
 (.ret))
 (.skip)))
 (.seq (cR [oA 2 .move [.c (.int .i64 (10))]] [2])
 (.ret))),
 [.tmp 2], none⟩

def f25 : Func := ⟨.seq (cR [oA 2 .move [.c (.pointer none)]] [0])
 (.seq (.seq (cR [oM 3 0,
 oA 4 .call [.c (.func (.func 51) #[] #[]),.t 3],
 oA 5 (.un .not) [.t 4]] [0,5])
 (.cond (.t 5) (.seq (cR [oA 2 .move [.c (.pointer none)]] [2])
 (.ret))
 (.skip)))
 (.seq (cR [oM 6 0,
 oA 7 .nilCheck [.t 6],
 oA 8 (.fieldAddr 11) [.t 7],
 oA 9 (.load false 1) [.t 8],
 oM 2 9] [2])
 (.ret))),
 [.tmp 2], none⟩

def f26 : Func := ⟨.seq (cR [oA 4 (.box 68 3) [.t 1],
 oA 6 .move [.c (.slice none 0 0)],
 oA 7 .move [.c (.int .i64 (0))]] [0,2,4])
 (.seq (cR [oM 13 0,
 oA 14 (.fieldAddr 0) [.t 4],
 oA 15 (.load false 1) [.t 14],
 oA 16 (.fieldAddr 1) [.t 4],
 oA 17 (.load false 1) [.t 16],
 oA 18 (.build [(.int .i64 (0)), (.int .i64 (0))] [(0, 1), (1, 1)]) [.t 15,.t 17],
 oA 19 .call [.c (.func (.func 53) #[] #[]),.t 13,.t 18],
 oM 12 19,
 oA 20 (.extract 0) [.t 12],
 oA 21 (.extract 1) [.t 12],
 oM 8 20,
 oM 9 21] [2,8,9])
 (.seq (.seq (cR [oM 22 9,
 oA 23 (.bin .neq) [.t 22,.c (.int .i64 (0))]] [2,8,9,23])
 (.cond (.t 23) (.seq (cR [oM 24 9,
 oA 6 .move [.c (.slice none 0 0)],
 oM 7 24] [6,7])
 (.ret))
 (.skip)))
 (.seq (cR [oM 26 8,
 oA 27 .call [.c (.func (.func 54) #[] #[]),.t 26],
 oM 25 27,
 oA 28 (.extract 0) [.t 25],
 oA 29 (.extract 1) [.t 25],
 oA 30 (.extract 2) [.t 25],
 oM 10 28,
 oM 11 29,
 oM 9 30] [2,9,10,11])
 (.seq (.block 0 (.seq (cR [oM 32 9,
 oA 33 (.bin .neq) [.t 32,.c (.int .i64 (0))],
 oM 31 33] [2,9,10,11,31])
 (.cond (.t 31) (.seq (cR [oM 34 9,
 oA 6 .move [.c (.slice none 0 0)],
 oM 7 34] [6,7])
 (.ret))
 (.seq (cR [oM 36 11,
 oM 37 2,
 oA 38 (.bin .neq) [.t 36,.t 37],
 oM 35 38] [10,35])
 (.cond (.t 35) (.seq (cR [oA 6 .move [.c (.slice none 0 0)],
 oA 7 .move [.c (.int .i64 (5))]] [6,7])
 (.ret))
 (.skip))))))
 (.seq (cR [oM 39 10,
 oM 6 39,
 oA 7 .move [.c (.int .i64 (0))]] [6,7])
 (.ret)))))),
 [.tmp 6, .tmp 7], none⟩

def f27 : Func := ⟨.seq (cR [oA 2 .move [.c (.int .i64 (0))]] [0])
 (.seq (.seq (cR [oM 3 0,
 oA 4 (.isNil .ptr false) [.t 3]] [0,4])
 (.cond (.t 4) (.seq (cR [oA 2 .move [.c (.int .i64 (0))]] [2])
 (.ret))
 (.skip)))
 (.seq (cR [oM 5 0,
 oA 6 .nilCheck [.t 5],
 oA 7 (.fieldAddr 1) [.t 6],
 oA 8 (.load false 1) [.t 7],
 oA 9 .lenM [.t 8],
 oM 2 9] [2])
 (.ret))),
 [.tmp 2], none⟩

def f28 : Func := ⟨.seq (cR [oA 3 (.box 41 1) [.t 0],
 oA 6 .move [.c (.int .i64 (0))]] [1,2,3])
 (.seq (.seq (cR [oA 11 (.load false 1) [.t 3],
 oA 12 .call [.c (.func (.func 55) #[] #[]),.t 11],
 oA 13 (.bin .eql) [.t 12,.c (.int .i64 (0))],
 oM 14 13,
 oG (some 15) .move [.t 1] 14 false,
 oG (some 16) (.bin .lss) [.t 15,.c (.int .i64 (1))] 14 false,
 oA 17 .pick [.t 14,.c (.bool true),.t 16],
 oM 18 17,
 oG (some 19) .move [.t 1] 18 false,
 oG (some 20) (.bin .gtr) [.t 19,.c (.int .i64 (512))] 18 false,
 oA 21 .pick [.t 18,.c (.bool true),.t 20]] [1,2,3,21])
 (.cond (.t 21) (.seq (cR [oA 6 .move [.c (.int .i64 (1))]] [6])
 (.ret))
 (.skip)))
 (.seq (cR [oA 22 (.load false 1) [.t 3],
 oA 23 .call [.c (.func (.func 55) #[] #[]),.t 22],
 oA 24 .call [.c (.func (.func 56) #[] #[]),.t 23],
 oM 7 24] [1,2,3,7])
 (.seq (cR [oM 25 7,
 oA 26 .call [.c (.func (.func 57) #[] #[]),.t 25,.c (.int .i64 (0)),.c (.int .i64 (2))]] [1,2,3,7])
 (.seq (cD [⟨[oA 27 (.load false 1) [.t 3],
 oM 28 7,
 oM 30 7],some (oA 29 .call [.c (.func (.func 59) #[] #[]),.t 28]),[27],[oA 8 (.new 76 1 [(.pointer none)]) []]⟩,
 ⟨[],some (oA 31 .call [.c (.func (.func 58) #[] #[]),.t 27,.t 29,.t 30,.c (.int .i64 (1))]),[],[oA 8 (.new 76 1 [(.pointer none)]) []]⟩,
 ⟨[],some (oA 8 (.new 76 1 [(.pointer none)]) []),[],[]⟩,
 ⟨[],some (oN (.store 1) [.t 8,.t 31]),[],[]⟩] [27,28,29,30,31,8] [1,2,3,8])
 (.seq (cR [oA 32 (.load false 1) [.t 3],
 oA 33 .call [.c (.func (.func 55) #[] #[]),.t 32],
 oM 34 1,
 oM 35 2,
 oA 36 .call [.c (.func (.func 60) #[] #[]),.t 35],
 oA 37 (.build [(.int .i64 (0)), (.int .i64 (0)), (.int .i64 (0)), (.float .f64 0), (.int .i64 (0)), (.int .i64 (0)), (.int .i64 (0)), (.int .i64 (0))] [(0, 1), (1, 1), (2, 1), (3, 1)]) [.c (.int .i64 (1)),.t 33,.t 34,.t 36],
 oA 9 (.new 115 8 [(.int .i64 (0)), (.int .i64 (0)), (.int .i64 (0)), (.float .f64 0), (.int .i64 (0)), (.int .i64 (0)), (.int .i64 (0)), (.int .i64 (0))]) [],
 oN (.store 8) [.t 9,.t 37]] [3,8,9])
 (.seq (cR [oA 38 (.newSlice 5 1 1 [(.int .u8 (0))]) [.c (.int .i64 (64)),.c (.int .i64 (64))],
 oA 10 (.new 23 1 [(.slice none 0 0)]) [],
 oN (.store 1) [.t 10,.t 38]] [3,8,9,10])
 (.seq (cR [oA 39 (.func 62 0) [.t 3,.t 10],
 oA 40 (.func 64 0) [.t 3,.t 10],
 oA 41 (.load false 1) [.t 3],
 oA 42 (.func 65 1) [.t 41],
 oA 43 (.func 66 0) [.t 8,.t 9],
 oA 44 (.load false 1) [.t 3],
 oA 45 (.func 65 1) [.t 44],
 oA 46 (.func 68 0) [.t 3,.t 9],
 oA 47 (.load false 1) [.t 3],
 oA 48 (.func 65 1) [.t 47],
 oA 49 (.buildSlice 47 1 7 [.nilFunc, .nilFunc, .nilFunc, .nilFunc, .nilFunc, .nilFunc, .nilFunc] [(0, 1), (1, 1), (2, 1), (3, 1), (4, 1), (5, 1), (6, 1)]) [.t 39,.t 40,.t 42,.t 43,.t 45,.t 46,.t 48],
 oA 50 .call [.c (.func (.func 61) #[] #[]),.t 49],
 oM 6 50] [6])
 (.ret)))))))),
 [.tmp 6], none⟩

def f29 : Func := ⟨.seq (cR [oA 2 .move [.c (.pointer none)],
 oA 3 .move [.c (.int .i64 (0))]] [0])
 (.seq (cR [oM 7 0,
 oA 8 .call [.c (.func (.func 70) #[] #[]),.t 7],
 oM 6 8,
 oA 9 (.extract 0) [.t 6],
 oA 10 (.extract 1) [.t 6],
 oM 4 9,
 oM 5 10] [4,5])
 (.seq (.seq (cR [oM 11 5,
 oA 12 (.bin .neq) [.t 11,.c (.int .i64 (0))]] [4,5,12])
 (.cond (.t 12) (.seq (cR [oM 13 5,
 oA 2 .move [.c (.pointer none)],
 oM 3 13] [2,3])
 (.ret))
 (.skip)))
 (.seq (cR [oM 14 4,
 oA 15 .call [.c (.func (.func 71) #[] #[]),.c (.int .i64 (64))],
 oA 16 (.build [(.pointer none), (.pointer none)] [(0, 1), (1, 1)]) [.t 14,.t 15],
 oA 17 (.box 65 2) [.t 16],
 oM 2 17,
 oA 3 .move [.c (.int .i64 (0))]] [2,3])
 (.ret)))),
 [.tmp 2, .tmp 3], none⟩

def f30 : Func := ⟨.seq (cR [oA 3 (.box 31 1) [.t 1]] [0,3])
 (.seq (.seq (cR [oM 4 0,
 oA 5 (.isNil .ptr false) [.t 4]] [0,3,5])
 (.cond (.t 5) (.ret)
 (.skip)))
 (.seq (cR [oM 6 0,
 oA 7 (.func 73 0) [.t 3],
 oA 8 .call [.c (.func (.func 72) #[] #[]),.t 6,.t 7]] [0])
 (cR [oM 9 0,
 oA 10 .nilCheck [.t 9],
 oA 11 (.fieldAddr 2) [.t 10],
 oN (.store 1) [.t 11,.c (.slice none 0 0)]] []))),
 [], none⟩

def l31_0 : Code :=
 .seq (cR [oA 40 (.bin .lss) [.t 39,.t 38]] [0,1,2,3,9,38,39,40])
 (.seq (.cond (.t 40) (.skip)
 (.exit 0))
 (.seq (.block 1 (.seq (cR [oM 41 39,
 oM 10 41] [0,1,2,3,9,10,38,39])
 (.seq (cR [oM 42 2,
 oM 43 10,
 oA 44 (.bin .add) [.t 42,.t 43],
 oM 11 44] [0,1,2,3,9,10,11,38,39])
 (cD [⟨[oM 45 9,
 oM 46 11,
 oA 47 (.bin .quo) [.t 46,.c (.int .i64 (8))],
 oA 48 (.idxAddr 1) [.t 45,.t 47],
 oA 49 (.load false 1) [.t 48],
 oM 50 3,
 oM 51 10,
 oA 52 (.bin .shr) [.t 50,.t 51],
 oA 53 (.bin .and) [.t 52,.c (.int .u32 (1))],
 oA 54 (.toInt .u8) [.t 53],
 oM 55 11,
 oA 56 (.bin .rem) [.t 55,.c (.int .i64 (8))],
 oA 57 (.bin .shl) [.t 54,.t 56],
 oA 58 (.bin .xor) [.t 49,.t 57],
 oA 59 (.idxAddr 1) [.t 45,.t 47]],some (oN (.store 1) [.t 59,.t 58]),[],[]⟩] [45,46,47,48,49,50,51,52,53,54,55,56,57,58,59] [0,1,2,3,9,38,39]))))
 (cR [oA 60 (.bin .add) [.t 39,.c (.int .i64 (1))],
 oM 39 60] [0,1,2,3,9,38,39])))
def f31 : Func := ⟨.seq (cR [oA 8 .move [.c (.bool false)]] [0,1,2,3])
 (.seq (.seq (cR [oM 12 0,
 oA 13 (.isNil .ptr false) [.t 12],
 oM 14 13,
 oG (some 15) .move [.t 0] 14 false,
 oG (some 16) .move [.t 1] 14 false,
 oG (some 17) .call [.c (.func (.func 74) #[] #[]),.t 15,.t 16] 14 false,
 oG (some 18) (.un .not) [.t 17] 14 false,
 oA 19 .pick [.t 14,.c (.bool true),.t 18],
 oM 20 19,
 oG (some 21) .move [.t 2] 20 false,
 oG (some 22) (.bin .lss) [.t 21,.c (.int .i64 (0))] 20 false,
 oA 23 .pick [.t 20,.c (.bool true),.t 22],
 oM 24 23,
 oG (some 25) .move [.t 2] 24 false,
 oG (some 26) (.bin .geq) [.t 25,.c (.int .i64 (512))] 24 false,
 oA 27 .pick [.t 24,.c (.bool true),.t 26]] [0,1,2,3,27])
 (.cond (.t 27) (.seq (cR [oA 8 .move [.c (.bool false)]] [8])
 (.ret))
 (.skip)))
 (.seq (cR [oM 28 0,
 oA 29 .nilCheck [.t 28],
 oA 30 (.fieldAddr 0) [.t 29],
 oA 31 (.load false 1) [.t 30],
 oM 32 1,
 oA 33 (.idxAddr 1) [.t 31,.t 32],
 oA 34 (.load false 1) [.t 33],
 oA 35 .call [.c (.func (.func 50) #[] #[]),.t 34],
 oM 9 35] [0,1,2,3,9])
 (.seq (.seq (cR [oM 36 2,
 oA 37 (.bin .sub) [.c (.int .i64 (512)),.t 36],
 oA 38 .min [.c (.int .i64 (32)),.t 37],
 oA 39 .move [.c (.int .i64 (0))]] [0,1,2,3,9,38,39])
 (.block 0 (.loop [0,1,2,3,9,38,39] l31_0)))
 (.seq (cR [oM 61 0,
 oA 62 .nilCheck [.t 61],
 oA 63 (.fieldAddr 0) [.t 62],
 oA 64 (.load false 1) [.t 63],
 oM 65 1,
 oM 66 9,
 oA 67 (.idxAddr 1) [.t 64,.t 65],
 oN (.store 1) [.t 67,.t 66]] [])
 (.seq (cR [oA 8 .move [.c (.bool true)]] [8])
 (.ret)))))),
 [.tmp 8], none⟩

def f32 : Func := ⟨.seq (.seq (cR [oM 4 0,
 oA 5 (.isNil .ptr false) [.t 4]] [0,1,5])
 (.cond (.t 5) (.ret)
 (.skip)))
 (.seq (cR [oM 6 0,
 oM 7 1,
 oA 8 .call [.c (.func (.func 75) #[] #[]),.t 7],
 oA 9 .nilCheck [.t 6],
 oA 10 (.fieldAddr 2) [.t 9],
 oN (.store 1) [.t 10,.t 8]] [0])
 (cR [oM 11 0,
 oA 12 (.build [(.int .i64 (0)), (.int .i64 (0)), (.int .i64 (0)), (.int .i64 (0))] []) [],
 oA 13 .nilCheck [.t 11],
 oA 14 (.fieldAddr 7) [.t 13],
 oN (.store 4) [.t 14,.t 12]] [])),
 [], none⟩

def f33 : Func := ⟨.seq (cR [oA 2 .move [.c (.bool false)]] [0])
 (.seq (cR [oM 3 0,
 oA 4 .call [.c (.func (.func 43) #[] #[]),.t 3],
 oA 5 .call [.c (.func (.func 76) #[] #[]),.t 4],
 oM 2 5] [2])
 (.ret)),
 [.tmp 2], none⟩

def l34_0 : Code :=
 .seq (cR [oA 17 (.bin .lss) [.t 16,.t 15]] [0,5,14,15,16,17])
 (.seq (.cond (.t 17) (.skip)
 (.exit 0))
 (.seq (.block 1 (.seq (cR [oA 18 (.idxAddr 1) [.t 14,.t 16],
 oA 19 (.load false 1) [.t 18],
 oM 7 19] [0,5,7,14,15,16])
 (.seq (cR [oM 21 0,
 oA 22 .nilCheck [.t 21],
 oA 23 (.fieldAddr 1) [.t 22],
 oA 24 (.load false 1) [.t 23],
 oM 25 7,
 oA 26 (.lookup none (.slice none 0 0) true) [.t 24,.t 25],
 oM 20 26,
 oA 27 (.extract 0) [.t 20],
 oA 28 (.extract 1) [.t 20],
 oM 8 27,
 oM 9 28] [0,5,7,9,14,15,16])
 (.seq (cR [oM 29 9,
 oA 30 (.un .not) [.t 29]] [0,5,7,14,15,16,30])
 (.cond (.t 30) (cR [oM 31 5,
 oM 32 7,
 oN (.mapSet none) [.t 31,.t 32,.c (.bool true)]] [0,5,14,15,16])
 (.skip))))))
 (cR [oA 33 (.bin .add) [.t 16,.c (.int .i64 (1))],
 oM 16 33] [0,5,14,15,16])))
def f34 : Func := ⟨.seq (cR [oA 4 .move [.c (.bool false)]] [0,1])
 (.seq (.seq (cR [oM 10 0,
 oA 11 .call [.c (.func (.func 49) #[] #[]),.t 10],
 oA 12 (.un .not) [.t 11]] [0,1,12])
 (.cond (.t 12) (.seq (cR [oA 4 .move [.c (.bool false)]] [4])
 (.ret))
 (.skip)))
 (.seq (cR [oA 13 .newMap [],
 oM 5 13] [0,1,5])
 (.seq (.seq (cR [oM 14 1,
 oA 15 .lenS [.t 14],
 oA 16 .move [.c (.int .i64 (0))]] [0,5,14,15,16])
 (.block 0 (.loop [0,5,14,15,16] l34_0)))
 (.seq (cD [⟨[oM 34 0,
 oA 35 .nilCheck [.t 34],
 oA 36 (.fieldAddr 1) [.t 35],
 oA 37 (.load false 1) [.t 36],
 oA 38 .lenM [.t 37],
 oM 39 5,
 oA 40 .lenM [.t 39],
 oA 41 (.bin .add) [.t 38,.t 40],
 oM 42 0,
 oA 43 .nilCheck [.t 42],
 oA 44 (.fieldAddr 0) [.t 43],
 oA 45 (.load false 1) [.t 44],
 oA 46 (.bin .leq) [.t 41,.t 45],
 oM 4 46],none,[],[]⟩] [34,35,36,37,38,39,40,41,42,43,44,45,46,4] [4])
 (.ret))))),
 [.tmp 4], none⟩

def f35 : Func := ⟨.seq (cR [oA 6 .move [.c (.bool false)]] [0,1,2])
 (.seq (.seq (cR [oM 7 2,
 oA 8 .lenS [.t 7],
 oA 9 (.bin .neq) [.t 8,.c (.int .i64 (128))],
 oM 10 9,
 oG (some 11) .move [.t 1] 10 false,
 oG (some 12) (.bin .lss) [.t 11,.c (.int .i64 (0))] 10 false,
 oA 13 .pick [.t 10,.c (.bool true),.t 12],
 oM 14 13,
 oG (some 15) .move [.t 0] 14 false,
 oG (some 16) .move [.t 1] 14 false,
 oG (some 17) (.buildSlice 3 1 1 [(.int .i64 (0))] [(0, 1)]) [.t 16] 14 false,
 oG (some 18) .call [.c (.func (.func 34) #[] #[]),.t 15,.t 17] 14 false,
 oG (some 19) (.un .not) [.t 18] 14 false,
 oA 20 .pick [.t 14,.c (.bool true),.t 19]] [0,1,2,20])
 (.cond (.t 20) (.seq (cR [oA 6 .move [.c (.bool false)]] [6])
 (.ret))
 (.skip)))
 (.seq (cD [⟨[oM 21 0,
 oA 22 .nilCheck [.t 21],
 oA 23 (.fieldAddr 1) [.t 22],
 oA 24 (.load false 1) [.t 23],
 oM 25 1,
 oM 26 2],some (oA 27 .call [.c (.func (.func 50) #[] #[]),.t 26]),[24],[]⟩,
 ⟨[],some (oN (.mapSet none) [.t 24,.t 25,.t 27]),[],[]⟩] [21,22,23,24,25,26,27] [])
 (.seq (cR [oA 6 .move [.c (.bool true)]] [6])
 (.ret)))),
 [.tmp 6], none⟩

def l36_0 : Code :=
 .seq (cR [oA 29 (.bin .lss) [.t 28,.t 27]] [0,1,7,27,28,29])
 (.seq (.cond (.t 29) (.skip)
 (.exit 0))
 (.seq (.block 1 (.seq (cR [oM 30 28,
 oM 8 30] [0,1,7,8,27,28])
 (cR [oM 31 7,
 oM 32 1,
 oM 33 8,
 oA 34 (.bin .add) [.t 32,.t 33],
 oA 35 (.buildSlice 3 1 1 [(.int .i64 (0))] [(0, 1)]) [.t 34],
 oA 36 (.append 3 1 8) [.t 31,.t 35],
 oM 7 36] [0,1,7,27,28])))
 (cR [oA 37 (.bin .add) [.t 28,.c (.int .i64 (1))],
 oM 28 37] [0,1,7,27,28])))
def l36_1 : Code :=
 .seq (cR [oA 45 (.bin .lss) [.t 44,.t 43]] [0,42,43,44,45])
 (.seq (.cond (.t 45) (.skip)
 (.exit 2))
 (.seq (.block 3 (.seq (cR [oA 46 (.idxAddr 1) [.t 42,.t 44],
 oA 47 (.load false 1) [.t 46],
 oM 10 47] [0,10,42,43,44])
 (cR [oM 48 0,
 oA 49 .nilCheck [.t 48],
 oA 50 (.fieldAddr 1) [.t 49],
 oA 51 (.load false 1) [.t 50],
 oM 52 10,
 oN (.mapSet none) [.t 51,.t 52,.c (.slice none 0 0)]] [0,42,43,44])))
 (cR [oA 53 (.bin .add) [.t 44,.c (.int .i64 (1))],
 oM 44 53] [0,42,43,44])))
def f36 : Func := ⟨.seq (cR [oA 6 .move [.c (.bool false)]] [0,1,2])
 (.seq (.seq (cR [oM 11 2,
 oA 12 (.bin .lss) [.t 11,.c (.int .i64 (0))],
 oM 13 12,
 oG (some 14) .move [.t 1] 13 false,
 oG (some 15) (.bin .lss) [.t 14,.c (.int .i64 (0))] 13 false,
 oA 16 .pick [.t 13,.c (.bool true),.t 15],
 oM 17 16,
 oG (some 18) .move [.t 2] 17 false,
 oG (some 19) (.bin .gtr) [.t 18,.c (.int .i64 (512))] 17 false,
 oA 20 .pick [.t 17,.c (.bool true),.t 19],
 oM 21 20,
 oG (some 22) .move [.t 1] 21 false,
 oG (some 23) .move [.t 2] 21 false,
 oG (some 24) (.bin .sub) [.c (.int .i64 (512)),.t 23] 21 false,
 oG (some 25) (.bin .gtr) [.t 22,.t 24] 21 false,
 oA 26 .pick [.t 21,.c (.bool true),.t 25]] [0,1,2,26])
 (.cond (.t 26) (.seq (cR [oA 6 .move [.c (.bool false)]] [6])
 (.ret))
 (.skip)))
 (.seq (cR [oA 7 .move [.c (.slice none 0 0)]] [0,1,2,7])
 (.seq (.seq (cR [oM 27 2,
 oA 28 .move [.c (.int .i64 (0))]] [0,1,7,27,28])
 (.block 0 (.loop [0,1,7,27,28] l36_0)))
 (.seq (.seq (cR [oM 38 0,
 oM 39 7,
 oA 40 .call [.c (.func (.func 34) #[] #[]),.t 38,.t 39],
 oA 41 (.un .not) [.t 40]] [0,7,41])
 (.cond (.t 41) (.seq (cR [oA 6 .move [.c (.bool false)]] [6])
 (.ret))
 (.skip)))
 (.seq (.seq (cR [oM 42 7,
 oA 43 .lenS [.t 42],
 oA 44 .move [.c (.int .i64 (0))]] [0,42,43,44])
 (.block 2 (.loop [0,42,43,44] l36_1)))
 (.seq (cR [oA 6 .move [.c (.bool true)]] [6])
 (.ret))))))),
 [.tmp 6], none⟩

def l37_0 : Code :=
 .seq (cR [oA 26 (.bin .lss) [.t 25,.t 24]] [2,3,5,6,8,23,24,25,26])
 (.seq (.cond (.t 26) (.skip)
 (.exit 0))
 (.seq (.block 1 (.seq (cR [oA 27 (.idxAddr 2) [.t 23,.t 25],
 oA 28 (.load true 2) [.t 27],
 oA 10 (.new 156 2 [(.int .i64 (0)), (.slice none 0 0)]) [],
 oN (.store 2) [.t 10,.t 28]] [2,3,5,6,8,10,23,24,25])
 (.seq (.seq (cR [oA 29 (.fieldAddr 1) [.t 10],
 oA 30 (.load false 1) [.t 29],
 oA 31 (.isNil .slice false) [.t 30]] [2,3,5,6,8,10,23,24,25,31])
 (.cond (.t 31) (.seq (cR [oM 32 3,
 oA 33 (.fieldAddr 0) [.t 10],
 oA 34 (.load false 1) [.t 33],
 oA 35 (.buildSlice 3 1 1 [(.int .i64 (0))] [(0, 1)]) [.t 34],
 oA 36 (.append 3 1 8) [.t 32,.t 35],
 oM 3 36] [2,3,5,6,8,23,24,25])
 (.exit 1))
 (.skip)))
 (.seq (cD [⟨[oA 37 (.load false 1) [.t 5],
 oA 38 (.fieldAddr 0) [.t 10],
 oA 39 (.load false 1) [.t 38],
 oA 42 (.load false 1) [.t 6],
 oA 43 (.fieldAddr 1) [.t 10],
 oA 44 (.load false 1) [.t 43]],some (oA 40 (.buildSlice 3 1 1 [(.int .i64 (0))] [(0, 1)]) [.t 39]),[37,42,44],[oA 45 (.buildSlice 23 1 1 [(.slice none 0 0)] [(0, 1)]) [.t 44]]⟩,
 ⟨[],some (oA 41 (.append 3 1 8) [.t 37,.t 40]),[42,44],[oA 45 (.buildSlice 23 1 1 [(.slice none 0 0)] [(0, 1)]) [.t 44]]⟩,
 ⟨[],some (oA 45 (.buildSlice 23 1 1 [(.slice none 0 0)] [(0, 1)]) [.t 44]),[42],[]⟩,
 ⟨[],some (oA 46 (.append 23 1 24) [.t 42,.t 45]),[],[]⟩,
 ⟨[],some (oN (.store 1) [.t 5,.t 41]),[],[]⟩,
 ⟨[],some (oN (.store 1) [.t 6,.t 46]),[],[]⟩] [37,38,39,40,41,42,43,44,45,46] [2,3,5,6,8,23,24,25])
 (.seq (cR [oA 47 (.load false 1) [.t 6],
 oA 48 .lenS [.t 47],
 oA 49 (.bin .eql) [.t 48,.c (.int .i64 (8))]] [2,3,5,6,8,23,24,25,49])
 (.cond (.t 49) (.seq (cR [oM 50 8,
 oA 51 .call [.t 50],
 oM 11 51] [2,3,5,6,8,11,23,24,25])
 (.seq (cR [oM 52 11,
 oA 53 (.bin .neq) [.t 52,.c (.int .i64 (0))]] [2,3,5,6,8,11,23,24,25,53])
 (.cond (.t 53) (.seq (cR [oM 54 11,
 oN (.store 1) [.t 2,.c (.slice none 0 0)],
 oA 3 .move [.c (.slice none 0 0)],
 oM 4 54] [2,3,4])
 (.ret))
 (.skip))))
 (.skip)))))))
 (cR [oA 55 (.bin .add) [.t 25,.c (.int .i64 (1))],
 oM 25 55] [2,3,5,6,8,23,24,25])))
def f37 : Func := ⟨.seq (cR [oA 1 (.box 35 1) [.t 0],
 oA 2 (.new 94 1 [(.slice none 0 0)]) [],
 oA 3 .move [.c (.slice none 0 0)],
 oA 4 .move [.c (.int .i64 (0))]] [1,2,3])
 (.seq (cR [oA 5 (.new 92 1 [(.slice none 0 0)]) []] [1,2,3,5])
 (.seq (cR [oA 6 (.new 74 1 [(.slice none 0 0)]) []] [1,2,3,5,6])
 (.seq (cR [oA 13 (.load false 1) [.t 1],
 oA 14 .nilCheck [.t 13],
 oA 15 (.fieldAddr 0) [.t 14],
 oA 16 (.load false 1) [.t 15],
 oA 17 .call [.c (.func (.func 44) #[] #[]),.t 16],
 oA 7 (.new 115 8 [(.int .i64 (0)), (.int .i64 (0)), (.int .i64 (0)), (.float .f64 0), (.int .i64 (0)), (.int .i64 (0)), (.int .i64 (0)), (.int .i64 (0))]) [],
 oN (.store 8) [.t 7,.t 17]] [1,2,3,5,6,7])
 (.seq (cR [oA 18 (.func 77 0) [.t 6,.t 7,.t 1,.t 5,.t 2],
 oM 8 18] [1,2,3,5,6,8])
 (.seq (.seq (cR [oA 19 (.load false 1) [.t 1],
 oA 20 .nilCheck [.t 19],
 oA 21 (.fieldAddr 1) [.t 20],
 oA 22 (.load false 1) [.t 21],
 oA 23 .call [.c (.func (.func 80) #[] #[]),.t 22],
 oA 24 .lenS [.t 23],
 oA 25 .move [.c (.int .i64 (0))]] [2,3,5,6,8,23,24,25])
 (.block 0 (.loop [2,3,5,6,8,23,24,25] l37_0)))
 (.seq (cR [oM 56 8,
 oA 57 .call [.t 56],
 oM 12 57] [2,3,12])
 (.seq (cR [oA 58 (.load false 1) [.t 2],
 oM 59 3,
 oM 60 12,
 oN (.store 1) [.t 2,.t 58],
 oM 3 59,
 oM 4 60] [2,3,4])
 (.ret)))))))),
 [.cell 2 false 1, .tmp 3, .tmp 4], none⟩

def f38 : Func := ⟨.seq (cR [oM 2 0,
 oA 3 .call [.c (.func (.func 51) #[] #[]),.t 2]] [0,3])
 (.cond (.t 3) (cR [oM 4 0,
 oA 5 .nilCheck [.t 4],
 oA 6 (.fieldAddr 10) [.t 5],
 oA 7 (.load false 1) [.t 6],
 oA 8 .call [.c (.func (.func 81) #[] #[]),.t 7]] [])
 (.skip)),
 [], none⟩

def f39 : Func := ⟨.seq (cR [oA 3 (.box 62 1) [.t 0],
 oA 4 (.box 94 1) [.t 1],
 oA 5 (.box 92 1) [.t 2],
 oA 6 .move [.c (.int .i64 (0))]] [3,4,5])
 (.seq (.block 0 (.seq (cR [oA 11 (.load false 1) [.t 3],
 oA 12 .call [.c (.func (.func 51) #[] #[]),.t 11],
 oA 13 (.un .not) [.t 12],
 oM 10 13] [3,4,5,10])
 (.cond (.t 10) (.seq (cR [oA 6 .move [.c (.int .i64 (1))]] [6])
 (.ret))
 (.seq (cR [oA 15 (.load false 1) [.t 3],
 oA 16 .nilCheck [.t 15],
 oA 17 (.fieldAddr 12) [.t 16],
 oA 18 (.load false 1) [.t 17],
 oM 19 18,
 oG (some 20) (.load false 1) [.t 3] 19 false,
 oG (some 21) .nilCheck [.t 20] 19 false,
 oG (some 22) (.fieldAddr 1) [.t 21] 19 false,
 oG (some 23) (.fieldAddr 0) [.t 22] 19 false,
 oG (some 24) (.load false 1) [.t 23] 19 false,
 oG (some 25) (.bin .geq) [.t 24,.c (.int .i64 (268435455))] 19 false,
 oA 26 .pick [.t 19,.c (.bool true),.t 25],
 oM 14 26] [3,4,5,14])
 (.cond (.t 14) (.seq (cR [oA 6 .move [.c (.int .i64 (9))]] [6])
 (.ret))
 (.skip))))))
 (.seq (cR [oA 27 (.load false 1) [.t 3],
 oA 28 .nilCheck [.t 27],
 oA 29 (.fieldAddr 1) [.t 28],
 oA 30 (.load true 8) [.t 29],
 oA 7 (.new 115 8 [(.int .i64 (0)), (.int .i64 (0)), (.int .i64 (0)), (.float .f64 0), (.int .i64 (0)), (.int .i64 (0)), (.int .i64 (0)), (.int .i64 (0))]) [],
 oN (.store 8) [.t 7,.t 30]] [3,4,5,7])
 (.seq (cR [oA 31 (.fieldAddr 0) [.t 7],
 oA 32 (.load false 1) [.t 31],
 oA 33 (.bin .add) [.t 32,.c (.int .i64 (1))],
 oA 34 (.fieldAddr 0) [.t 7],
 oN (.store 1) [.t 34,.t 33]] [3,4,5,7])
 (.seq (cD [⟨[oA 35 (.load false 1) [.t 3],
 oA 36 .nilCheck [.t 35],
 oA 37 (.fieldAddr 11) [.t 36],
 oA 38 (.load false 1) [.t 37],
 oA 39 (.fieldAddr 0) [.t 7],
 oA 40 (.load false 1) [.t 39]],some (oA 41 .call [.c (.func (.func 82) #[] #[]),.t 38,.t 40]),[],[]⟩] [35,36,37,38,39,40,41] [3,4,5,7])
 (.seq (cR [oA 8 (.new 158 1 [(.slice none 0 0)]) []] [3,4,5,7,8])
 (.seq (cR [oA 42 (.func 83 0) [.t 3,.t 7,.t 5,.t 4],
 oA 43 (.func 85 0) [.t 3,.t 7,.t 8],
 oA 44 (.load false 1) [.t 3],
 oA 45 .nilCheck [.t 44],
 oA 46 (.fieldAddr 0) [.t 45],
 oA 47 (.load false 1) [.t 46],
 oA 48 (.func 65 1) [.t 47],
 oA 49 (.func 87 0) [.t 3,.t 7],
 oA 50 (.buildSlice 47 1 4 [.nilFunc, .nilFunc, .nilFunc, .nilFunc] [(0, 1), (1, 1), (2, 1), (3, 1)]) [.t 42,.t 43,.t 48,.t 49],
 oA 51 .call [.c (.func (.func 61) #[] #[]),.t 50],
 oM 9 51] [3,7,8,9])
 (.seq (.seq (cR [oM 52 9,
 oA 53 (.bin .neq) [.t 52,.c (.int .i64 (0))]] [3,7,8,9,53])
 (.cond (.t 53) (.seq (cR [oA 54 (.load false 1) [.t 3],
 oA 55 .call [.c (.func (.func 38) #[] #[]),.t 54]] [9])
 (.seq (cR [oM 56 9,
 oM 6 56] [6])
 (.ret)))
 (.skip)))
 (.seq (cR [oA 57 (.load false 1) [.t 3],
 oA 58 .nilCheck [.t 57],
 oA 59 (.fieldAddr 0) [.t 58],
 oA 60 (.load false 1) [.t 59],
 oA 61 .call [.c (.func (.func 65) #[] #[]),.t 60],
 oM 9 61] [3,7,8,9])
 (.seq (cR [oA 62 (.load false 1) [.t 3],
 oM 63 9,
 oA 64 (.bin .neq) [.t 63,.c (.int .i64 (0))],
 oA 65 .nilCheck [.t 62],
 oA 66 (.fieldAddr 12) [.t 65],
 oN (.store 1) [.t 66,.t 64]] [3,7,8,9])
 (.seq (cR [oA 67 (.load false 1) [.t 3],
 oA 68 (.load false 1) [.t 8],
 oA 69 .call [.c (.func (.func 88) #[] #[]),.t 67,.t 68]] [3,7,9])
 (.seq (cR [oA 70 (.load false 1) [.t 3],
 oA 71 .nilCheck [.t 70],
 oA 72 (.fieldAddr 10) [.t 71],
 oA 73 (.load false 1) [.t 72],
 oA 74 .call [.c (.func (.func 89) #[] #[]),.t 73]] [3,7,9])
 (.seq (cR [oA 75 (.load false 1) [.t 3],
 oA 76 (.load true 8) [.t 7],
 oA 77 .nilCheck [.t 75],
 oA 78 (.fieldAddr 1) [.t 77],
 oN (.store 8) [.t 78,.t 76]] [3,7,9])
 (.seq (cD [⟨[oA 79 (.load false 1) [.t 3],
 oA 80 .nilCheck [.t 79],
 oA 81 (.fieldAddr 11) [.t 80],
 oA 82 (.load false 1) [.t 81],
 oA 83 (.fieldAddr 0) [.t 7],
 oA 84 (.load false 1) [.t 83],
 oA 85 (.bin .add) [.t 84,.c (.int .i64 (1))]],some (oA 86 .call [.c (.func (.func 82) #[] #[]),.t 82,.t 85]),[],[]⟩] [79,80,81,82,83,84,85,86] [9])
 (.seq (cR [oM 87 9,
 oM 6 87] [6])
 (.ret))))))))))))))),
 [.tmp 6], none⟩

def f40 : Func := ⟨.seq (cR [oM 2 0,
 oA 3 .call [.c (.func (.func 49) #[] #[]),.t 2]] [0,3])
 (.cond (.t 3) (cR [oM 4 0,
 oA 5 .nilCheck [.t 4],
 oA 6 (.fieldAddr 1) [.t 5],
 oA 7 (.load false 1) [.t 6],
 oN .clearM [.t 7]] [])
 (.skip)),
 [], none⟩

def l41_0 : Code :=
 .seq (cR [oA 63 (.bin .lss) [.t 62,.t 61]] [4,7,10,12,13,29,30,31,60,61,62,63])
 (.seq (.cond (.t 63) (.skip)
 (.exit 2))
 (.seq (.block 3 (.seq (cR [oA 64 (.idxAddr 1) [.t 60,.t 62],
 oA 65 (.load false 1) [.t 64],
 oM 15 65] [4,7,10,12,13,15,29,30,31,60,61,62])
 (.seq (cR [oM 67 4,
 oM 68 15,
 oA 69 .call [.c (.func (.func 23) #[] #[]),.t 67,.t 68],
 oM 66 69,
 oA 70 (.extract 0) [.t 66],
 oA 71 (.extract 1) [.t 66],
 oA 72 (.extract 2) [.t 66],
 oA 16 (.new 70 5 [(.int .i64 (0)), (.int .i64 (0)), (.int .i64 (0)), (.int .i64 (0)), (.int .i64 (0))]) [],
 oN (.store 5) [.t 16,.t 70],
 oM 17 71,
 oM 18 72] [4,7,10,12,13,16,17,18,29,30,31,60,61,62])
 (.seq (.seq (cR [oM 73 18,
 oA 74 (.bin .eql) [.t 73,.c (.int .i64 (0))],
 oM 75 74,
 oG (some 76) .move [.t 17] 75 true,
 oG (some 77) (.un .not) [.t 76] 75 true,
 oG (some 78) .move [.t 77] 75 true,
 oG (some 79) (.fieldAddr 1) [.t 16] 78 false,
 oG (some 80) (.fieldAddr 2) [.t 79] 78 false,
 oG (some 81) (.load false 1) [.t 80] 78 false,
 oG (some 82) .move [.t 10] 78 false,
 oG (some 83) .lenS [.t 82] 78 false,
 oG (some 84) (.bin .geq) [.t 81,.t 83] 78 false,
 oG (some 85) .pick [.t 78,.c (.bool true),.t 84] 75 true,
 oA 86 .pick [.t 75,.t 85,.c (.bool false)]] [4,7,10,12,13,16,18,29,30,31,60,61,62,86])
 (.cond (.t 86) (cR [oA 18 .move [.c (.int .i64 (4))]] [4,7,10,12,13,16,18,29,30,31,60,61,62])
 (.skip)))
 (.seq (.seq (cR [oM 87 18,
 oA 88 (.bin .neq) [.t 87,.c (.int .i64 (0))]] [4,7,10,12,13,16,18,29,30,31,60,61,62,88])
 (.cond (.t 88) (.seq (cR [oM 89 18,
 oA 2 .move [.c (.slice none 0 0)],
 oM 3 89] [2,3])
 (.ret))
 (.skip)))
 (.seq (cR [oA 90 (.fieldAddr 6) [.t 12],
 oA 91 (.load false 1) [.t 90],
 oA 92 (.load true 5) [.t 16],
 oA 93 (.buildSlice 70 5 1 [(.int .i64 (0)), (.int .i64 (0)), (.int .i64 (0)), (.int .i64 (0)), (.int .i64 (0))] [(0, 5)]) [.t 92],
 oA 94 (.append 70 5 40) [.t 91,.t 93],
 oA 95 (.fieldAddr 6) [.t 12],
 oN (.store 1) [.t 95,.t 94]] [4,7,10,12,13,16,29,30,31,60,61,62])
 (cR [oM 96 13,
 oA 97 (.fieldAddr 1) [.t 16],
 oA 98 (.fieldAddr 2) [.t 97],
 oA 99 (.load false 1) [.t 98],
 oN (.mapSet none) [.t 96,.t 99,.c (.bool true)]] [4,7,10,12,13,29,30,31,60,61,62])))))))
 (cR [oA 100 (.bin .add) [.t 62,.c (.int .i64 (1))],
 oM 62 100] [4,7,10,12,13,29,30,31,60,61,62])))
def l41_1 : Code :=
 .seq (cR [oA 32 (.bin .lss) [.t 31,.t 30]] [4,7,29,30,31,32])
 (.seq (.cond (.t 32) (.skip)
 (.exit 0))
 (.seq (.block 1 (.seq (cR [oA 33 (.idxAddr 5) [.t 29,.t 31],
 oA 34 (.load true 5) [.t 33],
 oA 9 (.new 104 5 [(.int .i64 (0)), (.int .i64 (0)), (.int .i64 (0)), (.bool false), (.slice none 0 0)]) [],
 oN (.store 5) [.t 9,.t 34]] [4,7,9,29,30,31])
 (.seq (.seq (cR [oA 35 (.fieldAddr 3) [.t 9],
 oA 36 (.load false 1) [.t 35]] [4,7,9,29,30,31,36])
 (.cond (.t 36) (.exit 1)
 (.skip)))
 (.seq (cD [⟨[oM 38 4,
 oA 40 (.fieldAddr 0) [.t 9],
 oA 41 (.fieldAddr 0) [.t 40],
 oA 42 (.load false 1) [.t 41],
 oA 43 (.fieldAddr 0) [.t 9],
 oA 44 (.fieldAddr 1) [.t 43],
 oA 45 (.load false 1) [.t 44],
 oA 46 (.build [(.int .i64 (0)), (.int .i64 (0)), (.int .i64 (0))] [(0, 1), (1, 1)]) [.t 42,.t 45],
 oA 47 (.fieldAddr 2) [.t 9],
 oA 48 (.load false 1) [.t 47]],some (oA 39 .call [.c (.func (.func 25) #[] #[]),.t 38]),[42,45,48],[]⟩,
 ⟨[],some (oA 49 .call [.c (.func (.func 26) #[] #[]),.t 39,.t 46,.t 48]),[],[]⟩,
 ⟨[oM 37 49,
 oA 50 (.extract 0) [.t 37],
 oA 51 (.extract 1) [.t 37],
 oM 10 50,
 oM 11 51],none,[],[]⟩] [38,39,40,41,42,43,44,45,46,47,48,49,37,50,51,10,11] [4,7,9,10,11,29,30,31])
 (.seq (.seq (cR [oM 52 11,
 oA 53 (.bin .neq) [.t 52,.c (.int .i64 (0))]] [4,7,9,10,11,29,30,31,53])
 (.cond (.t 53) (.seq (cR [oM 54 11,
 oA 2 .move [.c (.slice none 0 0)],
 oM 3 54] [2,3])
 (.ret))
 (.skip)))
 (.seq (cR [oA 55 (.load true 5) [.t 9],
 oM 56 10,
 oA 57 (.build [(.int .i64 (0)), (.int .i64 (0)), (.int .i64 (0)), (.bool false), (.slice none 0 0), (.slice none 0 0), (.slice none 0 0), (.int .i64 (0))] [(0, 5), (5, 1)]) [.t 55,.t 56],
 oA 12 (.new 106 8 [(.int .i64 (0)), (.int .i64 (0)), (.int .i64 (0)), (.bool false), (.slice none 0 0), (.slice none 0 0), (.slice none 0 0), (.int .i64 (0))]) [],
 oN (.store 8) [.t 12,.t 57]] [4,7,9,10,12,29,30,31])
 (.seq (cR [oA 58 .newMap [],
 oM 13 58] [4,7,9,10,12,13,29,30,31])
 (.seq (.seq (cR [oA 59 (.fieldAddr 4) [.t 9],
 oA 60 (.load false 1) [.t 59],
 oA 61 .lenS [.t 60],
 oA 62 .move [.c (.int .i64 (0))]] [4,7,10,12,13,29,30,31,60,61,62])
 (.block 2 (.loop [4,7,10,12,13,29,30,31,60,61,62] l41_0)))
 (.seq (cR [oM 101 10,
 oA 102 .lenS [.t 101],
 oM 103 13,
 oA 104 .lenM [.t 103],
 oA 105 (.bin .sub) [.t 102,.t 104],
 oA 106 (.fieldAddr 7) [.t 12],
 oN (.store 1) [.t 106,.t 105]] [4,7,12,29,30,31])
 (cR [oM 107 7,
 oA 108 (.load true 8) [.t 12],
 oA 109 (.buildSlice 106 8 1 [(.int .i64 (0)), (.int .i64 (0)), (.int .i64 (0)), (.bool false), (.slice none 0 0), (.slice none 0 0), (.slice none 0 0), (.int .i64 (0))] [(0, 8)]) [.t 108],
 oA 110 (.append 106 8 112) [.t 107,.t 109],
 oM 7 110] [4,7,29,30,31]))))))))))
 (cR [oA 111 (.bin .add) [.t 31,.c (.int .i64 (1))],
 oM 31 111] [4,7,29,30,31])))
def f41 : Func := ⟨.seq (cR [oA 2 .move [.c (.slice none 0 0)],
 oA 3 .move [.c (.int .i64 (0))]] [0])
 (.seq (cR [oM 19 0,
 oA 20 .call [.c (.func (.func 43) #[] #[]),.t 19],
 oM 4 20] [4])
 (.seq (cR [oM 22 4,
 oA 23 .call [.c (.func (.func 90) #[] #[]),.t 22],
 oM 21 23,
 oA 24 (.extract 0) [.t 21],
 oA 25 (.extract 1) [.t 21],
 oM 5 24,
 oM 6 25] [4,5,6])
 (.seq (.seq (cR [oM 26 6,
 oA 27 (.bin .neq) [.t 26,.c (.int .i64 (0))]] [4,5,6,27])
 (.cond (.t 27) (.seq (cR [oM 28 6,
 oA 2 .move [.c (.slice none 0 0)],
 oM 3 28] [2,3])
 (.ret))
 (.skip)))
 (.seq (cR [oA 7 .move [.c (.slice none 0 0)]] [4,5,7])
 (.seq (.seq (cR [oM 29 5,
 oA 30 .lenS [.t 29],
 oA 31 .move [.c (.int .i64 (0))]] [4,7,29,30,31])
 (.block 0 (.loop [4,7,29,30,31] l41_1)))
 (.seq (cR [oM 112 7,
 oM 2 112,
 oA 3 .move [.c (.int .i64 (0))]] [2,3])
 (.ret))))))),
 [.tmp 2, .tmp 3], none⟩

def l42_0 : Code :=
 .seq (cR [oA 23 (.bin .lss) [.t 22,.t 21]] [0,3,6,7,20,21,22,23])
 (.seq (.cond (.t 23) (.skip)
 (.exit 0))
 (.seq (.block 1 (.seq (cR [oA 24 (.idxAddr 5) [.t 20,.t 22],
 oA 25 (.load true 5) [.t 24],
 oA 9 (.new 70 5 [(.int .i64 (0)), (.int .i64 (0)), (.int .i64 (0)), (.int .i64 (0)), (.int .i64 (0))]) [],
 oN (.store 5) [.t 9,.t 25]] [0,3,6,7,9,20,21,22])
 (cR [oM 26 7,
 oA 27 (.fieldAddr 5) [.t 3],
 oA 28 (.load false 1) [.t 27],
 oA 29 (.fieldAddr 1) [.t 9],
 oA 30 (.fieldAddr 2) [.t 29],
 oA 31 (.load false 1) [.t 30],
 oA 32 (.idxAddr 1) [.t 28,.t 31],
 oA 33 (.load false 1) [.t 32],
 oA 34 (.buildSlice 23 1 1 [(.slice none 0 0)] [(0, 1)]) [.t 33],
 oA 35 (.append 23 1 24) [.t 26,.t 34],
 oM 7 35] [0,3,6,7,20,21,22])))
 (cR [oA 36 (.bin .add) [.t 22,.c (.int .i64 (1))],
 oM 22 36] [0,3,6,7,20,21,22])))
def l42_1 : Code :=
 .seq (cR [oA 65 (.bin .lss) [.t 64,.t 63]] [6,12,13,62,63,64,65])
 (.seq (.cond (.t 65) (.skip)
 (.exit 2))
 (.seq (.block 3 (.seq (cR [oM 66 64,
 oA 67 (.idxAddr 5) [.t 62,.t 64],
 oA 68 (.load true 5) [.t 67],
 oA 15 (.new 70 5 [(.int .i64 (0)), (.int .i64 (0)), (.int .i64 (0)), (.int .i64 (0)), (.int .i64 (0))]) [],
 oM 14 66,
 oN (.store 5) [.t 15,.t 68]] [6,12,13,14,15,62,63,64])
 (cR [oM 69 13,
 oA 70 (.fieldAddr 0) [.t 15],
 oA 71 (.load false 1) [.t 70],
 oA 72 (.fieldAddr 0) [.t 12],
 oA 73 (.load false 1) [.t 72],
 oA 74 (.fieldAddr 1) [.t 12],
 oA 75 (.load false 1) [.t 74],
 oM 76 14,
 oA 77 (.build [(.int .i64 (0)), (.int .i64 (0)), (.int .i64 (0))] [(0, 1), (1, 1), (2, 1)]) [.t 73,.t 75,.t 76],
 oA 78 (.fieldAddr 0) [.t 6],
 oA 79 (.load false 1) [.t 78],
 oA 80 (.bin .add) [.t 79,.c (.int .i64 (1))],
 oA 81 (.build [(.int .i64 (0)), (.int .i64 (0)), (.int .i64 (0)), (.int .i64 (0)), (.int .i64 (0))] [(0, 1), (1, 3), (4, 1)]) [.t 71,.t 77,.t 80],
 oA 82 (.buildSlice 70 5 1 [(.int .i64 (0)), (.int .i64 (0)), (.int .i64 (0)), (.int .i64 (0)), (.int .i64 (0))] [(0, 5)]) [.t 81],
 oA 83 (.append 70 5 40) [.t 69,.t 82],
 oM 13 83] [6,12,13,62,63,64])))
 (cR [oA 84 (.bin .add) [.t 64,.c (.int .i64 (1))],
 oM 64 84] [6,12,13,62,63,64])))
def f42 : Func := ⟨.seq (cR [oA 3 (.box 106 8) [.t 1],
 oA 4 .move [.c (.slice none 0 0)],
 oA 5 .move [.c (.int .i64 (0))]] [0,3])
 (.seq (cR [oM 16 0,
 oA 17 .call [.c (.func (.func 43) #[] #[]),.t 16],
 oA 18 .call [.c (.func (.func 44) #[] #[]),.t 17],
 oA 6 (.new 115 8 [(.int .i64 (0)), (.int .i64 (0)), (.int .i64 (0)), (.float .f64 0), (.int .i64 (0)), (.int .i64 (0)), (.int .i64 (0)), (.int .i64 (0))]) [],
 oN (.store 8) [.t 6,.t 18]] [0,3,6])
 (.seq (cR [oA 7 .move [.c (.slice none 0 0)]] [0,3,6,7])
 (.seq (.seq (cR [oA 19 (.fieldAddr 6) [.t 3],
 oA 20 (.load false 1) [.t 19],
 oA 21 .lenS [.t 20],
 oA 22 .move [.c (.int .i64 (0))]] [0,3,6,7,20,21,22])
 (.block 0 (.loop [0,3,6,7,20,21,22] l42_0)))
 (.seq (cR [oM 38 7,
 oA 39 (.fieldAddr 0) [.t 6],
 oA 40 (.load false 1) [.t 39],
 oA 41 (.bin .add) [.t 40,.c (.int .i64 (1))],
 oA 42 (.fieldAddr 3) [.t 6],
 oA 43 (.load false 1) [.t 42],
 oA 44 .call [.c (.func (.func 78) #[] #[]),.t 38,.t 41,.t 43],
 oM 37 44,
 oA 45 (.extract 0) [.t 37],
 oA 46 (.extract 1) [.t 37],
 oM 10 45,
 oM 11 46] [0,3,6,10,11])
 (.seq (.seq (cR [oM 47 11,
 oA 48 (.bin .neq) [.t 47,.c (.int .i64 (0))]] [0,3,6,10,11,48])
 (.cond (.t 48) (.seq (cR [oM 49 11,
 oA 4 .move [.c (.slice none 0 0)],
 oM 5 49] [4,5])
 (.ret))
 (.skip)))
 (.seq (cR [oM 51 0,
 oA 52 .call [.c (.func (.func 43) #[] #[]),.t 51],
 oA 53 .call [.c (.func (.func 25) #[] #[]),.t 52],
 oM 54 10,
 oA 55 .call [.c (.func (.func 79) #[] #[]),.t 53,.t 54],
 oM 50 55,
 oA 56 (.extract 0) [.t 50],
 oA 57 (.extract 1) [.t 50],
 oA 12 (.new 102 2 [(.int .i64 (0)), (.int .i64 (0))]) [],
 oN (.store 2) [.t 12,.t 56],
 oM 11 57] [3,6,11,12])
 (.seq (.seq (cR [oM 58 11,
 oA 59 (.bin .neq) [.t 58,.c (.int .i64 (0))]] [3,6,11,12,59])
 (.cond (.t 59) (.seq (cR [oM 60 11,
 oA 4 .move [.c (.slice none 0 0)],
 oM 5 60] [4,5])
 (.ret))
 (.skip)))
 (.seq (cR [oA 13 .move [.c (.slice none 0 0)]] [3,6,12,13])
 (.seq (.seq (cR [oA 61 (.fieldAddr 6) [.t 3],
 oA 62 (.load false 1) [.t 61],
 oA 63 .lenS [.t 62],
 oA 64 .move [.c (.int .i64 (0))]] [6,12,13,62,63,64])
 (.block 2 (.loop [6,12,13,62,63,64] l42_1)))
 (.seq (cR [oM 85 13,
 oM 4 85,
 oA 5 .move [.c (.int .i64 (0))]] [4,5])
 (.ret))))))))))),
 [.tmp 4, .tmp 5], none⟩

def f43 : Func := ⟨.seq (cR [oA 2 .move [.c (.pointer none)]] [0])
 (.seq (.seq (cR [oM 3 0,
 oA 4 (.isNil .ptr false) [.t 3]] [0,4])
 (.cond (.t 4) (.seq (cR [oA 2 .move [.c (.pointer none)]] [2])
 (.ret))
 (.skip)))
 (.seq (cR [oM 5 0,
 oA 6 .nilCheck [.t 5],
 oA 7 (.fieldAddr 0) [.t 6],
 oA 8 (.load false 1) [.t 7],
 oM 2 8] [2])
 (.ret))),
 [.tmp 2], none⟩

def f44 : Func := ⟨.seq (cR [oA 2 (.new 115 8 [(.int .i64 (0)), (.int .i64 (0)), (.int .i64 (0)), (.float .f64 0), (.int .i64 (0)), (.int .i64 (0)), (.int .i64 (0)), (.int .i64 (0))]) []] [0,2])
 (.seq (.seq (cR [oM 3 0,
 oA 4 .call [.c (.func (.func 51) #[] #[]),.t 3],
 oA 5 (.un .not) [.t 4]] [0,2,5])
 (.cond (.t 5) (.seq (cR [oA 6 (.build [(.int .i64 (0)), (.int .i64 (0)), (.int .i64 (0)), (.float .f64 0), (.int .i64 (0)), (.int .i64 (0)), (.int .i64 (0)), (.int .i64 (0))] []) [],
 oN (.store 8) [.t 2,.t 6]] [2])
 (.ret))
 (.skip)))
 (.seq (cR [oM 7 0,
 oA 8 .nilCheck [.t 7],
 oA 9 (.fieldAddr 1) [.t 8],
 oA 10 (.load true 8) [.t 9],
 oN (.store 8) [.t 2,.t 10]] [2])
 (.ret))),
 [.cell 2 true 8], none⟩

def f45 : Func := ⟨.seq (cR [oA 4 (.box 113 4) [.t 1],
 oA 6 .move [.c (.slice none 0 0)]] [0,2,4])
 (.seq (.seq (cR [oM 8 0,
 oA 9 (.isNil .ptr false) [.t 8]] [0,2,4,9])
 (.cond (.t 9) (.seq (cR [oA 6 .move [.c (.slice none 0 0)]] [6])
 (.ret))
 (.skip)))
 (.seq (cR [oM 10 0,
 oM 11 2,
 oA 12 .newMap [],
 oA 13 (.build [(.pointer none), (.int .i64 (0)), (.slice none 0 0), (.map none)] [(0, 1), (1, 1), (3, 1)]) [.t 10,.t 11,.t 12],
 oA 14 (.box 167 4) [.t 13],
 oM 7 14] [4,7])
 (.seq (cR [oM 15 7,
 oA 16 (.fieldAddr 0) [.t 4],
 oA 17 (.load true 3) [.t 16],
 oA 18 (.fieldAddr 3) [.t 4],
 oA 19 (.load false 1) [.t 18],
 oA 20 .call [.c (.func (.func 91) #[] #[]),.t 15,.t 17,.t 19,.c (.int .i64 (0)),.c (.int .i64 (512))]] [7])
 (.seq (cR [oM 21 7,
 oA 22 .nilCheck [.t 21],
 oA 23 (.fieldAddr 2) [.t 22],
 oA 24 (.load false 1) [.t 23],
 oM 6 24] [6])
 (.ret))))),
 [.tmp 6], none⟩

def f46 : Func := ⟨.seq (cR [oA 2 .move [.c (.int .i64 (0))]] [0])
 (.seq (cR [oM 3 0,
 oA 4 .call [.c (.func (.func 43) #[] #[]),.t 3],
 oA 5 .call [.c (.func (.func 44) #[] #[]),.t 4],
 oA 6 (.field 2 false 1) [.t 5],
 oM 2 6] [2])
 (.ret)),
 [.tmp 2], none⟩

def l47_0 : Code :=
 .seq (cR [oA 48 (.bin .lss) [.t 47,.t 46]] [0,2,4,10,45,46,47,48])
 (.seq (.cond (.t 48) (.skip)
 (.exit 0))
 (.seq (.block 1 (.seq (cR [oM 49 47,
 oA 50 (.idxAddr 3) [.t 45,.t 47],
 oA 51 (.load true 3) [.t 50],
 oA 13 (.new 111 3 [(.int .i64 (0)), (.int .i64 (0)), (.int .i64 (0))]) [],
 oM 12 49,
 oN (.store 3) [.t 13,.t 51]] [0,2,4,10,12,13,45,46,47])
 (cD [⟨[oM 52 0,
 oA 53 (.load true 3) [.t 13],
 oM 54 2,
 oA 55 (.bin .sub) [.t 54,.c (.int .i64 (1))],
 oA 56 (.fieldAddr 1) [.t 10],
 oA 57 (.load false 1) [.t 56],
 oM 58 12,
 oA 59 (.idxAddr 1) [.t 57,.t 58],
 oA 60 (.load false 1) [.t 59],
 oA 61 (.load true 5) [.t 10],
 oM 62 12,
 oM 63 4],some (oA 64 .call [.c (.func (.func 93) #[] #[]),.t 61,.t 62,.t 63]),[53,57,60],[]⟩,
 ⟨[],some (oA 65 .call [.c (.func (.func 47) #[] #[]),.t 52,.t 53,.t 55,.t 60,.t 64]),[],[]⟩] [52,53,54,55,56,57,58,59,60,61,62,63,64,65] [0,2,4,10,45,46,47])))
 (cR [oA 66 (.bin .add) [.t 47,.c (.int .i64 (1))],
 oM 47 66] [0,2,4,10,45,46,47])))
def l47_1 : Code :=
 .seq (cR [oA 71 (.bin .lss) [.t 70,.t 69]] [0,10,68,69,70,71])
 (.seq (.cond (.t 71) (.skip)
 (.exit 2))
 (.seq (.block 3 (.seq (cR [oM 72 70,
 oA 73 (.idxAddr 3) [.t 68,.t 70],
 oA 74 (.load true 3) [.t 73],
 oA 15 (.new 68 3 [(.int .i64 (0)), (.int .i64 (0)), (.int .i64 (0))]) [],
 oM 14 72,
 oN (.store 3) [.t 15,.t 74]] [0,10,14,15,68,69,70])
 (.seq (cD [⟨[oA 75 (.fieldAddr 0) [.t 15],
 oA 76 (.load false 1) [.t 75],
 oA 77 (.fieldAddr 1) [.t 15],
 oA 78 (.load false 1) [.t 77],
 oA 79 (.fieldAddr 3) [.t 10],
 oA 80 (.load false 1) [.t 79],
 oM 81 14,
 oA 82 (.idxAddr 1) [.t 80,.t 81],
 oA 83 (.load false 1) [.t 82],
 oA 84 (.build [(.int .i64 (0)), (.int .i64 (0)), (.int .i64 (0))] [(0, 1), (1, 1), (2, 1)]) [.t 76,.t 78,.t 83]],some (oA 16 (.new 111 3 [(.int .i64 (0)), (.int .i64 (0)), (.int .i64 (0))]) []),[76,78,80,83],[]⟩,
 ⟨[],some (oN (.store 3) [.t 16,.t 84]),[],[]⟩] [75,76,77,78,79,80,81,82,83,84,16] [0,10,14,15,16,68,69,70])
 (.seq (.seq (cD [⟨[oM 85 0,
 oA 86 .nilCheck [.t 85],
 oA 87 (.fieldAddr 6) [.t 86],
 oA 88 (.load false 1) [.t 87],
 oA 89 (.load true 3) [.t 16],
 oA 90 (.lookup (some 3) (.bool false) false) [.t 88,.t 89]],none,[],[]⟩] [85,86,87,88,89,90] [0,10,14,15,16,68,69,70,90])
 (.cond (.t 90) (.exit 3)
 (.skip)))
 (.seq (cD [⟨[oM 91 0,
 oA 92 .nilCheck [.t 91],
 oA 93 (.fieldAddr 6) [.t 92],
 oA 94 (.load false 1) [.t 93],
 oA 95 (.load true 3) [.t 16]],some (oN (.mapSet (some 3)) [.t 94,.t 95,.c (.bool true)]),[],[]⟩] [91,92,93,94,95] [0,10,14,15,68,69,70])
 (.seq (cD [⟨[oM 97 0,
 oA 98 .nilCheck [.t 97],
 oA 99 (.fieldAddr 0) [.t 98],
 oA 100 (.load false 1) [.t 99],
 oA 102 (.load true 3) [.t 15],
 oA 103 (.fieldAddr 3) [.t 10],
 oA 104 (.load false 1) [.t 103],
 oM 105 14,
 oA 106 (.idxAddr 1) [.t 104,.t 105],
 oA 107 (.load false 1) [.t 106]],some (oA 101 .call [.c (.func (.func 25) #[] #[]),.t 100]),[102,104,107],[]⟩,
 ⟨[],some (oA 108 .call [.c (.func (.func 26) #[] #[]),.t 101,.t 102,.t 107]),[],[]⟩,
 ⟨[oM 96 108,
 oA 109 (.extract 0) [.t 96],
 oA 110 (.extract 1) [.t 96],
 oM 17 109,
 oM 18 110],none,[],[]⟩] [97,98,99,100,101,102,103,104,105,106,107,108,96,109,110,17,18] [0,10,18,68,69,70])
 (.seq (cR [oM 111 18,
 oA 112 (.bin .eql) [.t 111,.c (.int .i64 (0))]] [0,10,68,69,70,112])
 (.cond (.t 112) (cR [oM 113 0,
 oA 114 .nilCheck [.t 113],
 oA 115 (.fieldAddr 1) [.t 114],
 oA 116 (.fieldAddr 1) [.t 115],
 oA 117 (.load false 1) [.t 116],
 oA 118 (.bin .add) [.t 117,.c (.int .i64 (1))],
 oA 119 .nilCheck [.t 113],
 oA 120 (.fieldAddr 1) [.t 119],
 oA 121 (.fieldAddr 1) [.t 120],
 oN (.store 1) [.t 121,.t 118]] [0,10,68,69,70])
 (.skip)))))))))
 (cR [oA 122 (.bin .add) [.t 70,.c (.int .i64 (1))],
 oM 70 122] [0,10,68,69,70])))
def f47 : Func := ⟨.seq (cR [oA 6 (.box 111 3) [.t 1]] [0,2,3,4,6])
 (.seq (cD [⟨[oM 20 0,
 oA 21 .nilCheck [.t 20],
 oA 22 (.fieldAddr 0) [.t 21],
 oA 23 (.load false 1) [.t 22],
 oA 26 (.load true 3) [.t 6],
 oM 27 2,
 oM 28 3,
 oM 29 4],some (oA 24 .call [.c (.func (.func 25) #[] #[]),.t 23]),[26],[oA 10 (.new 171 5 [(.int .i64 (0)), (.slice none 0 0), (.slice none 0 0), (.slice none 0 0), (.slice none 0 0)]) []]⟩,
 ⟨[oA 25 (.iface 76) [.t 24]],some (oA 30 .call [.c (.func (.func 92) #[] #[]),.t 25,.t 26,.t 27,.t 28,.t 29]),[],[oA 10 (.new 171 5 [(.int .i64 (0)), (.slice none 0 0), (.slice none 0 0), (.slice none 0 0), (.slice none 0 0)]) []]⟩,
 ⟨[oM 19 30,
 oA 31 (.extract 0) [.t 19],
 oA 32 (.extract 1) [.t 19]],some (oA 10 (.new 171 5 [(.int .i64 (0)), (.slice none 0 0), (.slice none 0 0), (.slice none 0 0), (.slice none 0 0)]) []),[],[]⟩,
 ⟨[],some (oN (.store 5) [.t 10,.t 31]),[],[]⟩,
 ⟨[oM 11 32],none,[],[]⟩] [20,21,22,23,24,25,26,27,28,29,30,19,31,32,10,11] [0,2,4,10,11])
 (.seq (.seq (cR [oM 33 11,
 oA 34 (.bin .neq) [.t 33,.c (.int .i64 (0))]] [0,2,4,10,34])
 (.cond (.t 34) (.ret)
 (.skip)))
 (.seq (cR [oM 35 0,
 oA 36 .nilCheck [.t 35],
 oA 37 (.fieldAddr 1) [.t 36],
 oA 38 (.fieldAddr 2) [.t 37],
 oA 39 (.load false 1) [.t 38],
 oA 40 (.bin .add) [.t 39,.c (.int .i64 (1))],
 oA 41 .nilCheck [.t 35],
 oA 42 (.fieldAddr 1) [.t 41],
 oA 43 (.fieldAddr 2) [.t 42],
 oN (.store 1) [.t 43,.t 40]] [0,2,4,10])
 (.seq (.seq (cR [oA 44 (.fieldAddr 4) [.t 10],
 oA 45 (.load false 1) [.t 44],
 oA 46 .lenS [.t 45],
 oA 47 .move [.c (.int .i64 (0))]] [0,2,4,10,45,46,47])
 (.block 0 (.loop [0,2,4,10,45,46,47] l47_0)))
 (.seq (cR [oA 67 (.fieldAddr 2) [.t 10],
 oA 68 (.load false 1) [.t 67],
 oA 69 .lenS [.t 68],
 oA 70 .move [.c (.int .i64 (0))]] [0,10,68,69,70])
 (.block 2 (.loop [0,10,68,69,70] l47_1))))))),
 [], none⟩

def f48 : Func := ⟨.seq (cR [oA 4 .move [.c (.bool false)]] [0,1])
 (.seq (cR [oM 8 0,
 oA 9 .nilCheck [.t 8],
 oA 10 (.fieldAddr 0) [.t 9],
 oA 11 (.load false 1) [.t 10],
 oA 12 .call [.c (.func (.func 94) #[] #[]),.t 11],
 oM 13 1,
 oA 14 .call [.c (.func (.func 95) #[] #[]),.t 12,.t 13],
 oM 7 14,
 oA 15 (.extract 0) [.t 7],
 oA 16 (.extract 1) [.t 7],
 oM 5 15,
 oM 6 16] [5,6])
 (.seq (.seq (cR [oM 17 6,
 oA 18 (.bin .neq) [.t 17,.c (.int .i64 (0))]] [5,18])
 (.cond (.t 18) (.seq (cR [oA 4 .move [.c (.bool false)]] [4])
 (.ret))
 (.skip)))
 (.seq (cR [oM 20 5,
 oA 21 .call [.c (.func (.func 96) #[] #[]),.t 20],
 oM 19 21,
 oA 22 (.extract 0) [.t 19],
 oA 23 (.extract 1) [.t 19],
 oM 6 23] [5,6])
 (.seq (cR [oM 24 6,
 oA 25 (.bin .eql) [.t 24,.c (.int .i64 (0))],
 oM 26 25,
 oG (some 27) .move [.t 5] 26 false,
 oG (some 28) .call [.c (.func (.func 97) #[] #[]),.t 27] 26 false,
 oA 29 .pick [.t 26,.c (.bool true),.t 28],
 oM 4 29] [4])
 (.ret))))),
 [.tmp 4], none⟩

def f49 : Func := ⟨.seq (cR [oA 2 .move [.c (.bool false)]] [0])
 (.seq (cR [oM 3 0,
 oA 4 (.isNil .ptr true) [.t 3],
 oM 5 4,
 oG (some 6) .move [.t 0] 5 true,
 oG (some 7) .nilCheck [.t 6] 5 true,
 oG (some 8) (.fieldAddr 1) [.t 7] 5 true,
 oG (some 9) (.load false 1) [.t 8] 5 true,
 oG (some 10) (.isNil .map true) [.t 9] 5 true,
 oA 11 .pick [.t 5,.t 10,.c (.bool false)],
 oM 2 11] [2])
 (.ret)),
 [.tmp 2], none⟩

def f50 : Func := ⟨.seq (cR [oA 2 .move [.c (.slice none 0 0)]] [0])
 (.seq (.seq (cR [oM 3 0,
 oA 4 (.isNil .slice false) [.t 3]] [0,4])
 (.cond (.t 4) (.seq (cR [oA 2 .move [.c (.slice none 0 0)]] [2])
 (.ret))
 (.skip)))
 (.seq (cR [oA 5 (.buildSlice 5 1 0 [] []) [],
 oM 6 0,
 oA 7 (.append 5 1 1) [.t 5,.t 6],
 oM 2 7] [2])
 (.ret))),
 [.tmp 2], none⟩

def f51 : Func := ⟨.seq (cR [oA 2 .move [.c (.bool false)]] [0])
 (.seq (cR [oM 3 0,
 oA 4 (.isNil .ptr true) [.t 3],
 oM 5 4,
 oG (some 6) .move [.t 0] 5 true,
 oG (some 7) .nilCheck [.t 6] 5 true,
 oG (some 8) (.fieldAddr 11) [.t 7] 5 true,
 oG (some 9) (.load false 1) [.t 8] 5 true,
 oG (some 10) (.isNil .ptr true) [.t 9] 5 true,
 oA 11 .pick [.t 5,.t 10,.c (.bool false)],
 oM 2 11] [2])
 (.ret)),
 [.tmp 2], none⟩

def l52_0 : Code :=
 .seq (.block 1 (.seq (cR [oM 32 0,
 oA 33 (.load true 3) [.t 9],
 oM 34 12,
 oM 35 10,
 oM 36 11,
 oA 37 .call [.c (.func (.func 92) #[] #[]),.t 32,.t 33,.t 34,.t 35,.t 36],
 oM 31 37,
 oA 38 (.extract 0) [.t 31],
 oA 39 (.extract 1) [.t 31],
 oA 13 (.new 171 5 [(.int .i64 (0)), (.slice none 0 0), (.slice none 0 0), (.slice none 0 0), (.slice none 0 0)]) [],
 oN (.store 5) [.t 13,.t 38],
 oM 14 39] [0,2,6,9,11,12,13,14])
 (.seq (.seq (cR [oM 40 14,
 oA 41 (.bin .neq) [.t 40,.c (.int .i64 (0))]] [0,2,6,9,11,12,13,14,41])
 (.cond (.t 41) (.seq (cR [oA 42 (.build [(.int .i64 (0)), (.int .i64 (0)), (.int .i64 (0)), (.int .i64 (0)), (.int .i64 (0))] []) [],
 oM 43 14,
 oN (.store 5) [.t 6,.t 42],
 oA 7 .move [.c (.bool false)],
 oM 8 43] [6,7,8])
 (.ret))
 (.skip)))
 (.seq (cR [oA 45 (.load true 5) [.t 13],
 oM 46 2,
 oA 47 .call [.c (.func (.func 99) #[] #[]),.t 45,.t 46],
 oM 44 47,
 oA 48 (.extract 0) [.t 44],
 oA 49 (.extract 1) [.t 44],
 oM 15 48,
 oM 16 49] [0,2,6,9,11,12,13,15,16])
 (.seq (.seq (cR [oA 50 (.fieldAddr 1) [.t 13],
 oA 51 (.load false 1) [.t 50],
 oA 52 .lenS [.t 51],
 oA 53 (.bin .eql) [.t 52,.c (.int .i64 (0))],
 oM 54 53,
 oG (some 55) (.fieldAddr 1) [.t 13] 54 false,
 oG (some 56) (.load false 1) [.t 55] 54 false,
 oG (some 57) .move [.t 15] 54 false,
 oG (some 58) (.idxAddr 1) [.t 56,.t 57] 54 false,
 oG (some 59) (.load false 1) [.t 58] 54 false,
 oG (some 60) .move [.t 2] 54 false,
 oG (some 61) (.bin .gtr) [.t 59,.t 60] 54 false,
 oA 62 .pick [.t 54,.c (.bool true),.t 61],
 oM 63 62,
 oG (some 64) .move [.t 12] 63 false,
 oG (some 65) (.bin .eql) [.t 64,.c (.int .i64 (0))] 63 false,
 oG (some 66) .move [.t 65] 63 false,
 oG (some 67) .move [.t 16] 66 true,
 oG (some 68) (.un .not) [.t 67] 66 true,
 oG (some 69) .pick [.t 66,.t 68,.c (.bool false)] 63 false,
 oA 70 .pick [.t 63,.c (.bool true),.t 69]] [0,2,6,9,11,12,13,15,70])
 (.cond (.t 70) (.seq (cR [oA 71 (.build [(.int .i64 (0)), (.int .i64 (0)), (.int .i64 (0)), (.int .i64 (0)), (.int .i64 (0))] []) [],
 oN (.store 5) [.t 6,.t 71],
 oA 7 .move [.c (.bool false)],
 oA 8 .move [.c (.int .i64 (0))]] [6,7,8])
 (.ret))
 (.skip)))
 (.seq (.seq (cR [oM 72 12,
 oA 73 (.bin .eql) [.t 72,.c (.int .i64 (0))]] [0,2,6,9,11,12,13,15,73])
 (.cond (.t 73) (.seq (cR [oA 74 (.load true 5) [.t 13],
 oM 75 15,
 oA 76 .call [.c (.func (.func 100) #[] #[]),.t 74,.t 75],
 oN (.store 5) [.t 6,.t 76],
 oA 7 .move [.c (.bool true)],
 oA 8 .move [.c (.int .i64 (0))]] [6,7,8])
 (.ret))
 (.skip)))
 (cD [⟨[oA 77 (.fieldAddr 4) [.t 13],
 oA 78 (.load false 1) [.t 77],
 oM 79 15,
 oA 80 (.idxAddr 3) [.t 78,.t 79],
 oA 81 (.load true 3) [.t 80],
 oA 82 (.fieldAddr 1) [.t 13],
 oA 83 (.load false 1) [.t 82],
 oM 84 15,
 oA 85 (.idxAddr 1) [.t 83,.t 84],
 oA 86 (.load false 1) [.t 85],
 oA 87 (.load true 5) [.t 13],
 oM 88 15,
 oM 89 11],some (oA 90 .call [.c (.func (.func 93) #[] #[]),.t 87,.t 88,.t 89]),[78,81,83,86],[]⟩,
 ⟨[],some (oN (.store 3) [.t 9,.t 81]),[83,86],[]⟩,
 ⟨[oM 10 86,
 oM 11 90],none,[],[]⟩] [77,78,79,80,81,82,83,84,85,86,87,88,89,90,10,11] [0,2,6,9,10,11,12])))))))
 (cR [oM 29 12,
 oA 30 (.bin .sub) [.t 29,.c (.int .i64 (1))],
 oM 12 30] [0,2,6,9,10,11,12])
def f52 : Func := ⟨.seq (cR [oA 4 (.box 113 4) [.t 1],
 oA 6 (.new 70 5 [(.int .i64 (0)), (.int .i64 (0)), (.int .i64 (0)), (.int .i64 (0)), (.int .i64 (0))]) [],
 oA 7 .move [.c (.bool false)],
 oA 8 .move [.c (.int .i64 (0))]] [0,2,4,6])
 (.seq (.seq (cR [oM 17 0,
 oA 18 (.isNil .iface false) [.t 17],
 oM 19 18,
 oG (some 20) .move [.t 2] 19 false,
 oG (some 21) .call [.c (.func (.func 98) #[] #[]),.t 20] 19 false,
 oG (some 22) (.un .not) [.t 21] 19 false,
 oA 23 .pick [.t 19,.c (.bool true),.t 22]] [0,2,4,6,23])
 (.cond (.t 23) (.seq (cR [oA 24 (.build [(.int .i64 (0)), (.int .i64 (0)), (.int .i64 (0)), (.int .i64 (0)), (.int .i64 (0))] []) [],
 oN (.store 5) [.t 6,.t 24],
 oA 7 .move [.c (.bool false)],
 oA 8 .move [.c (.int .i64 (1))]] [6,7,8])
 (.ret))
 (.skip)))
 (.seq (cR [oA 25 (.fieldAddr 0) [.t 4],
 oA 26 (.load true 3) [.t 25],
 oA 9 (.new 111 3 [(.int .i64 (0)), (.int .i64 (0)), (.int .i64 (0))]) [],
 oN (.store 3) [.t 9,.t 26],
 oA 10 .move [.c (.int .i64 (0))],
 oA 11 .move [.c (.int .i64 (512))]] [0,2,4,6,9,10,11])
 (.seq (cR [oA 27 (.fieldAddr 3) [.t 4],
 oA 28 (.load false 1) [.t 27],
 oM 12 28] [0,2,6,9,10,11,12])
 (.block 0 (.loop [0,2,6,9,10,11,12] l52_0))))),
 [.cell 6 true 5, .tmp 7, .tmp 8], none⟩

def l53_0 : Code :=
 .seq (cR [oA 49 (.bin .lss) [.t 48,.t 47]] [0,3,6,47,48,49])
 (.seq (.cond (.t 49) (.skip)
 (.exit 0))
 (.seq (.block 1 (.seq (cR [oM 50 48,
 oM 7 50] [0,3,6,7,47,48])
 (.seq (cD [⟨[oM 52 0,
 oA 53 .nilCheck [.t 52],
 oA 54 (.fieldAddr 0) [.t 53],
 oA 55 (.load false 1) [.t 54],
 oA 56 (.fieldAddr 0) [.t 3],
 oA 57 (.load false 1) [.t 56],
 oM 58 7,
 oA 59 (.bin .add) [.t 57,.t 58]],some (oA 60 .call [.c (.func (.func 95) #[] #[]),.t 55,.t 59]),[],[]⟩,
 ⟨[oM 51 60,
 oA 61 (.extract 0) [.t 51],
 oA 62 (.extract 1) [.t 51],
 oM 8 61,
 oM 9 62],none,[],[]⟩] [52,53,54,55,56,57,58,59,60,51,61,62,8,9] [0,3,6,8,9,47,48])
 (.seq (.seq (cR [oM 63 9,
 oA 64 (.bin .neq) [.t 63,.c (.int .i64 (0))]] [0,3,6,8,9,47,48,64])
 (.cond (.t 64) (.seq (cR [oM 65 9,
 oA 4 .move [.c (.slice none 0 0)],
 oM 5 65] [4,5])
 (.ret))
 (.skip)))
 (cR [oM 66 6,
 oM 67 8,
 oA 68 (.append 5 1 1) [.t 66,.t 67],
 oM 6 68] [0,3,6,47,48])))))
 (cR [oA 69 (.bin .add) [.t 48,.c (.int .i64 (1))],
 oM 48 69] [0,3,6,47,48])))
def f53 : Func := ⟨.seq (cR [oA 3 (.box 102 2) [.t 1],
 oA 4 .move [.c (.slice none 0 0)],
 oA 5 .move [.c (.int .i64 (0))]] [0,3])
 (.seq (.seq (cD [⟨[oM 10 0],some (oA 11 .call [.c (.func (.func 101) #[] #[]),.t 10]),[],[]⟩,
 ⟨[oA 12 (.un .not) [.t 11],
 oM 13 12,
 oG (some 14) (.fieldAddr 1) [.t 3] 13 false,
 oG (some 15) (.load false 1) [.t 14] 13 false,
 oG (some 16) (.bin .lss) [.t 15,.c (.int .i64 (1))] 13 false,
 oA 17 .pick [.t 13,.c (.bool true),.t 16],
 oM 18 17,
 oG (some 19) (.fieldAddr 0) [.t 3] 18 false,
 oG (some 20) (.load false 1) [.t 19] 18 false,
 oG (some 21) (.bin .lss) [.t 20,.c (.int .i64 (0))] 18 false,
 oA 22 .pick [.t 18,.c (.bool true),.t 21],
 oM 23 22,
 oG (some 24) (.fieldAddr 1) [.t 3] 23 false,
 oG (some 25) (.load false 1) [.t 24] 23 false,
 oG (some 26) .move [.t 0] 23 false,
 oG (some 27) .nilCheck [.t 26] 23 false,
 oG (some 28) (.fieldAddr 0) [.t 27] 23 false,
 oG (some 29) (.load false 1) [.t 28] 23 false],some (oG (some 30) .call [.c (.func (.func 55) #[] #[]),.t 29] 23 false),[25],[]⟩,
 ⟨[oG (some 31) (.bin .gtr) [.t 25,.t 30] 23 false,
 oA 32 .pick [.t 23,.c (.bool true),.t 31],
 oM 33 32,
 oG (some 34) (.fieldAddr 0) [.t 3] 33 false,
 oG (some 35) (.load false 1) [.t 34] 33 false,
 oG (some 36) .move [.t 0] 33 false,
 oG (some 37) .nilCheck [.t 36] 33 false,
 oG (some 38) (.fieldAddr 0) [.t 37] 33 false,
 oG (some 39) (.load false 1) [.t 38] 33 false,
 oG (some 41) (.fieldAddr 1) [.t 3] 33 false,
 oG (some 42) (.load false 1) [.t 41] 33 false],some (oG (some 40) .call [.c (.func (.func 55) #[] #[]),.t 39] 33 false),[35,42],[]⟩,
 ⟨[oG (some 43) (.bin .sub) [.t 40,.t 42] 33 false,
 oG (some 44) (.bin .gtr) [.t 35,.t 43] 33 false,
 oA 45 .pick [.t 33,.c (.bool true),.t 44]],none,[],[]⟩] [10,11,12,13,14,15,16,17,18,19,20,21,22,23,24,25,26,27,28,29,30,31,32,33,34,35,36,37,38,39,40,41,42,43,44,45] [0,3,45])
 (.cond (.t 45) (.seq (cR [oA 4 .move [.c (.slice none 0 0)],
 oA 5 .move [.c (.int .i64 (1))]] [4,5])
 (.ret))
 (.skip)))
 (.seq (cR [oA 6 .move [.c (.slice none 0 0)]] [0,3,6])
 (.seq (.seq (cR [oA 46 (.fieldAddr 1) [.t 3],
 oA 47 (.load false 1) [.t 46],
 oA 48 .move [.c (.int .i64 (0))]] [0,3,6,47,48])
 (.block 0 (.loop [0,3,6,47,48] l53_0)))
 (.seq (cR [oM 70 6,
 oM 4 70,
 oA 5 .move [.c (.int .i64 (0))]] [4,5])
 (.ret))))),
 [.tmp 4, .tmp 5], none⟩

def l54_0 : Code :=
 .seq (cR [oA 52 (.bin .lss) [.t 51,.t 50]] [5,11,12,50,51,52])
 (.seq (.cond (.t 52) (.skip)
 (.exit 0))
 (.seq (.block 1 (.seq (cR [oM 53 51,
 oM 13 53] [5,11,12,13,50,51])
 (cR [oM 54 12,
 oM 55 11,
 oM 56 13,
 oA 57 (.bin .mul) [.t 56,.c (.int .i64 (128))],
 oM 58 13,
 oA 59 (.bin .add) [.t 58,.c (.int .i64 (1))],
 oA 60 (.bin .mul) [.t 59,.c (.int .i64 (128))],
 oA 61 (.slice 1 true true false) [.t 55,.t 57,.t 60],
 oA 62 .call [.c (.func (.func 50) #[] #[]),.t 61],
 oA 63 (.buildSlice 23 1 1 [(.slice none 0 0)] [(0, 1)]) [.t 62],
 oA 64 (.append 23 1 24) [.t 54,.t 63],
 oM 12 64] [5,11,12,50,51])))
 (cR [oA 65 (.bin .add) [.t 51,.c (.int .i64 (1))],
 oM 51 65] [5,11,12,50,51])))
def f54 : Func := ⟨.seq (cR [oA 2 .move [.c (.slice none 0 0)],
 oA 3 .move [.c (.int .i64 (0))],
 oA 4 .move [.c (.int .i64 (0))]] [0])
 (.seq (cR [oM 15 0,
 oA 16 .call [.c (.func (.func 102) #[] #[]),.t 15,.c (.int .u8 (231))],
 oM 14 16,
 oA 17 (.extract 0) [.t 14],
 oA 18 (.extract 1) [.t 14],
 oA 19 (.extract 2) [.t 14],
 oM 5 17,
 oM 6 18,
 oM 7 19] [5,6,7])
 (.seq (.seq (cR [oM 20 7,
 oA 21 (.bin .neq) [.t 20,.c (.int .i64 (0))]] [5,6,7,21])
 (.cond (.t 21) (.seq (cR [oM 22 7,
 oA 2 .move [.c (.slice none 0 0)],
 oA 3 .move [.c (.int .i64 (0))],
 oM 4 22] [2,3,4])
 (.ret))
 (.skip)))
 (.seq (cR [oA 8 (.new 3 1 [(.int .i64 (0))]) [],
 oA 9 (.new 3 1 [(.int .i64 (0))]) []] [5,6,8,9])
 (.seq (cR [oA 10 (.new 23 1 [(.slice none 0 0)]) []] [5,6,8,9,10])
 (.seq (cR [oM 23 6,
 oA 24 (.func 104 0) [.t 8,.t 9,.t 10],
 oA 25 .call [.c (.func (.func 103) #[] #[]),.t 23,.t 24],
 oM 7 25] [5,7,8,9,10])
 (.seq (.seq (cR [oM 26 7,
 oA 27 (.bin .neq) [.t 26,.c (.int .i64 (0))]] [5,7,8,9,10,27])
 (.cond (.t 27) (.seq (cR [oM 28 7,
 oA 2 .move [.c (.slice none 0 0)],
 oA 3 .move [.c (.int .i64 (0))],
 oM 4 28] [2,3,4])
 (.ret))
 (.skip)))
 (.seq (.seq (cR [oA 29 (.load false 1) [.t 8],
 oA 30 (.bin .lss) [.t 29,.c (.int .i64 (1))],
 oM 31 30,
 oG (some 32) (.load false 1) [.t 8] 31 false,
 oG (some 33) (.bin .gtr) [.t 32,.c (.int .i64 (8))] 31 false,
 oA 34 .pick [.t 31,.c (.bool true),.t 33],
 oM 35 34,
 oG (some 36) (.load false 1) [.t 9] 35 false,
 oG (some 37) (.bin .gtr) [.t 36,.c (.int .i64 (2))] 35 false,
 oA 38 .pick [.t 35,.c (.bool true),.t 37]] [5,8,9,10,38])
 (.cond (.t 38) (.seq (cR [oA 2 .move [.c (.slice none 0 0)],
 oA 3 .move [.c (.int .i64 (0))],
 oA 4 .move [.c (.int .i64 (4))]] [2,3,4])
 (.ret))
 (.skip)))
 (.seq (cR [oA 40 (.load false 1) [.t 9],
 oA 41 (.load false 1) [.t 10],
 oA 42 (.load false 1) [.t 8],
 oA 43 (.bin .mul) [.t 42,.c (.int .i64 (128))],
 oA 44 .call [.c (.func (.func 107) #[] #[]),.t 40,.t 41,.t 43],
 oM 39 44,
 oA 45 (.extract 0) [.t 39],
 oA 46 (.extract 1) [.t 39],
 oM 11 45,
 oM 7 46] [5,7,8,11])
 (.seq (.seq (cR [oM 47 7,
 oA 48 (.bin .neq) [.t 47,.c (.int .i64 (0))]] [5,7,8,11,48])
 (.cond (.t 48) (.seq (cR [oM 49 7,
 oA 2 .move [.c (.slice none 0 0)],
 oA 3 .move [.c (.int .i64 (0))],
 oM 4 49] [2,3,4])
 (.ret))
 (.skip)))
 (.seq (cR [oA 12 .move [.c (.slice none 0 0)]] [5,8,11,12])
 (.seq (.seq (cR [oA 50 (.load false 1) [.t 8],
 oA 51 .move [.c (.int .i64 (0))]] [5,11,12,50,51])
 (.block 0 (.loop [5,11,12,50,51] l54_0)))
 (.seq (cR [oM 66 12,
 oM 67 5,
 oM 2 66,
 oM 3 67,
 oA 4 .move [.c (.int .i64 (0))]] [2,3,4])
 (.ret))))))))))))),
 [.tmp 2, .tmp 3, .tmp 4], none⟩

def f55 : Func := ⟨.seq (cR [oA 2 .move [.c (.int .i64 (0))]] [0])
 (.seq (.seq (cR [oM 3 0,
 oA 4 (.isNil .ptr false) [.t 3]] [0,4])
 (.cond (.t 4) (.seq (cR [oA 2 .move [.c (.int .i64 (0))]] [2])
 (.ret))
 (.skip)))
 (.seq (cR [oM 5 0,
 oA 6 .nilCheck [.t 5],
 oA 7 (.fieldAddr 0) [.t 6],
 oA 8 (.load false 1) [.t 7],
 oA 9 .lenS [.t 8],
 oM 2 9] [2])
 (.ret))),
 [.tmp 2], none⟩

def f56 : Func := ⟨.seq (cR [oA 2 .move [.c (.pointer none)]] [0])
 (.seq (.seq (cR [oM 3 0,
 oA 4 (.bin .lss) [.t 3,.c (.int .i64 (1))],
 oM 5 4,
 oG (some 6) .move [.t 0] 5 false,
 oG (some 7) (.bin .gtr) [.t 6,.c (.int .i64 (8192))] 5 false,
 oA 8 .pick [.t 5,.c (.bool true),.t 7]] [0,8])
 (.cond (.t 8) (.seq (cR [oA 9 (.build [(.int .i64 (0)), (.slice none 0 0)] []) [],
 oA 10 (.box 195 2) [.t 9],
 oM 2 10] [2])
 (.ret))
 (.skip)))
 (.seq (cR [oM 11 0,
 oM 12 0,
 oA 13 (.build [(.int .i64 (0)), (.int .i64 (0))] [(0, 1), (1, 1)]) [.c (.int .i64 (0)),.t 12],
 oA 14 (.buildSlice 102 2 1 [(.int .i64 (0)), (.int .i64 (0))] [(0, 2)]) [.t 13],
 oA 15 (.build [(.int .i64 (0)), (.slice none 0 0)] [(0, 1), (1, 1)]) [.t 11,.t 14],
 oA 16 (.box 195 2) [.t 15],
 oM 2 16] [2])
 (.ret))),
 [.tmp 2], none⟩

def l57_0 : Code :=
 .seq (cR [oA 20 (.bin .lss) [.t 19,.t 18]] [0,1,2,17,18,19,20])
 (.seq (.cond (.t 20) (.skip)
 (.exit 0))
 (.seq (.block 1 (.seq (cR [oM 21 19,
 oA 22 (.idxAddr 2) [.t 17,.t 19],
 oA 23 (.load true 2) [.t 22],
 oA 8 (.new 102 2 [(.int .i64 (0)), (.int .i64 (0))]) [],
 oM 7 21,
 oN (.store 2) [.t 8,.t 23]] [0,1,2,7,8,17,18,19])
 (.seq (cR [oA 24 (.fieldAddr 0) [.t 8],
 oA 25 (.load false 1) [.t 24],
 oM 26 1,
 oA 27 (.bin .leq) [.t 25,.t 26],
 oM 28 27,
 oG (some 29) .move [.t 1] 28 true,
 oG (some 30) .move [.t 2] 28 true,
 oG (some 31) (.bin .add) [.t 29,.t 30] 28 true,
 oG (some 32) (.fieldAddr 0) [.t 8] 28 true,
 oG (some 33) (.load false 1) [.t 32] 28 true,
 oG (some 34) (.fieldAddr 1) [.t 8] 28 true,
 oG (some 35) (.load false 1) [.t 34] 28 true,
 oG (some 36) (.bin .add) [.t 33,.t 35] 28 true,
 oG (some 37) (.bin .leq) [.t 31,.t 36] 28 true,
 oA 38 .pick [.t 28,.t 37,.c (.bool false)]] [0,1,2,7,8,17,18,19,38])
 (.cond (.t 38) (.seq (cR [oM 39 0,
 oM 40 7,
 oA 41 (.fieldAddr 0) [.t 8],
 oA 42 (.load false 1) [.t 41],
 oM 43 1,
 oA 44 (.fieldAddr 0) [.t 8],
 oA 45 (.load false 1) [.t 44],
 oA 46 (.bin .sub) [.t 43,.t 45],
 oA 47 (.build [(.int .i64 (0)), (.int .i64 (0))] [(0, 1), (1, 1)]) [.t 42,.t 46],
 oM 48 1,
 oM 49 2,
 oA 50 (.bin .add) [.t 48,.t 49],
 oA 51 (.fieldAddr 0) [.t 8],
 oA 52 (.load false 1) [.t 51],
 oA 53 (.fieldAddr 1) [.t 8],
 oA 54 (.load false 1) [.t 53],
 oA 55 (.bin .add) [.t 52,.t 54],
 oM 56 1,
 oA 57 (.bin .sub) [.t 55,.t 56],
 oM 58 2,
 oA 59 (.bin .sub) [.t 57,.t 58],
 oA 60 (.build [(.int .i64 (0)), (.int .i64 (0))] [(0, 1), (1, 1)]) [.t 50,.t 59],
 oA 61 (.buildSlice 102 2 2 [(.int .i64 (0)), (.int .i64 (0)), (.int .i64 (0)), (.int .i64 (0))] [(0, 2), (2, 2)]) [.t 47,.t 60],
 oA 62 .call [.c (.func (.func 109) #[] #[]),.t 39,.t 40,.t 61]] [])
 (.seq (cR [oA 6 .move [.c (.bool true)]] [6])
 (.ret)))
 (.skip)))))
 (cR [oA 63 (.bin .add) [.t 19,.c (.int .i64 (1))],
 oM 19 63] [0,1,2,17,18,19])))
def f57 : Func := ⟨.seq (cR [oA 6 .move [.c (.bool false)]] [0,1,2])
 (.seq (.seq (cR [oM 9 0,
 oM 10 1,
 oM 11 2,
 oA 12 .call [.c (.func (.func 108) #[] #[]),.t 9,.t 10,.t 11],
 oA 13 (.un .not) [.t 12]] [0,1,2,13])
 (.cond (.t 13) (.seq (cR [oA 6 .move [.c (.bool false)]] [6])
 (.ret))
 (.skip)))
 (.seq (.seq (cR [oM 14 0,
 oA 15 .nilCheck [.t 14],
 oA 16 (.fieldAddr 1) [.t 15],
 oA 17 (.load false 1) [.t 16],
 oA 18 .lenS [.t 17],
 oA 19 .move [.c (.int .i64 (0))]] [0,1,2,17,18,19])
 (.block 0 (.loop [0,1,2,17,18,19] l57_0)))
 (.seq (cR [oA 6 .move [.c (.bool false)]] [6])
 (.ret)))),
 [.tmp 6], none⟩

def f58 : Func := ⟨.seq (cR [oA 8 .move [.c (.pointer none)]] [0,1,2,3])
 (.seq (.seq (cR [oM 9 0,
 oA 10 (.isNil .ptr false) [.t 9],
 oM 11 10,
 oG (some 12) .move [.t 1] 11 false,
 oG (some 13) (.isNil .ptr false) [.t 12] 11 false,
 oA 14 .pick [.t 11,.c (.bool true),.t 13],
 oM 15 14,
 oG (some 16) .move [.t 2] 15 false,
 oG (some 17) (.isNil .ptr false) [.t 16] 15 false,
 oA 18 .pick [.t 15,.c (.bool true),.t 17]] [0,1,2,3,18])
 (.cond (.t 18) (.seq (cR [oA 8 .move [.c (.pointer none)]] [8])
 (.ret))
 (.skip)))
 (.seq (cR [oM 19 0,
 oM 20 1,
 oM 21 2,
 oM 22 3,
 oA 23 (.build [(.pointer none), (.pointer none), (.pointer none), (.int .i64 (0))] [(0, 1), (1, 1), (2, 1), (3, 1)]) [.t 19,.t 20,.t 21,.t 22],
 oA 24 (.box 185 4) [.t 23],
 oM 8 24] [8])
 (.ret))),
 [.tmp 8], none⟩

def f59 : Func := ⟨.seq (cR [oA 2 .move [.c (.pointer none)]] [0])
 (.seq (.seq (cR [oM 3 0,
 oA 4 (.isNil .ptr false) [.t 3]] [0,4])
 (.cond (.t 4) (.seq (cR [oA 2 .move [.c (.pointer none)]] [2])
 (.ret))
 (.skip)))
 (.seq (cR [oM 5 0,
 oA 6 .newMap [],
 oA 7 .newMap [],
 oA 8 .newMap [],
 oA 9 (.build [(.pointer none), (.map none), (.map none), (.map none), (.slice none 0 0)] [(0, 1), (1, 1), (2, 1), (3, 1)]) [.t 5,.t 6,.t 7,.t 8],
 oA 10 (.box 199 5) [.t 9],
 oM 2 10] [2])
 (.ret))),
 [.tmp 2], none⟩

def f60 : Func := ⟨.seq (cR [oA 2 .move [.c (.float .f64 0)]] [0])
 (.seq (.block 0 (.seq (cR [oM 4 0,
 oA 5 .call [.c (.func (.func 110) #[] #[]),.t 4],
 oM 6 5,
 oG (some 7) .move [.t 0] 6 false,
 oG (some 8) (.bin .gtr) [.t 7,.c (.float .f64 4607182418800017408)] 6 false,
 oA 9 .pick [.t 6,.c (.bool true),.t 8],
 oM 3 9] [0,3])
 (.cond (.t 3) (.seq (cR [oA 2 .move [.c (.float .f64 4607182418800017408)]] [2])
 (.ret))
 (.seq (cR [oM 11 0,
 oA 12 (.bin .leq) [.t 11,.c (.float .f64 0)],
 oM 10 12] [0,10])
 (.cond (.t 10) (.seq (cR [oA 2 .move [.c (.float .f64 0)]] [2])
 (.ret))
 (.skip))))))
 (.seq (cR [oM 13 0,
 oM 2 13] [2])
 (.ret))),
 [.tmp 2], none⟩

def l61_0 : Code :=
 .seq (cR [oA 9 (.bin .lss) [.t 8,.t 7]] [6,7,8,9])
 (.seq (.cond (.t 9) (.skip)
 (.exit 0))
 (.seq (.block 1 (.seq (cR [oA 10 (.idxAddr 1) [.t 6,.t 8],
 oA 11 (.load false 1) [.t 10],
 oM 4 11] [4,6,7,8])
 (.seq (cR [oM 12 4,
 oA 13 .call [.t 12],
 oM 5 13] [5,6,7,8])
 (.seq (cR [oM 14 5,
 oA 15 (.bin .neq) [.t 14,.c (.int .i64 (0))]] [5,6,7,8,15])
 (.cond (.t 15) (.seq (cR [oM 16 5,
 oM 2 16] [2])
 (.ret))
 (.skip))))))
 (cR [oA 17 (.bin .add) [.t 8,.c (.int .i64 (1))],
 oM 8 17] [6,7,8])))
def f61 : Func := ⟨.seq (cR [oA 2 .move [.c (.int .i64 (0))]] [0])
 (.seq (.seq (cR [oM 6 0,
 oA 7 .lenS [.t 6],
 oA 8 .move [.c (.int .i64 (0))]] [6,7,8])
 (.block 0 (.loop [6,7,8] l61_0)))
 (.seq (cR [oA 2 .move [.c (.int .i64 (0))]] [2])
 (.ret))),
 [.tmp 2], none⟩

def f62 : Func := ⟨.seq (cR [oA 2 .move [.c (.int .i64 (0))]] [0,1])
 (.seq (cR [oA 3 (.load false 1) [.t 0],
 oA 4 (.load false 1) [.t 1],
 oA 5 .call [.c (.func (.func 63) #[] #[]),.t 3,.c (.int .i64 (0)),.t 4],
 oM 2 5] [2])
 (.ret)),
 [.tmp 2], none⟩

def f63 : Func := ⟨.seq (cR [oA 3 (.box 41 1) [.t 0],
 oA 4 (.box 3 1) [.t 1],
 oA 5 (.box 23 1) [.t 2],
 oA 6 .move [.c (.int .i64 (0))]] [3,4,5])
 (.seq (cR [oA 7 (.load false 1) [.t 3],
 oA 8 (.func 112 0) [.t 3,.t 4,.t 5],
 oA 9 .call [.c (.func (.func 111) #[] #[]),.t 7,.c (.int .i64 (2)),.t 8],
 oM 6 9] [6])
 (.ret)),
 [.tmp 6], none⟩

def f64 : Func := ⟨.seq (cR [oA 2 .move [.c (.int .i64 (0))]] [0,1])
 (.seq (cR [oA 3 (.load false 1) [.t 0],
 oA 4 (.load false 1) [.t 1],
 oA 5 .call [.c (.func (.func 63) #[] #[]),.t 3,.c (.int .i64 (1)),.t 4],
 oM 2 5] [2])
 (.ret)),
 [.tmp 2], none⟩

def f65 : Func := ⟨.seq (cR [oA 1 (.box 41 1) [.t 0],
 oA 2 .move [.c (.int .i64 (0))]] [1])
 (.seq (cR [oA 3 (.load false 1) [.t 1],
 oA 4 (.func 113 0) [.t 1],
 oA 5 .call [.c (.func (.func 111) #[] #[]),.t 3,.c (.int .i64 (3)),.t 4],
 oM 2 5] [2])
 (.ret)),
 [.tmp 2], none⟩

def f66 : Func := ⟨.seq (cR [oA 2 .move [.c (.int .i64 (0))]] [0,1])
 (.seq (cR [oA 4 (.load false 1) [.t 0],
 oA 5 (.iface 76) [.t 4],
 oA 6 .call [.c (.func (.func 67) #[] #[]),.t 5],
 oM 3 6,
 oA 7 (.extract 0) [.t 3],
 oA 8 (.extract 1) [.t 3],
 oA 9 (.fieldAddr 4) [.t 1],
 oN (.store 4) [.t 9,.t 7],
 oM 2 8] [2])
 (.seq (cR [oM 10 2,
 oM 2 10] [2])
 (.ret))),
 [.tmp 2], none⟩

def f67 : Func := ⟨.seq (cR [oA 2 (.new 113 4 [(.int .i64 (0)), (.int .i64 (0)), (.int .i64 (0)), (.int .i64 (0))]) [],
 oA 3 .move [.c (.int .i64 (0))]] [0,2])
 (.seq (.seq (cR [oM 6 0,
 oA 7 (.isNil .iface false) [.t 6]] [0,2,7])
 (.cond (.t 7) (.seq (cR [oA 8 (.build [(.int .i64 (0)), (.int .i64 (0)), (.int .i64 (0)), (.int .i64 (0))] []) [],
 oN (.store 4) [.t 2,.t 8],
 oA 3 .move [.c (.int .i64 (1))]] [2,3])
 (.ret))
 (.skip)))
 (.seq (cR [oM 10 0,
 oA 11 (.build [(.int .i64 (0)), (.slice none 0 0), (.slice none 0 0), (.slice none 0 0), (.slice none 0 0)] []) [],
 oA 12 (.invoke "Save") [.t 10,.t 11],
 oM 9 12,
 oA 13 (.extract 0) [.t 9],
 oA 14 (.extract 1) [.t 9],
 oA 4 (.new 111 3 [(.int .i64 (0)), (.int .i64 (0)), (.int .i64 (0))]) [],
 oN (.store 3) [.t 4,.t 13],
 oM 5 14] [2,4,5])
 (.seq (.seq (cR [oM 15 5,
 oA 16 (.bin .neq) [.t 15,.c (.int .i64 (0))]] [2,4,5,16])
 (.cond (.t 16) (.seq (cR [oA 17 (.build [(.int .i64 (0)), (.int .i64 (0)), (.int .i64 (0)), (.int .i64 (0))] []) [],
 oM 18 5,
 oN (.store 4) [.t 2,.t 17],
 oM 3 18] [2,3])
 (.ret))
 (.skip)))
 (.seq (cR [oA 19 (.load true 3) [.t 4],
 oA 20 (.build [(.int .i64 (0)), (.int .i64 (0)), (.int .i64 (0)), (.int .i64 (0))] [(0, 3)]) [.t 19],
 oN (.store 4) [.t 2,.t 20],
 oA 3 .move [.c (.int .i64 (0))]] [2,3])
 (.ret))))),
 [.cell 2 true 4, .tmp 3], none⟩

def f68 : Func := ⟨.seq (cR [oA 2 .move [.c (.int .i64 (0))]] [0,1])
 (.seq (cR [oA 3 (.load false 1) [.t 0],
 oA 4 (.load true 8) [.t 1],
 oA 5 .call [.c (.func (.func 69) #[] #[]),.t 3,.t 4],
 oM 2 5] [2])
 (.ret)),
 [.tmp 2], none⟩

def f69 : Func := ⟨.seq (cR [oA 3 (.box 115 8) [.t 1],
 oA 4 .move [.c (.int .i64 (0))]] [0,3])
 (.seq (cR [oA 8 (.load true 8) [.t 3],
 oA 9 .call [.c (.func (.func 115) #[] #[]),.t 8],
 oM 7 9,
 oA 10 (.extract 0) [.t 7],
 oA 11 (.extract 1) [.t 7],
 oM 5 10,
 oM 6 11] [0,3,5,6])
 (.seq (.seq (cR [oM 12 6,
 oA 13 (.bin .neq) [.t 12,.c (.int .i64 (0))]] [0,3,5,6,13])
 (.cond (.t 13) (.seq (cR [oM 14 6,
 oM 4 14] [4])
 (.ret))
 (.skip)))
 (.seq (cR [oM 15 0,
 oA 16 (.load true 8) [.t 3],
 oA 17 .call [.c (.func (.func 116) #[] #[]),.t 16],
 oM 18 5,
 oA 19 .call [.c (.func (.func 63) #[] #[]),.t 15,.t 17,.t 18],
 oM 4 19] [4])
 (.ret)))),
 [.tmp 4], none⟩

def f70 : Func := ⟨.seq (cR [oA 1 (.box 41 1) [.t 0],
 oA 2 .move [.c (.pointer none)],
 oA 3 .move [.c (.int .i64 (0))]] [1])
 (.seq (.seq (cR [oA 9 (.load false 1) [.t 1],
 oA 10 .call [.c (.func (.func 55) #[] #[]),.t 9],
 oA 11 (.bin .eql) [.t 10,.c (.int .i64 (0))]] [1,11])
 (.cond (.t 11) (.seq (cR [oA 2 .move [.c (.pointer none)],
 oA 3 .move [.c (.int .i64 (1))]] [2,3])
 (.ret))
 (.skip)))
 (.seq (cR [oA 12 (.load false 1) [.t 1],
 oA 13 (.build [(.pointer none), (.int .i64 (0)), (.int .i64 (0)), (.int .i64 (0)), (.float .f64 0), (.int .i64 (0)), (.int .i64 (0)), (.int .i64 (0)), (.int .i64 (0)), (.pointer none), (.pointer none), (.pointer none), (.bool false)] [(0, 1)]) [.t 12],
 oA 14 (.box 131 13) [.t 13],
 oA 4 (.new 62 1 [(.pointer none)]) [],
 oN (.store 1) [.t 4,.t 14]] [1,4])
 (.seq (cR [oA 5 (.new 23 1 [(.slice none 0 0)]) [],
 oA 6 (.new 23 1 [(.slice none 0 0)]) []] [1,4,5,6])
 (.seq (cR [oA 7 (.new 158 1 [(.slice none 0 0)]) []] [1,4,5,6,7])
 (.seq (cR [oA 15 (.load false 1) [.t 1],
 oA 16 (.func 65 1) [.t 15],
 oA 17 (.func 117 0) [.t 1,.t 5],
 oA 18 (.func 118 0) [.t 1,.t 6],
 oA 19 (.func 119 0) [.t 5,.t 6,.t 4,.t 1],
 oA 20 (.func 121 0) [.t 1,.t 4,.t 7],
 oA 21 (.func 122 0) [.t 7,.t 1,.t 4],
 oA 22 (.buildSlice 47 1 6 [.nilFunc, .nilFunc, .nilFunc, .nilFunc, .nilFunc, .nilFunc] [(0, 1), (1, 1), (2, 1), (3, 1), (4, 1), (5, 1)]) [.t 16,.t 17,.t 18,.t 19,.t 20,.t 21],
 oA 23 .call [.c (.func (.func 61) #[] #[]),.t 22],
 oM 8 23] [1,4,8])
 (.seq (.seq (cR [oM 24 8,
 oA 25 (.bin .neq) [.t 24,.c (.int .i64 (0))]] [1,4,8,25])
 (.cond (.t 25) (.seq (cR [oM 26 8,
 oA 2 .move [.c (.pointer none)],
 oM 3 26] [2,3])
 (.ret))
 (.skip)))
 (.seq (cD [⟨[oA 27 (.load false 1) [.t 4],
 oA 28 (.load false 1) [.t 1],
 oA 29 (.load false 1) [.t 4],
 oA 30 .nilCheck [.t 29],
 oA 31 (.fieldAddr 10) [.t 30],
 oA 32 (.load false 1) [.t 31],
 oA 33 (.load false 1) [.t 4],
 oA 34 .nilCheck [.t 33],
 oA 35 (.fieldAddr 9) [.t 34],
 oA 36 (.load false 1) [.t 35],
 oA 37 (.load false 1) [.t 4],
 oA 38 .nilCheck [.t 37],
 oA 39 (.fieldAddr 1) [.t 38],
 oA 40 (.fieldAddr 0) [.t 39],
 oA 41 (.load false 1) [.t 40],
 oA 42 (.bin .add) [.t 41,.c (.int .i64 (1))]],some (oA 43 .call [.c (.func (.func 58) #[] #[]),.t 28,.t 32,.t 36,.t 42]),[27],[]⟩,
 ⟨[oA 44 .nilCheck [.t 27],
 oA 45 (.fieldAddr 11) [.t 44]],some (oN (.store 1) [.t 45,.t 43]),[],[]⟩] [27,28,29,30,31,32,33,34,35,36,37,38,39,40,41,42,43,44,45] [4])
 (.seq (cR [oA 46 (.load false 1) [.t 4],
 oM 2 46,
 oA 3 .move [.c (.int .i64 (0))]] [2,3])
 (.ret))))))))),
 [.tmp 2, .tmp 3], none⟩

def f71 : Func := ⟨.seq (cR [oA 2 .move [.c (.pointer none)]] [0])
 (.seq (cR [oM 3 0,
 oA 4 .max [.t 3,.c (.int .i64 (0))],
 oA 5 .min [.t 4,.c (.int .i64 (512))],
 oA 6 .newMap [],
 oA 7 (.build [(.int .i64 (0)), (.map none)] [(0, 1), (1, 1)]) [.t 5,.t 6],
 oA 8 (.box 126 2) [.t 7],
 oM 2 8] [2])
 (.ret)),
 [.tmp 2], none⟩

def l72_0 : Code :=
 .seq (cR [oA 12 (.bin .lss) [.t 11,.t 10]] [0,1,9,10,11,12])
 (.seq (.cond (.t 12) (.skip)
 (.exit 0))
 (.seq (.block 1 (.seq (cR [oM 13 11,
 oA 14 (.idxAddr 2) [.t 9,.t 11],
 oA 15 (.load true 2) [.t 14],
 oA 5 (.new 204 2 [(.int .i64 (0)), (.slice none 0 0)]) [],
 oM 4 13,
 oN (.store 2) [.t 5,.t 15]] [0,1,4,5,9,10,11])
 (.seq (cR [oM 16 1,
 oM 17 4,
 oA 18 .call [.t 16,.t 17]] [0,1,5,9,10,11,18])
 (.cond (.t 18) (cD [⟨[oM 19 0,
 oA 20 .nilCheck [.t 19],
 oA 21 (.fieldAddr 0) [.t 20],
 oA 22 (.load false 1) [.t 21],
 oA 23 (.fieldAddr 0) [.t 5],
 oA 24 (.load false 1) [.t 23],
 oA 25 (.fieldAddr 1) [.t 5],
 oA 26 (.load false 1) [.t 25],
 oA 27 (.idxAddr 1) [.t 22,.t 24]],some (oN (.store 1) [.t 27,.t 26]),[],[]⟩] [19,20,21,22,23,24,25,26,27] [0,1,9,10,11])
 (.skip)))))
 (cR [oA 28 (.bin .add) [.t 11,.c (.int .i64 (1))],
 oM 11 28] [0,1,9,10,11])))
def f72 : Func := ⟨.seq (.seq (cR [oM 6 0,
 oA 7 .nilCheck [.t 6],
 oA 8 (.fieldAddr 1) [.t 7],
 oA 9 (.load false 1) [.t 8],
 oA 10 .lenS [.t 9],
 oA 11 .move [.c (.int .i64 (0))]] [0,1,9,10,11])
 (.block 0 (.loop [0,1,9,10,11] l72_0)))
 (cR [oM 29 0,
 oA 30 .nilCheck [.t 29],
 oA 31 (.fieldAddr 1) [.t 30],
 oN (.store 1) [.t 31,.c (.slice none 0 0)]] []),
 [], none⟩

def f73 : Func := ⟨.seq (cR [oA 3 .move [.c (.bool false)]] [0,1])
 (.seq (cR [oM 4 0,
 oA 5 (.load false 1) [.t 1],
 oA 6 .lenS [.t 5],
 oA 7 (.bin .lss) [.t 4,.t 6],
 oM 8 7,
 oG (some 9) (.load false 1) [.t 1] 8 true,
 oG (some 10) .move [.t 0] 8 true,
 oG (some 11) (.idxAddr 1) [.t 9,.t 10] 8 true,
 oG (some 12) (.load false 1) [.t 11] 8 true,
 oA 13 .pick [.t 8,.t 12,.c (.bool false)],
 oM 3 13] [3])
 (.ret)),
 [.tmp 3], none⟩

def f74 : Func := ⟨.seq (cR [oA 4 .move [.c (.bool false)]] [0,1])
 (.seq (cR [oM 5 1,
 oA 6 (.bin .geq) [.t 5,.c (.int .i64 (0))],
 oM 7 6,
 oG (some 8) .move [.t 1] 7 true,
 oG (some 9) .move [.t 0] 7 true,
 oG (some 10) .nilCheck [.t 9] 7 true,
 oG (some 11) (.fieldAddr 0) [.t 10] 7 true,
 oG (some 12) (.load false 1) [.t 11] 7 true,
 oG (some 13) .lenS [.t 12] 7 true,
 oG (some 14) (.bin .lss) [.t 8,.t 13] 7 true,
 oA 15 .pick [.t 7,.t 14,.c (.bool false)],
 oM 4 15] [4])
 (.ret)),
 [.tmp 4], none⟩

def f75 : Func := ⟨.seq (cR [oA 2 .move [.c (.slice none 0 0)]] [0])
 (.seq (.seq (cR [oM 3 0,
 oA 4 (.isNil .slice false) [.t 3]] [0,4])
 (.cond (.t 4) (.seq (cR [oA 2 .move [.c (.slice none 0 0)]] [2])
 (.ret))
 (.skip)))
 (.seq (cR [oA 5 (.buildSlice 90 2 0 [] []) [],
 oM 6 0,
 oA 7 (.append 90 2 16) [.t 5,.t 6],
 oM 2 7] [2])
 (.ret))),
 [.tmp 2], none⟩

def f76 : Func := ⟨.seq (cR [oA 2 .move [.c (.bool false)]] [0])
 (.seq (cR [oM 3 0,
 oA 4 .call [.c (.func (.func 51) #[] #[]),.t 3],
 oM 5 4,
 oG (some 6) .move [.t 0] 5 true,
 oG (some 7) .nilCheck [.t 6] 5 true,
 oG (some 8) (.fieldAddr 12) [.t 7] 5 true,
 oG (some 9) (.load false 1) [.t 8] 5 true,
 oA 10 .pick [.t 5,.t 9,.c (.bool false)],
 oM 2 10] [2])
 (.ret)),
 [.tmp 2], none⟩

def l77_0 : Code :=
 .seq (cR [oA 43 (.bin .lss) [.t 42,.t 41]] [0,1,3,4,8,40,41,42,43])
 (.seq (.cond (.t 43) (.skip)
 (.exit 0))
 (.seq (.block 1 (.seq (cR [oM 44 42,
 oA 45 (.idxAddr 1) [.t 40,.t 42],
 oA 46 (.load false 1) [.t 45],
 oM 9 44,
 oM 10 46] [0,1,3,4,8,9,10,40,41,42])
 (cR [oA 47 (.load false 1) [.t 4],
 oM 48 10,
 oA 49 (.fieldAddr 0) [.t 8],
 oA 50 (.load false 1) [.t 49],
 oA 51 (.fieldAddr 1) [.t 8],
 oA 52 (.load false 1) [.t 51],
 oM 53 9,
 oA 54 (.build [(.int .i64 (0)), (.int .i64 (0)), (.int .i64 (0))] [(0, 1), (1, 1), (2, 1)]) [.t 50,.t 52,.t 53],
 oA 55 (.fieldAddr 0) [.t 1],
 oA 56 (.load false 1) [.t 55],
 oA 57 (.bin .add) [.t 56,.c (.int .i64 (1))],
 oA 58 (.build [(.int .i64 (0)), (.int .i64 (0)), (.int .i64 (0)), (.int .i64 (0)), (.int .i64 (0))] [(0, 1), (1, 3), (4, 1)]) [.t 48,.t 54,.t 57],
 oA 59 (.buildSlice 70 5 1 [(.int .i64 (0)), (.int .i64 (0)), (.int .i64 (0)), (.int .i64 (0)), (.int .i64 (0))] [(0, 5)]) [.t 58],
 oA 60 (.append 70 5 40) [.t 47,.t 59],
 oN (.store 1) [.t 4,.t 60]] [0,1,3,4,8,40,41,42])))
 (cR [oA 61 (.bin .add) [.t 42,.c (.int .i64 (1))],
 oM 42 61] [0,1,3,4,8,40,41,42])))
def f77 : Func := ⟨.seq (cR [oA 5 .move [.c (.int .i64 (0))]] [0,1,2,3,4])
 (.seq (.seq (cR [oA 11 (.load false 1) [.t 0],
 oA 12 .lenS [.t 11],
 oA 13 (.bin .eql) [.t 12,.c (.int .i64 (0))]] [0,1,2,3,4,13])
 (.cond (.t 13) (.seq (cR [oA 5 .move [.c (.int .i64 (0))]] [5])
 (.ret))
 (.skip)))
 (.seq (cR [oA 15 (.load false 1) [.t 0],
 oA 16 (.fieldAddr 0) [.t 1],
 oA 17 (.load false 1) [.t 16],
 oA 18 (.bin .add) [.t 17,.c (.int .i64 (1))],
 oA 19 (.fieldAddr 3) [.t 1],
 oA 20 (.load false 1) [.t 19],
 oA 21 .call [.c (.func (.func 78) #[] #[]),.t 15,.t 18,.t 20],
 oM 14 21,
 oA 22 (.extract 0) [.t 14],
 oA 23 (.extract 1) [.t 14],
 oM 6 22,
 oM 7 23] [0,1,2,3,4,6,7])
 (.seq (.seq (cR [oM 24 7,
 oA 25 (.bin .neq) [.t 24,.c (.int .i64 (0))]] [0,1,2,3,4,6,7,25])
 (.cond (.t 25) (.seq (cR [oM 26 7,
 oM 5 26] [5])
 (.ret))
 (.skip)))
 (.seq (cR [oA 28 (.load false 1) [.t 2],
 oA 29 .nilCheck [.t 28],
 oA 30 (.fieldAddr 0) [.t 29],
 oA 31 (.load false 1) [.t 30],
 oA 32 .call [.c (.func (.func 25) #[] #[]),.t 31],
 oM 33 6,
 oA 34 .call [.c (.func (.func 79) #[] #[]),.t 32,.t 33],
 oM 27 34,
 oA 35 (.extract 0) [.t 27],
 oA 36 (.extract 1) [.t 27],
 oA 8 (.new 102 2 [(.int .i64 (0)), (.int .i64 (0))]) [],
 oN (.store 2) [.t 8,.t 35],
 oM 7 36] [0,1,3,4,7,8])
 (.seq (.seq (cR [oM 37 7,
 oA 38 (.bin .neq) [.t 37,.c (.int .i64 (0))]] [0,1,3,4,7,8,38])
 (.cond (.t 38) (.seq (cR [oM 39 7,
 oM 5 39] [5])
 (.ret))
 (.skip)))
 (.seq (.seq (cR [oA 40 (.load false 1) [.t 3],
 oA 41 .lenS [.t 40],
 oA 42 .move [.c (.int .i64 (0))]] [0,1,3,4,8,40,41,42])
 (.block 0 (.loop [0,1,3,4,8,40,41,42] l77_0)))
 (.seq (cR [oN (.store 1) [.t 3,.c (.slice none 0 0)],
 oN (.store 1) [.t 0,.c (.slice none 0 0)]] [])
 (.seq (cR [oA 5 .move [.c (.int .i64 (0))]] [5])
 (.ret))))))))),
 [.tmp 5], none⟩

def l78_0 : Code :=
 .seq (cR [oA 24 (.bin .lss) [.t 23,.t 22]] [0,1,2,21,22,23,24])
 (.seq (.cond (.t 24) (.skip)
 (.exit 0))
 (.seq (.block 1 (.seq (cR [oA 25 (.idxAddr 1) [.t 21,.t 23],
 oA 26 (.load false 1) [.t 25],
 oM 9 26] [0,1,2,9,21,22,23])
 (.seq (cR [oM 27 9,
 oA 28 .lenS [.t 27],
 oA 29 (.bin .neq) [.t 28,.c (.int .i64 (128))]] [0,1,2,21,22,23,29])
 (.cond (.t 29) (.seq (cR [oA 6 .move [.c (.slice none 0 0)],
 oA 7 .move [.c (.int .i64 (1))]] [6,7])
 (.ret))
 (.skip)))))
 (cR [oA 30 (.bin .add) [.t 23,.c (.int .i64 (1))],
 oM 23 30] [0,1,2,21,22,23])))
def f78 : Func := ⟨.seq (cR [oA 6 .move [.c (.slice none 0 0)],
 oA 7 .move [.c (.int .i64 (0))]] [0,1,2])
 (.seq (.seq (cR [oM 13 0,
 oA 14 .lenS [.t 13],
 oA 15 (.bin .lss) [.t 14,.c (.int .i64 (1))],
 oM 16 15,
 oG (some 17) .move [.t 0] 16 false,
 oG (some 18) .lenS [.t 17] 16 false,
 oG (some 19) (.bin .gtr) [.t 18,.c (.int .i64 (8))] 16 false,
 oA 20 .pick [.t 16,.c (.bool true),.t 19]] [0,1,2,20])
 (.cond (.t 20) (.seq (cR [oA 6 .move [.c (.slice none 0 0)],
 oA 7 .move [.c (.int .i64 (1))]] [6,7])
 (.ret))
 (.skip)))
 (.seq (.seq (cR [oM 21 0,
 oA 22 .lenS [.t 21],
 oA 23 .move [.c (.int .i64 (0))]] [0,1,2,21,22,23])
 (.block 0 (.loop [0,1,2,21,22,23] l78_0)))
 (.seq (cR [oM 32 0,
 oA 33 .call [.c (.func (.func 125) #[] #[]),.t 32,.c (.slice none 0 0)],
 oM 34 2,
 oA 35 .call [.c (.func (.func 124) #[] #[]),.t 33,.t 34],
 oM 31 35,
 oA 36 (.extract 0) [.t 31],
 oA 37 (.extract 1) [.t 31],
 oM 10 36,
 oM 11 37] [0,1,10,11])
 (.seq (cR [oA 38 (.build [(.slice none 0 0)] []) [],
 oA 39 (.box 218 1) [.t 38],
 oM 12 39] [0,1,10,11,12])
 (.seq (cR [oM 40 12,
 oM 41 0,
 oA 42 .lenS [.t 41],
 oA 43 .call [.c (.func (.func 126) #[] #[]),.t 40,.t 42]] [1,10,11,12])
 (.seq (cR [oM 44 12,
 oM 45 10,
 oA 46 .call [.c (.func (.func 126) #[] #[]),.t 44,.t 45]] [1,11,12])
 (.seq (cR [oM 47 12,
 oM 48 11,
 oA 49 .call [.c (.func (.func 127) #[] #[]),.t 47,.t 48]] [1,12])
 (.seq (cR [oM 50 1,
 oM 51 12,
 oA 52 .call [.c (.func (.func 129) #[] #[]),.t 51],
 oA 53 .call [.c (.func (.func 128) #[] #[]),.c (.int .u8 (231)),.t 50,.t 52],
 oA 54 (.extract 0) [.t 53],
 oA 55 (.extract 1) [.t 53],
 oM 6 54,
 oM 7 55] [6,7])
 (.ret))))))))),
 [.tmp 6, .tmp 7], none⟩
end Go.Proofs.YtlelihddjacplaaGreat.AM
namespace Go.Proofs.YtlelihddjacplaaGreat.AM
def l79_0 : Code :=
 .seq (cR [oA 53 (.bin .lss) [.t 52,.t 51]] [0,1,4,7,9,51,52,53])
 (.seq (.cond (.t 53) (.skip)
 (.exit 0))
 (.seq (.block 1 (.seq (cR [oM 54 52,
 oM 10 54] [0,1,4,7,9,10,51,52])
 (.seq (cD [⟨[oM 55 0,
 oA 56 .nilCheck [.t 55],
 oA 57 (.fieldAddr 0) [.t 56],
 oA 58 (.load false 1) [.t 57],
 oM 59 7,
 oM 60 10,
 oA 61 (.bin .add) [.t 59,.t 60],
 oM 62 1,
 oM 63 10,
 oA 64 (.bin .mul) [.t 63,.c (.int .i64 (64))],
 oM 65 10,
 oA 66 (.bin .add) [.t 65,.c (.int .i64 (1))],
 oA 67 (.bin .mul) [.t 66,.c (.int .i64 (64))],
 oA 68 (.slice 1 true true false) [.t 62,.t 64,.t 67]],some (oA 69 .call [.c (.func (.func 63) #[] #[]),.t 58,.t 61,.t 68]),[],[]⟩,
 ⟨[oM 11 69],none,[],[]⟩] [55,56,57,58,59,60,61,62,63,64,65,66,67,68,69,11] [0,1,4,7,9,11,51,52])
 (.seq (cR [oM 70 11,
 oA 71 (.bin .neq) [.t 70,.c (.int .i64 (0))]] [0,1,4,7,9,11,51,52,71])
 (.cond (.t 71) (.seq (cR [oA 72 (.build [(.int .i64 (0)), (.int .i64 (0))] []) [],
 oM 73 11,
 oN (.store 2) [.t 4,.t 72],
 oM 5 73] [4,5])
 (.ret))
 (.skip))))))
 (cR [oA 74 (.bin .add) [.t 52,.c (.int .i64 (1))],
 oM 52 74] [0,1,4,7,9,51,52])))
def f79 : Func := ⟨.seq (cR [oA 4 (.new 102 2 [(.int .i64 (0)), (.int .i64 (0))]) [],
 oA 5 .move [.c (.int .i64 (0))]] [0,1,4])
 (.seq (.seq (cR [oM 12 0,
 oA 13 .call [.c (.func (.func 101) #[] #[]),.t 12],
 oA 14 (.un .not) [.t 13],
 oM 15 14,
 oG (some 16) .move [.t 1] 15 false,
 oG (some 17) .lenS [.t 16] 15 false,
 oG (some 18) (.bin .eql) [.t 17,.c (.int .i64 (0))] 15 false,
 oA 19 .pick [.t 15,.c (.bool true),.t 18],
 oM 20 19,
 oG (some 21) .move [.t 1] 20 false,
 oG (some 22) .lenS [.t 21] 20 false,
 oG (some 23) (.bin .rem) [.t 22,.c (.int .i64 (64))] 20 false,
 oG (some 24) (.bin .neq) [.t 23,.c (.int .i64 (0))] 20 false,
 oA 25 .pick [.t 20,.c (.bool true),.t 24]] [0,1,4,25])
 (.cond (.t 25) (.seq (cR [oA 26 (.build [(.int .i64 (0)), (.int .i64 (0))] []) [],
 oN (.store 2) [.t 4,.t 26],
 oA 5 .move [.c (.int .i64 (1))]] [4,5])
 (.ret))
 (.skip)))
 (.seq (cR [oM 27 1,
 oA 28 .lenS [.t 27],
 oA 29 (.bin .quo) [.t 28,.c (.int .i64 (64))],
 oM 6 29] [0,1,4,6])
 (.seq (cR [oM 31 0,
 oA 32 .nilCheck [.t 31],
 oA 33 (.fieldAddr 2) [.t 32],
 oA 34 (.load false 1) [.t 33],
 oM 35 6,
 oA 36 .call [.c (.func (.func 130) #[] #[]),.t 34,.t 35],
 oM 30 36,
 oA 37 (.extract 0) [.t 30],
 oA 38 (.extract 1) [.t 30],
 oM 7 37,
 oM 8 38] [0,1,4,6,7,8])
 (.seq (.seq (cR [oM 39 8,
 oA 40 (.un .not) [.t 39]] [0,1,4,6,7,40])
 (.cond (.t 40) (.seq (cR [oA 41 (.build [(.int .i64 (0)), (.int .i64 (0))] []) [],
 oN (.store 2) [.t 4,.t 41],
 oA 5 .move [.c (.int .i64 (7))]] [4,5])
 (.ret))
 (.skip)))
 (.seq (cR [oM 42 7,
 oM 43 6,
 oA 44 (.build [(.int .i64 (0)), (.int .i64 (0))] [(0, 1), (1, 1)]) [.t 42,.t 43],
 oA 9 (.new 102 2 [(.int .i64 (0)), (.int .i64 (0))]) [],
 oN (.store 2) [.t 9,.t 44]] [0,1,4,6,7,9])
 (.seq (cD [⟨[oM 45 0,
 oA 46 .nilCheck [.t 45],
 oA 47 (.fieldAddr 1) [.t 46],
 oA 48 (.load false 1) [.t 47],
 oA 49 (.load true 2) [.t 9]],some (oA 50 .call [.c (.func (.func 131) #[] #[]),.t 48,.t 49]),[],[]⟩] [45,46,47,48,49,50] [0,1,4,6,7,9])
 (.seq (.seq (cR [oM 51 6,
 oA 52 .move [.c (.int .i64 (0))]] [0,1,4,7,9,51,52])
 (.block 0 (.loop [0,1,4,7,9,51,52] l79_0)))
 (.seq (cR [oA 75 (.load true 2) [.t 9],
 oN (.store 2) [.t 4,.t 75],
 oA 5 .move [.c (.int .i64 (0))]] [4,5])
 (.ret))))))))),
 [.cell 4 true 2, .tmp 5], none⟩

def l80_0 : Code :=
 .seq (cR [oA 17 (.bin .lss) [.t 16,.t 15]] [0,3,14,15,16,17])
 (.seq (.cond (.t 17) (.skip)
 (.exit 0))
 (.seq (.block 1 (.seq (cR [oA 18 (.idxAddr 1) [.t 14,.t 16],
 oA 19 (.load false 1) [.t 18],
 oM 5 19] [0,3,5,14,15,16])
 (cR [oM 20 3,
 oM 21 5,
 oM 22 0,
 oA 23 .nilCheck [.t 22],
 oA 24 (.fieldAddr 1) [.t 23],
 oA 25 (.load false 1) [.t 24],
 oM 26 5,
 oA 27 (.lookup none (.slice none 0 0) false) [.t 25,.t 26],
 oA 28 .call [.c (.func (.func 50) #[] #[]),.t 27],
 oA 29 (.build [(.int .i64 (0)), (.slice none 0 0)] [(0, 1), (1, 1)]) [.t 21,.t 28],
 oA 30 (.buildSlice 156 2 1 [(.int .i64 (0)), (.slice none 0 0)] [(0, 2)]) [.t 29],
 oA 31 (.append 156 2 32) [.t 20,.t 30],
 oM 3 31] [0,3,14,15,16])))
 (cR [oA 32 (.bin .add) [.t 16,.c (.int .i64 (1))],
 oM 16 32] [0,3,14,15,16])))
def f80 : Func := ⟨.seq (cR [oA 2 .move [.c (.slice none 0 0)]] [0])
 (.seq (.seq (cR [oM 6 0,
 oA 7 .call [.c (.func (.func 49) #[] #[]),.t 6],
 oA 8 (.un .not) [.t 7]] [0,8])
 (.cond (.t 8) (.seq (cR [oA 2 .move [.c (.slice none 0 0)]] [2])
 (.ret))
 (.skip)))
 (.seq (cR [oA 3 .move [.c (.slice none 0 0)]] [0,3])
 (.seq (.seq (cR [oM 9 0,
 oA 10 .nilCheck [.t 9],
 oA 11 (.fieldAddr 1) [.t 10],
 oA 12 (.load false 1) [.t 11],
 oA 13 .call [.c (.func (.func 133) #[] #[]),.t 12],
 oA 14 .call [.c (.func (.func 132) #[] #[]),.t 13],
 oA 15 .lenS [.t 14],
 oA 16 .move [.c (.int .i64 (0))]] [0,3,14,15,16])
 (.block 0 (.loop [0,3,14,15,16] l80_0)))
 (.seq (cR [oM 33 3,
 oM 2 33] [2])
 (.ret))))),
 [.tmp 2], none⟩

def l81_0 : Code :=
 .seq (cR [oA 13 (.bin .lss) [.t 12,.t 11]] [0,10,11,12,13])
 (.seq (.cond (.t 13) (.skip)
 (.exit 0))
 (.seq (.block 1 (.seq (cR [oA 14 (.idxAddr 2) [.t 10,.t 12],
 oA 15 (.load true 2) [.t 14],
 oA 3 (.new 102 2 [(.int .i64 (0)), (.int .i64 (0))]) [],
 oN (.store 2) [.t 3,.t 15]] [0,3,10,11,12])
 (cD [⟨[oM 16 0,
 oA 17 .nilCheck [.t 16],
 oA 18 (.fieldAddr 0) [.t 17],
 oA 19 (.load false 1) [.t 18],
 oA 20 (.fieldAddr 0) [.t 3],
 oA 21 (.load false 1) [.t 20],
 oA 22 (.fieldAddr 1) [.t 3],
 oA 23 (.load false 1) [.t 22]],some (oA 24 .call [.c (.func (.func 135) #[] #[]),.t 19,.t 21,.t 23]),[],[]⟩] [16,17,18,19,20,21,22,23,24] [0,10,11,12])))
 (cR [oA 25 (.bin .add) [.t 12,.c (.int .i64 (1))],
 oM 12 25] [0,10,11,12])))
def f81 : Func := ⟨.seq (.seq (cR [oM 4 0,
 oA 5 .call [.c (.func (.func 134) #[] #[]),.t 4],
 oA 6 (.un .not) [.t 5]] [0,6])
 (.cond (.t 6) (.ret)
 (.skip)))
 (.seq (.seq (cR [oM 7 0,
 oA 8 .nilCheck [.t 7],
 oA 9 (.fieldAddr 4) [.t 8],
 oA 10 (.load false 1) [.t 9],
 oA 11 .lenS [.t 10],
 oA 12 .move [.c (.int .i64 (0))]] [0,10,11,12])
 (.block 0 (.loop [0,10,11,12] l81_0)))
 (cR [oM 26 0,
 oM 27 0,
 oM 28 0,
 oM 29 0,
 oA 30 .nilCheck [.t 29],
 oA 31 (.fieldAddr 3) [.t 30],
 oA 32 (.load false 1) [.t 31],
 oA 33 .call [.c (.func (.func 136) #[] #[]),.t 32],
 oA 34 .newMap [],
 oA 35 .nilCheck [.t 26],
 oA 36 (.fieldAddr 1) [.t 35],
 oN (.store 1) [.t 36,.t 33],
 oA 37 .nilCheck [.t 27],
 oA 38 (.fieldAddr 2) [.t 37],
 oN (.store 1) [.t 38,.t 34],
 oA 39 .nilCheck [.t 28],
 oA 40 (.fieldAddr 4) [.t 39],
 oN (.store 1) [.t 40,.c (.slice none 0 0)]] [])),
 [], none⟩

def f82 : Func := ⟨.seq (cR [oM 4 0,
 oA 5 .call [.c (.func (.func 101) #[] #[]),.t 4]] [0,1,5])
 (.cond (.t 5) (cR [oM 6 0,
 oM 7 1,
 oA 8 .nilCheck [.t 6],
 oA 9 (.fieldAddr 3) [.t 8],
 oN (.store 1) [.t 9,.t 7]] [])
 (.skip)),
 [], none⟩

def f83 : Func := ⟨.seq (cR [oA 4 .move [.c (.int .i64 (0))]] [0,1,2,3])
 (.seq (cD [⟨[oA 6 (.load false 1) [.t 0],
 oA 7 .nilCheck [.t 6],
 oA 8 (.fieldAddr 11) [.t 7],
 oA 9 (.load false 1) [.t 8],
 oA 10 (.iface 76) [.t 9],
 oA 11 (.fieldAddr 4) [.t 1],
 oA 12 (.load true 4) [.t 11],
 oA 13 (.load false 1) [.t 2],
 oA 14 (.load false 1) [.t 3]],some (oA 15 .call [.c (.func (.func 84) #[] #[]),.t 10,.t 12,.t 13,.t 14]),[],[]⟩,
 ⟨[oM 5 15,
 oA 16 (.extract 0) [.t 5],
 oA 17 (.extract 1) [.t 5],
 oA 18 (.fieldAddr 4) [.t 1]],some (oN (.store 4) [.t 18,.t 16]),[],[]⟩,
 ⟨[oM 4 17],none,[],[]⟩] [6,7,8,9,10,11,12,13,14,15,5,16,17,18,4] [4])
 (.seq (cR [oM 19 4,
 oM 4 19] [4])
 (.ret))),
 [.tmp 4], none⟩

def f84 : Func := ⟨.seq (cR [oA 4 (.box 180 1) [.t 0],
 oA 5 (.box 113 4) [.t 1],
 oA 6 (.box 92 1) [.t 2],
 oA 7 (.box 94 1) [.t 3],
 oA 8 (.new 113 4 [(.int .i64 (0)), (.int .i64 (0)), (.int .i64 (0)), (.int .i64 (0))]) [],
 oA 9 .move [.c (.int .i64 (0))]] [4,5,6,7,8])
 (.seq (cR [oA 10 .move [.c (.func (.func 137) #[] #[])]] [4,5,6,7,8,10])
 (.seq (.seq (cR [oA 13 (.load false 1) [.t 4],
 oA 14 (.isNil .iface false) [.t 13],
 oM 15 14,
 oG (some 16) (.load false 1) [.t 7] 15 false,
 oG (some 17) .move [.t 10] 15 false,
 oG (some 18) .call [.c (.func (.func 139) #[] #[]),.t 16,.t 17] 15 false,
 oA 19 .pick [.t 15,.c (.bool true),.t 18],
 oM 20 19,
 oG (some 21) (.load false 1) [.t 6] 20 false,
 oG (some 22) .call [.c (.func (.func 140) #[] #[]),.t 21,.c (.func (.func 141) #[] #[])] 20 false,
 oA 23 .pick [.t 20,.c (.bool true),.t 22]] [4,5,6,7,8,23])
 (.cond (.t 23) (.seq (cR [oA 24 (.build [(.int .i64 (0)), (.int .i64 (0)), (.int .i64 (0)), (.int .i64 (0))] []) [],
 oN (.store 4) [.t 8,.t 24],
 oA 9 .move [.c (.int .i64 (1))]] [8,9])
 (.ret))
 (.skip)))
 (.seq (cR [oA 25 (.load true 4) [.t 5],
 oA 11 (.new 113 4 [(.int .i64 (0)), (.int .i64 (0)), (.int .i64 (0)), (.int .i64 (0))]) [],
 oN (.store 4) [.t 11,.t 25]] [4,5,6,7,8,11])
 (.seq (cR [oA 26 (.func 143 0) [.t 4,.t 5,.t 6,.t 7,.t 11],
 oA 27 .call [.c (.func (.func 142) #[] #[]),.t 26],
 oM 12 27] [8,11,12])
 (.seq (.seq (cR [oM 28 12,
 oA 29 (.bin .neq) [.t 28,.c (.int .i64 (0))]] [8,11,12,29])
 (.cond (.t 29) (.seq (cR [oA 30 (.build [(.int .i64 (0)), (.int .i64 (0)), (.int .i64 (0)), (.int .i64 (0))] []) [],
 oM 31 12,
 oN (.store 4) [.t 8,.t 30],
 oM 9 31] [8,9])
 (.ret))
 (.skip)))
 (.seq (cR [oA 32 (.load true 4) [.t 11],
 oN (.store 4) [.t 8,.t 32],
 oA 9 .move [.c (.int .i64 (0))]] [8,9])
 (.ret))))))),
 [.cell 8 true 4, .tmp 9], none⟩

def f85 : Func := ⟨.seq (cR [oA 3 .move [.c (.int .i64 (0))]] [0,1,2])
 (.seq (cD [⟨[oA 5 (.load false 1) [.t 0],
 oA 6 .nilCheck [.t 5],
 oA 7 (.fieldAddr 11) [.t 6],
 oA 8 (.load false 1) [.t 7],
 oA 9 (.fieldAddr 4) [.t 1],
 oA 10 (.load true 4) [.t 9]],some (oA 11 .call [.c (.func (.func 86) #[] #[]),.t 8,.t 10]),[],[]⟩,
 ⟨[oM 4 11,
 oA 12 (.extract 0) [.t 4],
 oA 13 (.extract 1) [.t 4]],some (oN (.store 1) [.t 2,.t 12]),[],[]⟩,
 ⟨[oM 3 13],none,[],[]⟩] [5,6,7,8,9,10,11,4,12,13,3] [3])
 (.seq (cR [oM 14 3,
 oM 3 14] [3])
 (.ret))),
 [.tmp 3], none⟩

def l86_0 : Code :=
 .seq (cR [oA 34 (.bin .lss) [.t 33,.t 32]] [0,3,6,31,32,33,34])
 (.seq (.cond (.t 34) (.skip)
 (.exit 0))
 (.seq (.block 1 (.seq (cR [oA 35 (.idxAddr 3) [.t 31,.t 33],
 oA 36 (.load true 3) [.t 35],
 oA 10 (.new 111 3 [(.int .i64 (0)), (.int .i64 (0)), (.int .i64 (0))]) [],
 oN (.store 3) [.t 10,.t 36]] [0,3,6,10,31,32,33])
 (cR [oM 37 6,
 oA 38 (.fieldAddr 0) [.t 10],
 oA 39 (.load false 1) [.t 38],
 oA 40 (.fieldAddr 1) [.t 10],
 oA 41 (.load false 1) [.t 40],
 oA 42 (.build [(.int .i64 (0)), (.int .i64 (0))] [(0, 1), (1, 1)]) [.t 39,.t 41],
 oA 43 (.fieldAddr 2) [.t 10],
 oA 44 (.load false 1) [.t 43],
 oA 45 (.build [(.int .i64 (0)), (.int .i64 (0)), (.int .i64 (0)), (.bool false), (.slice none 0 0)] [(0, 2), (2, 1), (3, 1)]) [.t 42,.t 44,.c (.bool true)],
 oA 46 (.buildSlice 104 5 1 [(.int .i64 (0)), (.int .i64 (0)), (.int .i64 (0)), (.bool false), (.slice none 0 0)] [(0, 5)]) [.t 45],
 oA 47 (.append 104 5 56) [.t 37,.t 46],
 oM 6 47] [0,3,6,31,32,33])))
 (cR [oA 48 (.bin .add) [.t 33,.c (.int .i64 (1))],
 oM 33 48] [0,3,6,31,32,33])))
def l86_1 : Code :=
 .seq (cR [oA 63 (.bin .lss) [.t 62,.t 61]] [6,12,60,61,62,63])
 (.seq (.cond (.t 63) (.skip)
 (.exit 2))
 (.seq (.block 3 (.seq (cR [oA 64 (.idxAddr 5) [.t 60,.t 62],
 oA 65 (.load true 5) [.t 64],
 oA 14 (.new 70 5 [(.int .i64 (0)), (.int .i64 (0)), (.int .i64 (0)), (.int .i64 (0)), (.int .i64 (0))]) [],
 oN (.store 5) [.t 14,.t 65]] [6,12,14,60,61,62])
 (.seq (cR [oA 66 (.fieldAddr 1) [.t 14],
 oA 67 (.fieldAddr 0) [.t 66],
 oA 68 (.load false 1) [.t 67],
 oA 69 (.fieldAddr 1) [.t 14],
 oA 70 (.fieldAddr 1) [.t 69],
 oA 71 (.load false 1) [.t 70],
 oA 72 (.fieldAddr 4) [.t 14],
 oA 73 (.load false 1) [.t 72],
 oA 74 (.build [(.int .i64 (0)), (.int .i64 (0)), (.int .i64 (0))] [(0, 1), (1, 1), (2, 1)]) [.t 68,.t 71,.t 73],
 oA 15 (.new 111 3 [(.int .i64 (0)), (.int .i64 (0)), (.int .i64 (0))]) [],
 oN (.store 3) [.t 15,.t 74]] [6,12,14,15,60,61,62])
 (.seq (.seq (cR [oM 75 12,
 oA 76 (.load true 3) [.t 15],
 oA 77 (.lookup (some 3) (.int .i64 (0)) false) [.t 75,.t 76],
 oA 78 (.bin .eql) [.t 77,.c (.int .i64 (0))]] [6,12,14,15,60,61,62,78])
 (.cond (.t 78) (.seq (cR [oM 79 6,
 oA 80 (.fieldAddr 0) [.t 15],
 oA 81 (.load false 1) [.t 80],
 oA 82 (.fieldAddr 1) [.t 15],
 oA 83 (.load false 1) [.t 82],
 oA 84 (.build [(.int .i64 (0)), (.int .i64 (0))] [(0, 1), (1, 1)]) [.t 81,.t 83],
 oA 85 (.fieldAddr 2) [.t 15],
 oA 86 (.load false 1) [.t 85],
 oA 87 (.build [(.int .i64 (0)), (.int .i64 (0)), (.int .i64 (0)), (.bool false), (.slice none 0 0)] [(0, 2), (2, 1)]) [.t 84,.t 86],
 oA 88 (.buildSlice 104 5 1 [(.int .i64 (0)), (.int .i64 (0)), (.int .i64 (0)), (.bool false), (.slice none 0 0)] [(0, 5)]) [.t 87],
 oA 89 (.append 104 5 56) [.t 79,.t 88],
 oM 6 89] [6,12,14,15,60,61,62])
 (cR [oM 90 12,
 oA 91 (.load true 3) [.t 15],
 oM 92 6,
 oA 93 .lenS [.t 92],
 oN (.mapSet (some 3)) [.t 90,.t 91,.t 93]] [6,12,14,15,60,61,62]))
 (.skip)))
 (.seq (cR [oM 94 6,
 oM 95 12,
 oA 96 (.load true 3) [.t 15],
 oA 97 (.lookup (some 3) (.int .i64 (0)) false) [.t 95,.t 96],
 oA 98 (.bin .sub) [.t 97,.c (.int .i64 (1))],
 oA 99 (.idxAddr 5) [.t 94,.t 98],
 oM 16 99] [6,12,14,16,60,61,62])
 (cD [⟨[oM 100 16,
 oM 101 16,
 oA 102 .nilCheck [.t 101],
 oA 103 (.fieldAddr 4) [.t 102],
 oA 104 (.load false 1) [.t 103],
 oA 105 (.fieldAddr 0) [.t 14],
 oA 106 (.load false 1) [.t 105]],some (oA 107 (.buildSlice 3 1 1 [(.int .i64 (0))] [(0, 1)]) [.t 106]),[104],[]⟩,
 ⟨[],some (oA 108 (.append 3 1 8) [.t 104,.t 107]),[],[]⟩,
 ⟨[oA 109 .nilCheck [.t 100],
 oA 110 (.fieldAddr 4) [.t 109]],some (oN (.store 1) [.t 110,.t 108]),[],[]⟩] [100,101,102,103,104,105,106,107,108,109,110] [6,12,60,61,62]))))))
 (cR [oA 111 (.bin .add) [.t 62,.c (.int .i64 (1))],
 oM 62 111] [6,12,60,61,62])))
def l86_2 : Code :=
 .seq (.seq (cR [oM 114 17,
 oM 115 6,
 oA 116 .lenS [.t 115],
 oA 117 (.bin .lss) [.t 114,.t 116]] [6,17,117])
 (.cond (.t 117) (.skip)
 (.exit 4)))
 (.seq (.block 5 (.seq (cR [oM 120 6,
 oM 121 17,
 oA 122 (.bin .sub) [.t 121,.c (.int .i64 (1))],
 oA 123 (.idxAddr 5) [.t 120,.t 122],
 oA 124 (.fieldAddr 0) [.t 123],
 oA 125 (.load true 2) [.t 124],
 oA 18 (.new 102 2 [(.int .i64 (0)), (.int .i64 (0))]) [],
 oN (.store 2) [.t 18,.t 125]] [6,17,18])
 (.seq (cD [⟨[oA 126 (.fieldAddr 0) [.t 18],
 oA 127 (.load false 1) [.t 126],
 oA 128 (.fieldAddr 1) [.t 18],
 oA 129 (.load false 1) [.t 128],
 oA 130 (.bin .add) [.t 127,.t 129],
 oM 131 6,
 oM 132 17,
 oA 133 (.idxAddr 5) [.t 131,.t 132],
 oA 134 (.fieldAddr 0) [.t 133],
 oA 135 (.fieldAddr 0) [.t 134],
 oA 136 (.load false 1) [.t 135],
 oA 137 (.bin .gtr) [.t 130,.t 136]],none,[],[]⟩] [126,127,128,129,130,131,132,133,134,135,136,137] [6,17,137])
 (.cond (.t 137) (.seq (cR [oA 4 .move [.c (.slice none 0 0)],
 oA 5 .move [.c (.int .i64 (4))]] [4,5])
 (.ret))
 (.skip)))))
 (cR [oM 118 17,
 oA 119 (.bin .add) [.t 118,.c (.int .i64 (1))],
 oM 17 119] [6,17]))
def f86 : Func := ⟨.seq (cR [oA 3 (.box 113 4) [.t 1],
 oA 4 .move [.c (.slice none 0 0)],
 oA 5 .move [.c (.int .i64 (0))]] [0,3])
 (.seq (.seq (cR [oM 19 0,
 oA 20 (.isNil .ptr false) [.t 19]] [0,3,20])
 (.cond (.t 20) (.seq (cR [oA 4 .move [.c (.slice none 0 0)],
 oA 5 .move [.c (.int .i64 (1))]] [4,5])
 (.ret))
 (.skip)))
 (.seq (cR [oA 6 .move [.c (.slice none 0 0)]] [0,3,6])
 (.seq (cR [oM 22 0,
 oA 23 (.iface 76) [.t 22],
 oA 24 (.load true 4) [.t 3],
 oA 25 .call [.c (.func (.func 150) #[] #[]),.t 23,.t 24],
 oM 21 25,
 oA 26 (.extract 0) [.t 21],
 oA 27 (.extract 1) [.t 21],
 oM 7 26,
 oM 8 27] [0,3,6,7,8])
 (.seq (.seq (cR [oM 28 8,
 oA 29 (.bin .neq) [.t 28,.c (.int .i64 (0))]] [0,3,6,7,8,29])
 (.cond (.t 29) (.seq (cR [oM 30 8,
 oA 4 .move [.c (.slice none 0 0)],
 oM 5 30] [4,5])
 (.ret))
 (.skip)))
 (.seq (.seq (cR [oM 31 7,
 oA 32 .lenS [.t 31],
 oA 33 .move [.c (.int .i64 (0))]] [0,3,6,31,32,33])
 (.block 0 (.loop [0,3,6,31,32,33] l86_0)))
 (.seq (cR [oM 50 0,
 oA 51 (.iface 76) [.t 50],
 oA 52 (.load true 4) [.t 3],
 oA 53 .call [.c (.func (.func 151) #[] #[]),.t 51,.t 52],
 oM 49 53,
 oA 54 (.extract 0) [.t 49],
 oA 55 (.extract 1) [.t 49],
 oM 11 54,
 oM 8 55] [6,8,11])
 (.seq (.seq (cR [oM 56 8,
 oA 57 (.bin .neq) [.t 56,.c (.int .i64 (0))]] [6,8,11,57])
 (.cond (.t 57) (.seq (cR [oM 58 8,
 oA 4 .move [.c (.slice none 0 0)],
 oM 5 58] [4,5])
 (.ret))
 (.skip)))
 (.seq (cR [oA 59 .newMap [],
 oM 12 59] [6,11,12])
 (.seq (.seq (cR [oM 60 11,
 oA 61 .lenS [.t 60],
 oA 62 .move [.c (.int .i64 (0))]] [6,12,60,61,62])
 (.block 2 (.loop [6,12,60,61,62] l86_1)))
 (.seq (cR [oM 112 6,
 oA 113 .call [.c (.func (.func 152) #[] #[]),.t 112,.c (.func (.func 153) #[] #[])]] [6])
 (.seq (.seq (cR [oA 17 .move [.c (.int .i64 (1))]] [6,17])
 (.block 4 (.loop [6,17] l86_2)))
 (.seq (cR [oM 138 6,
 oM 4 138,
 oA 5 .move [.c (.int .i64 (0))]] [4,5])
 (.ret))))))))))))),
 [.tmp 4, .tmp 5], none⟩

def f87 : Func := ⟨.seq (cR [oA 2 .move [.c (.int .i64 (0))]] [0,1])
 (.seq (cD [⟨[oA 3 (.load false 1) [.t 0],
 oA 4 .nilCheck [.t 3],
 oA 5 (.fieldAddr 0) [.t 4],
 oA 6 (.load false 1) [.t 5],
 oA 7 (.load true 8) [.t 1]],some (oA 8 .call [.c (.func (.func 69) #[] #[]),.t 6,.t 7]),[],[]⟩,
 ⟨[oM 2 8],none,[],[]⟩] [3,4,5,6,7,8,2] [2])
 (.ret)),
 [.tmp 2], none⟩

def l88_0 : Code :=
 .seq (cR [oA 14 (.bin .lss) [.t 13,.t 12]] [0,4,11,12,13,14])
 (.seq (.cond (.t 14) (.skip)
 (.exit 0))
 (.seq (.block 1 (.seq (cR [oA 15 (.idxAddr 5) [.t 11,.t 13],
 oA 16 (.load true 5) [.t 15],
 oA 6 (.new 104 5 [(.int .i64 (0)), (.int .i64 (0)), (.int .i64 (0)), (.bool false), (.slice none 0 0)]) [],
 oN (.store 5) [.t 6,.t 16]] [0,4,6,11,12,13])
 (cR [oM 17 4,
 oA 18 (.fieldAddr 0) [.t 6],
 oA 19 (.fieldAddr 0) [.t 18],
 oA 20 (.load false 1) [.t 19],
 oA 21 (.fieldAddr 4) [.t 6],
 oA 22 (.load false 1) [.t 21],
 oA 23 .lenS [.t 22],
 oA 24 .max [.t 23,.c (.int .i64 (1))],
 oN (.mapSet none) [.t 17,.t 20,.t 24]] [0,4,11,12,13])))
 (cR [oA 25 (.bin .add) [.t 13,.c (.int .i64 (1))],
 oM 13 25] [0,4,11,12,13])))
def l88_1 : Code :=
 .seq (.seq (cD [⟨[oM 40 0,
 oA 41 .nilCheck [.t 40],
 oA 42 (.fieldAddr 10) [.t 41],
 oA 43 (.load false 1) [.t 42],
 oA 44 (.fieldAddr 0) [.t 8],
 oA 45 (.load false 1) [.t 44],
 oM 47 9],some (oA 46 .call [.c (.func (.func 156) #[] #[]),.t 43,.t 45]),[],[]⟩,
 ⟨[oA 48 (.bin .lss) [.t 46,.t 47]],none,[],[]⟩] [40,41,42,43,44,45,46,47,48] [0,4,8,9,30,31,32,48])
 (.cond (.t 48) (.skip)
 (.exit 4)))
 (.block 5 (cD [⟨[oM 49 0,
 oA 50 .nilCheck [.t 49],
 oA 51 (.fieldAddr 10) [.t 50],
 oA 52 (.load false 1) [.t 51],
 oA 53 (.fieldAddr 0) [.t 8],
 oA 54 (.load false 1) [.t 53]],some (oA 55 .call [.c (.func (.func 157) #[] #[]),.t 52,.t 54]),[],[]⟩] [49,50,51,52,53,54,55] [0,4,8,9,30,31,32]))
def l88_2 : Code :=
 .seq (.seq (cD [⟨[oM 56 0,
 oA 57 .nilCheck [.t 56],
 oA 58 (.fieldAddr 10) [.t 57],
 oA 59 (.load false 1) [.t 58],
 oA 60 (.fieldAddr 0) [.t 8],
 oA 61 (.load false 1) [.t 60],
 oM 63 9],some (oA 62 .call [.c (.func (.func 156) #[] #[]),.t 59,.t 61]),[],[]⟩,
 ⟨[oA 64 (.bin .gtr) [.t 62,.t 63]],none,[],[]⟩] [56,57,58,59,60,61,62,63,64] [0,4,8,9,30,31,32,64])
 (.cond (.t 64) (.skip)
 (.exit 6)))
 (.block 7 (cD [⟨[oM 65 0,
 oA 66 .nilCheck [.t 65],
 oA 67 (.fieldAddr 10) [.t 66],
 oA 68 (.load false 1) [.t 67],
 oA 69 (.fieldAddr 0) [.t 8],
 oA 70 (.load false 1) [.t 69]],some (oA 71 .call [.c (.func (.func 158) #[] #[]),.t 68,.t 70]),[],[]⟩] [65,66,67,68,69,70,71] [0,4,8,9,30,31,32]))
def l88_3 : Code :=
 .seq (cR [oA 33 (.bin .lss) [.t 32,.t 31]] [0,4,30,31,32,33])
 (.seq (.cond (.t 33) (.skip)
 (.exit 2))
 (.seq (.block 3 (.seq (cR [oA 34 (.idxAddr 2) [.t 30,.t 32],
 oA 35 (.load true 2) [.t 34],
 oA 8 (.new 102 2 [(.int .i64 (0)), (.int .i64 (0))]) [],
 oN (.store 2) [.t 8,.t 35]] [0,4,8,30,31,32])
 (.seq (cR [oM 36 4,
 oA 37 (.fieldAddr 0) [.t 8],
 oA 38 (.load false 1) [.t 37],
 oA 39 (.lookup none (.int .i64 (0)) false) [.t 36,.t 38],
 oM 9 39] [0,4,8,9,30,31,32])
 (.seq (.block 4 (.loop [0,4,8,9,30,31,32] l88_1))
 (.block 6 (.loop [0,4,8,9,30,31,32] l88_2))))))
 (cR [oA 72 (.bin .add) [.t 32,.c (.int .i64 (1))],
 oM 32 72] [0,4,30,31,32])))
def f88 : Func := ⟨.seq (cR [oA 10 .newMap [],
 oM 4 10] [0,1,4])
 (.seq (.seq (cR [oM 11 1,
 oA 12 .lenS [.t 11],
 oA 13 .move [.c (.int .i64 (0))]] [0,4,11,12,13])
 (.block 0 (.loop [0,4,11,12,13] l88_0)))
 (.seq (cR [oM 26 0,
 oA 27 .nilCheck [.t 26],
 oA 28 (.fieldAddr 10) [.t 27],
 oA 29 (.load false 1) [.t 28],
 oA 30 .call [.c (.func (.func 155) #[] #[]),.t 29],
 oA 31 .lenS [.t 30],
 oA 32 .move [.c (.int .i64 (0))]] [0,4,30,31,32])
 (.block 2 (.loop [0,4,30,31,32] l88_3)))),
 [], none⟩

def l89_0 : Code :=
 .seq (cR [oA 10 (.bin .lss) [.t 9,.t 8]] [0,3,7,8,9,10])
 (.seq (.cond (.t 10) (.skip)
 (.exit 0))
 (.seq (.block 1 (.seq (cR [oA 11 (.idxAddr 2) [.t 7,.t 9],
 oA 12 (.load true 2) [.t 11],
 oA 5 (.new 102 2 [(.int .i64 (0)), (.int .i64 (0))]) [],
 oN (.store 2) [.t 5,.t 12]] [0,3,5,7,8,9])
 (.seq (cD [⟨[oM 13 0,
 oA 14 .nilCheck [.t 13],
 oA 15 (.fieldAddr 0) [.t 14],
 oA 16 (.load false 1) [.t 15],
 oA 17 (.fieldAddr 0) [.t 5],
 oA 18 (.load false 1) [.t 17],
 oA 19 (.fieldAddr 1) [.t 5],
 oA 20 (.load false 1) [.t 19]],some (oA 21 .call [.c (.func (.func 135) #[] #[]),.t 16,.t 18,.t 20]),[],[]⟩] [13,14,15,16,17,18,19,20,21] [0,3,5,7,8,9])
 (cR [oM 22 3,
 oA 23 (.fieldAddr 1) [.t 5],
 oA 24 (.load false 1) [.t 23],
 oA 25 (.bin .add) [.t 22,.t 24],
 oM 3 25] [0,3,7,8,9]))))
 (cR [oA 26 (.bin .add) [.t 9,.c (.int .i64 (1))],
 oM 9 26] [0,3,7,8,9])))
def f89 : Func := ⟨.seq (cR [oA 2 .move [.c (.int .i64 (0))]] [0])
 (.seq (cR [oA 3 .move [.c (.int .i64 (0))]] [0,3])
 (.seq (.seq (cR [oM 6 0,
 oA 7 .call [.c (.func (.func 159) #[] #[]),.t 6],
 oA 8 .lenS [.t 7],
 oA 9 .move [.c (.int .i64 (0))]] [0,3,7,8,9])
 (.block 0 (.loop [0,3,7,8,9] l89_0)))
 (.seq (.seq (cR [oM 27 0,
 oA 28 .call [.c (.func (.func 134) #[] #[]),.t 27]] [0,3,28])
 (.cond (.t 28) (cR [oM 29 0,
 oM 30 0,
 oM 31 0,
 oA 32 .newMap [],
 oM 33 0,
 oA 34 .nilCheck [.t 33],
 oA 35 (.fieldAddr 1) [.t 34],
 oA 36 (.load false 1) [.t 35],
 oA 37 .call [.c (.func (.func 136) #[] #[]),.t 36],
 oA 38 .nilCheck [.t 29],
 oA 39 (.fieldAddr 2) [.t 38],
 oN (.store 1) [.t 39,.t 32],
 oA 40 .nilCheck [.t 30],
 oA 41 (.fieldAddr 3) [.t 40],
 oN (.store 1) [.t 41,.t 37],
 oA 42 .nilCheck [.t 31],
 oA 43 (.fieldAddr 4) [.t 42],
 oN (.store 1) [.t 43,.c (.slice none 0 0)]] [3])
 (.skip)))
 (.seq (cR [oM 44 3,
 oM 2 44] [2])
 (.ret))))),
 [.tmp 2], none⟩

def f90 : Func := ⟨.seq (cR [oA 2 .move [.c (.slice none 0 0)],
 oA 3 .move [.c (.int .i64 (0))]] [0])
 (.seq (.seq (cR [oM 4 0,
 oA 5 .call [.c (.func (.func 51) #[] #[]),.t 4],
 oA 6 (.un .not) [.t 5]] [0,6])
 (.cond (.t 6) (.seq (cR [oA 2 .move [.c (.slice none 0 0)],
 oA 3 .move [.c (.int .i64 (1))]] [2,3])
 (.ret))
 (.skip)))
 (.seq (cD [⟨[oM 7 0,
 oA 8 .nilCheck [.t 7],
 oA 9 (.fieldAddr 11) [.t 8],
 oA 10 (.load false 1) [.t 9],
 oM 11 0,
 oA 12 .nilCheck [.t 11],
 oA 13 (.fieldAddr 1) [.t 12],
 oA 14 (.fieldAddr 4) [.t 13],
 oA 15 (.load true 4) [.t 14]],some (oA 16 .call [.c (.func (.func 86) #[] #[]),.t 10,.t 15]),[],[]⟩,
 ⟨[oA 17 (.extract 0) [.t 16],
 oA 18 (.extract 1) [.t 16],
 oM 2 17,
 oM 3 18],none,[],[]⟩] [7,8,9,10,11,12,13,14,15,16,17,18,2,3] [2,3])
 (.ret))),
 [.tmp 2, .tmp 3], none⟩

def l91_0 : Code :=
 .seq (cR [oA 39 (.bin .lss) [.t 38,.t 37]] [0,2,4,10,36,37,38,39])
 (.seq (.cond (.t 39) (.skip)
 (.exit 0))
 (.seq (.block 1 (.seq (cR [oM 40 38,
 oA 41 (.idxAddr 3) [.t 36,.t 38],
 oA 42 (.load true 3) [.t 41],
 oA 13 (.new 111 3 [(.int .i64 (0)), (.int .i64 (0)), (.int .i64 (0))]) [],
 oM 12 40,
 oN (.store 3) [.t 13,.t 42]] [0,2,4,10,12,13,36,37,38])
 (cD [⟨[oM 43 0,
 oA 44 (.load true 3) [.t 13],
 oM 45 2,
 oA 46 (.bin .sub) [.t 45,.c (.int .i64 (1))],
 oA 47 (.fieldAddr 1) [.t 10],
 oA 48 (.load false 1) [.t 47],
 oM 49 12,
 oA 50 (.idxAddr 1) [.t 48,.t 49],
 oA 51 (.load false 1) [.t 50],
 oA 52 (.load true 5) [.t 10],
 oM 53 12,
 oM 54 4],some (oA 55 .call [.c (.func (.func 93) #[] #[]),.t 52,.t 53,.t 54]),[44,48,51],[]⟩,
 ⟨[],some (oA 56 .call [.c (.func (.func 91) #[] #[]),.t 43,.t 44,.t 46,.t 51,.t 55]),[],[]⟩] [43,44,45,46,47,48,49,50,51,52,53,54,55,56] [0,2,4,10,36,37,38])))
 (cR [oA 57 (.bin .add) [.t 38,.c (.int .i64 (1))],
 oM 38 57] [0,2,4,10,36,37,38])))
def l91_1 : Code :=
 .seq (cR [oA 62 (.bin .lss) [.t 61,.t 60]] [0,10,59,60,61,62])
 (.seq (.cond (.t 62) (.skip)
 (.exit 2))
 (.seq (.block 3 (.seq (cR [oM 63 61,
 oA 64 (.idxAddr 3) [.t 59,.t 61],
 oA 65 (.load true 3) [.t 64],
 oA 15 (.new 68 3 [(.int .i64 (0)), (.int .i64 (0)), (.int .i64 (0))]) [],
 oM 14 63,
 oN (.store 3) [.t 15,.t 65]] [0,10,14,15,59,60,61])
 (.seq (cD [⟨[oA 66 (.fieldAddr 2) [.t 15],
 oA 67 (.load false 1) [.t 66],
 oM 68 0,
 oA 69 (.load true 3) [.t 15],
 oA 70 (.fieldAddr 3) [.t 10],
 oA 71 (.load false 1) [.t 70],
 oM 72 14,
 oA 73 (.idxAddr 1) [.t 71,.t 72],
 oA 74 (.load false 1) [.t 73]],some (oA 75 .call [.c (.func (.func 161) #[] #[]),.t 68,.t 69,.t 74]),[67],[]⟩,
 ⟨[oA 76 (.bin .geq) [.t 67,.t 75]],none,[],[]⟩] [66,67,68,69,70,71,72,73,74,75,76] [0,10,14,59,60,61,76])
 (.cond (.t 76) (cD [⟨[oM 77 0,
 oA 78 (.fieldAddr 1) [.t 10],
 oA 79 (.load false 1) [.t 78],
 oM 80 14,
 oA 81 (.idxAddr 1) [.t 79,.t 80],
 oA 82 (.load false 1) [.t 81],
 oA 83 (.fieldAddr 1) [.t 10],
 oA 84 (.load false 1) [.t 83],
 oM 85 14,
 oA 86 (.idxAddr 1) [.t 84,.t 85],
 oA 87 (.load false 1) [.t 86],
 oA 88 (.bin .add) [.t 87,.c (.int .i64 (1))]],some (oA 89 .call [.c (.func (.func 160) #[] #[]),.t 77,.t 82,.t 88]),[],[]⟩] [77,78,79,80,81,82,83,84,85,86,87,88,89] [0,10,59,60,61])
 (.skip)))))
 (cR [oA 90 (.bin .add) [.t 61,.c (.int .i64 (1))],
 oM 61 90] [0,10,59,60,61])))
def f91 : Func := ⟨.seq (cR [oA 6 (.box 111 3) [.t 1]] [0,2,3,4,6])
 (.seq (cD [⟨[oM 17 0,
 oA 18 .nilCheck [.t 17],
 oA 19 (.fieldAddr 0) [.t 18],
 oA 20 (.load false 1) [.t 19],
 oA 21 (.iface 76) [.t 20],
 oA 22 (.load true 3) [.t 6],
 oM 23 2,
 oM 24 3,
 oM 25 4],some (oA 26 .call [.c (.func (.func 92) #[] #[]),.t 21,.t 22,.t 23,.t 24,.t 25]),[],[oA 10 (.new 171 5 [(.int .i64 (0)), (.slice none 0 0), (.slice none 0 0), (.slice none 0 0), (.slice none 0 0)]) []]⟩,
 ⟨[oM 16 26,
 oA 27 (.extract 0) [.t 16],
 oA 28 (.extract 1) [.t 16]],some (oA 10 (.new 171 5 [(.int .i64 (0)), (.slice none 0 0), (.slice none 0 0), (.slice none 0 0), (.slice none 0 0)]) []),[],[]⟩,
 ⟨[],some (oN (.store 5) [.t 10,.t 27]),[],[]⟩,
 ⟨[oM 11 28],none,[],[]⟩] [17,18,19,20,21,22,23,24,25,26,16,27,28,10,11] [0,2,3,4,10,11])
 (.seq (.seq (cR [oM 29 11,
 oA 30 (.bin .neq) [.t 29,.c (.int .i64 (0))]] [0,2,3,4,10,30])
 (.cond (.t 30) (.seq (cR [oM 31 0,
 oM 32 3,
 oM 33 4,
 oA 34 .call [.c (.func (.func 160) #[] #[]),.t 31,.t 32,.t 33]] [])
 (.ret))
 (.skip)))
 (.seq (.seq (cR [oA 35 (.fieldAddr 4) [.t 10],
 oA 36 (.load false 1) [.t 35],
 oA 37 .lenS [.t 36],
 oA 38 .move [.c (.int .i64 (0))]] [0,2,4,10,36,37,38])
 (.block 0 (.loop [0,2,4,10,36,37,38] l91_0)))
 (.seq (cR [oA 58 (.fieldAddr 2) [.t 10],
 oA 59 (.load false 1) [.t 58],
 oA 60 .lenS [.t 59],
 oA 61 .move [.c (.int .i64 (0))]] [0,10,59,60,61])
 (.block 2 (.loop [0,10,59,60,61] l91_1)))))),
 [], none⟩

def f92 : Func := ⟨.seq (cR [oA 6 (.box 111 3) [.t 1],
 oA 10 (.new 171 5 [(.int .i64 (0)), (.slice none 0 0), (.slice none 0 0), (.slice none 0 0), (.slice none 0 0)]) [],
 oA 11 .move [.c (.int .i64 (0))]] [0,2,3,4,6,10])
 (.seq (cR [oM 16 0,
 oA 17 (.load true 3) [.t 6],
 oA 18 (.invoke "Load") [.t 16,.t 17],
 oM 15 18,
 oA 19 (.extract 0) [.t 15],
 oA 20 (.extract 1) [.t 15],
 oA 12 (.new 171 5 [(.int .i64 (0)), (.slice none 0 0), (.slice none 0 0), (.slice none 0 0), (.slice none 0 0)]) [],
 oN (.store 5) [.t 12,.t 19],
 oM 13 20] [2,3,4,10,12,13])
 (.seq (.seq (cR [oM 21 13,
 oA 22 (.bin .neq) [.t 21,.c (.int .i64 (0))]] [2,3,4,10,12,13,22])
 (.cond (.t 22) (.seq (cR [oA 23 (.build [(.int .i64 (0)), (.slice none 0 0), (.slice none 0 0), (.slice none 0 0), (.slice none 0 0)] []) [],
 oM 24 13,
 oN (.store 5) [.t 10,.t 23],
 oM 11 24] [10,11])
 (.ret))
 (.skip)))
 (.seq (.seq (cR [oA 25 (.load true 5) [.t 12],
 oA 26 .call [.c (.func (.func 162) #[] #[]),.t 25],
 oA 27 (.un .not) [.t 26],
 oM 28 27,
 oG (some 29) (.fieldAddr 0) [.t 12] 28 false,
 oG (some 30) (.load false 1) [.t 29] 28 false,
 oG (some 31) .move [.t 2] 28 false,
 oG (some 32) (.bin .neq) [.t 30,.t 31] 28 false,
 oA 33 .pick [.t 28,.c (.bool true),.t 32]] [3,4,10,12,33])
 (.cond (.t 33) (.seq (cR [oA 34 (.build [(.int .i64 (0)), (.slice none 0 0), (.slice none 0 0), (.slice none 0 0), (.slice none 0 0)] []) [],
 oN (.store 5) [.t 10,.t 34],
 oA 11 .move [.c (.int .i64 (4))]] [10,11])
 (.ret))
 (.skip)))
 (.seq (.seq (cR [oA 35 (.fieldAddr 1) [.t 12],
 oA 36 (.load false 1) [.t 35],
 oA 37 .lenS [.t 36],
 oA 38 (.bin .sub) [.t 37,.c (.int .i64 (1))],
 oM 14 38] [3,4,10,12,14])
 (.seq (cR [oM 39 14,
 oA 40 (.bin .geq) [.t 39,.c (.int .i64 (0))],
 oM 41 40,
 oG (some 42) (.fieldAddr 1) [.t 12] 41 true,
 oG (some 43) (.load false 1) [.t 42] 41 true,
 oG (some 44) (.idxAddr 1) [.t 43,.c (.int .i64 (0))] 41 true,
 oG (some 45) (.load false 1) [.t 44] 41 true,
 oG (some 46) .move [.t 3] 41 true,
 oG (some 47) (.bin .lss) [.t 45,.t 46] 41 true,
 oG (some 48) .move [.t 47] 41 true,
 oG (some 49) (.fieldAddr 1) [.t 12] 48 false,
 oG (some 50) (.load false 1) [.t 49] 48 false,
 oG (some 51) .move [.t 14] 48 false,
 oG (some 52) (.idxAddr 1) [.t 50,.t 51] 48 false,
 oG (some 53) (.load false 1) [.t 52] 48 false,
 oG (some 54) .move [.t 4] 48 false,
 oG (some 55) (.bin .geq) [.t 53,.t 54] 48 false,
 oG (some 56) .pick [.t 48,.c (.bool true),.t 55] 41 true,
 oA 57 .pick [.t 41,.t 56,.c (.bool false)]] [10,12,57])
 (.cond (.t 57) (.seq (cR [oA 58 (.build [(.int .i64 (0)), (.slice none 0 0), (.slice none 0 0), (.slice none 0 0), (.slice none 0 0)] []) [],
 oN (.store 5) [.t 10,.t 58],
 oA 11 .move [.c (.int .i64 (4))]] [10,11])
 (.ret))
 (.skip))))
 (.seq (cR [oA 59 (.load true 5) [.t 12],
 oN (.store 5) [.t 10,.t 59],
 oA 11 .move [.c (.int .i64 (0))]] [10,11])
 (.ret)))))),
 [.cell 10 true 5, .tmp 11], none⟩

def f93 : Func := ⟨.seq (cR [oA 3 (.box 171 5) [.t 0],
 oA 6 .move [.c (.int .i64 (0))]] [1,2,3])
 (.seq (.seq (cR [oM 7 1,
 oA 8 (.bin .add) [.t 7,.c (.int .i64 (1))],
 oA 9 (.fieldAddr 1) [.t 3],
 oA 10 (.load false 1) [.t 9],
 oA 11 .lenS [.t 10],
 oA 12 (.bin .lss) [.t 8,.t 11]] [1,2,3,12])
 (.cond (.t 12) (.seq (cR [oA 13 (.fieldAddr 1) [.t 3],
 oA 14 (.load false 1) [.t 13],
 oM 15 1,
 oA 16 (.bin .add) [.t 15,.c (.int .i64 (1))],
 oA 17 (.idxAddr 1) [.t 14,.t 16],
 oA 18 (.load false 1) [.t 17],
 oM 6 18] [6])
 (.ret))
 (.skip)))
 (.seq (cR [oM 19 2,
 oM 6 19] [6])
 (.ret))),
 [.tmp 6], none⟩

def f94 : Func := ⟨.seq (cR [oA 2 .move [.c (.pointer none)]] [0])
 (.seq (.seq (cR [oM 3 0,
 oA 4 .call [.c (.func (.func 51) #[] #[]),.t 3],
 oA 5 (.un .not) [.t 4]] [0,5])
 (.cond (.t 5) (.seq (cR [oA 2 .move [.c (.pointer none)]] [2])
 (.ret))
 (.skip)))
 (.seq (cR [oM 6 0,
 oA 7 .nilCheck [.t 6],
 oA 8 (.fieldAddr 0) [.t 7],
 oA 9 (.load false 1) [.t 8],
 oM 2 9] [2])
 (.ret))),
 [.tmp 2], none⟩

def f95 : Func := ⟨.seq (cR [oA 2 (.box 41 1) [.t 0],
 oA 3 (.box 3 1) [.t 1],
 oA 4 (.new 23 1 [(.slice none 0 0)]) [],
 oA 5 .move [.c (.int .i64 (0))]] [2,3,4])
 (.seq (cR [oA 6 (.load false 1) [.t 2],
 oA 7 (.func 163 0) [.t 2,.t 3,.t 4],
 oA 8 .call [.c (.func (.func 111) #[] #[]),.t 6,.c (.int .i64 (1)),.t 7],
 oM 5 8] [4,5])
 (.seq (cR [oA 9 (.load false 1) [.t 4],
 oM 10 5,
 oN (.store 1) [.t 4,.t 9],
 oM 5 10] [4,5])
 (.ret))),
 [.cell 4 false 1, .tmp 5], none⟩

def l96_0 : Code :=
 .seq (cR [oA 25 (.bin .lss) [.t 24,.c (.int .i64 (7))]] [0,2,4,24,25])
 (.seq (.cond (.t 25) (.skip)
 (.exit 1))
 (.seq (.block 2 (.seq (cR [oM 26 24,
 oM 5 26] [0,2,4,5,24])
 (.seq (cR [oM 27 5,
 oA 28 (.bin .mul) [.t 27,.c (.int .i64 (4))],
 oA 29 (.bin .add) [.c (.int .i64 (2)),.t 28],
 oM 6 29] [0,2,4,5,6,24])
 (cR [oM 30 5,
 oM 31 0,
 oM 32 6,
 oM 33 6,
 oA 34 (.bin .add) [.t 33,.c (.int .i64 (4))],
 oA 35 (.slice 1 true true false) [.t 31,.t 32,.t 34],
 oA 36 .call [.c (.func (.func 164) #[] #[]),.t 35],
 oA 37 (.toInt .i64) [.t 36],
 oA 38 (.idxAddrA 7 1) [.t 4,.t 30],
 oN (.store 1) [.t 38,.t 37]] [0,2,4,24]))))
 (cR [oA 39 (.bin .add) [.t 24,.c (.int .i64 (1))],
 oM 24 39] [0,2,4,24])))
def f96 : Func := ⟨.seq (cR [oA 2 (.new 115 8 [(.int .i64 (0)), (.int .i64 (0)), (.int .i64 (0)), (.float .f64 0), (.int .i64 (0)), (.int .i64 (0)), (.int .i64 (0)), (.int .i64 (0))]) [],
 oA 3 .move [.c (.int .i64 (0))]] [0,2])
 (.seq (.block 0 (.seq (cR [oM 10 0,
 oA 11 .lenS [.t 10],
 oA 12 (.bin .neq) [.t 11,.c (.int .i64 (64))],
 oM 9 12] [0,2,9])
 (.cond (.t 9) (.seq (cR [oA 13 (.build [(.int .i64 (0)), (.int .i64 (0)), (.int .i64 (0)), (.float .f64 0), (.int .i64 (0)), (.int .i64 (0)), (.int .i64 (0)), (.int .i64 (0))] []) [],
 oN (.store 8) [.t 2,.t 13],
 oA 3 .move [.c (.int .i64 (1))]] [2,3])
 (.ret))
 (.seq (cD [⟨[oM 15 0,
 oA 16 (.slice 1 true false false) [.t 15,.c (.int .i64 (60))],
 oM 18 0,
 oA 19 (.slice 1 false true false) [.t 18,.c (.int .i64 (60))]],some (oA 17 .call [.c (.func (.func 164) #[] #[]),.t 16]),[],[]⟩,
 ⟨[],some (oA 20 .call [.c (.func (.func 165) #[] #[]),.t 19]),[],[]⟩,
 ⟨[oA 21 (.toInt .u64) [.t 20],
 oA 22 (.bin .neq) [.t 17,.t 21],
 oM 14 22],none,[],[]⟩] [15,16,17,18,19,20,21,22,14] [0,2,14])
 (.cond (.t 14) (.seq (cR [oA 23 (.build [(.int .i64 (0)), (.int .i64 (0)), (.int .i64 (0)), (.float .f64 0), (.int .i64 (0)), (.int .i64 (0)), (.int .i64 (0)), (.int .i64 (0))] []) [],
 oN (.store 8) [.t 2,.t 23],
 oA 3 .move [.c (.int .i64 (5))]] [2,3])
 (.ret))
 (.skip))))))
 (.seq (cR [oA 4 (.new 263 7 [(.int .i64 (0)), (.int .i64 (0)), (.int .i64 (0)), (.int .i64 (0)), (.int .i64 (0)), (.int .i64 (0)), (.int .i64 (0))]) []] [0,2,4])
 (.seq (.seq (cR [oA 24 .move [.c (.int .i64 (0))]] [0,2,4,24])
 (.block 1 (.loop [0,2,4,24] l96_0)))
 (.seq (cD [⟨[oA 40 (.idxAddrA 7 1) [.t 4,.c (.int .i64 (0))],
 oA 41 (.load false 1) [.t 40],
 oA 42 (.idxAddrA 7 1) [.t 4,.c (.int .i64 (1))],
 oA 43 (.load false 1) [.t 42],
 oA 44 (.idxAddrA 7 1) [.t 4,.c (.int .i64 (2))],
 oA 45 (.load false 1) [.t 44],
 oM 46 0,
 oA 47 (.slice 1 true true false) [.t 46,.c (.int .i64 (30)),.c (.int .i64 (38))]],some (oA 48 .call [.c (.func (.func 164) #[] #[]),.t 47]),[41,43,45],[oA 7 (.new 115 8 [(.int .i64 (0)), (.int .i64 (0)), (.int .i64 (0)), (.float .f64 0), (.int .i64 (0)), (.int .i64 (0)), (.int .i64 (0)), (.int .i64 (0))]) []]⟩,
 ⟨[],some (oA 49 .f64from [.t 48]),[41,43,45],[oA 7 (.new 115 8 [(.int .i64 (0)), (.int .i64 (0)), (.int .i64 (0)), (.float .f64 0), (.int .i64 (0)), (.int .i64 (0)), (.int .i64 (0)), (.int .i64 (0))]) []]⟩,
 ⟨[oA 50 (.build [(.int .i64 (0)), (.int .i64 (0)), (.int .i64 (0)), (.float .f64 0), (.int .i64 (0)), (.int .i64 (0)), (.int .i64 (0)), (.int .i64 (0))] [(0, 1), (1, 1), (2, 1), (3, 1)]) [.t 41,.t 43,.t 45,.t 49]],some (oA 7 (.new 115 8 [(.int .i64 (0)), (.int .i64 (0)), (.int .i64 (0)), (.float .f64 0), (.int .i64 (0)), (.int .i64 (0)), (.int .i64 (0)), (.int .i64 (0))]) []),[41,43,45],[]⟩,
 ⟨[],some (oN (.store 8) [.t 7,.t 50]),[],[]⟩] [40,41,42,43,44,45,46,47,48,49,50,7] [0,2,4,7])
 (.seq (cR [oA 51 (.idxAddrA 7 1) [.t 4,.c (.int .i64 (3))],
 oA 52 (.load false 1) [.t 51],
 oA 53 (.idxAddrA 7 1) [.t 4,.c (.int .i64 (4))],
 oA 54 (.load false 1) [.t 53],
 oA 55 (.idxAddrA 7 1) [.t 4,.c (.int .i64 (5))],
 oA 56 (.load false 1) [.t 55],
 oA 57 (.build [(.int .i64 (0)), (.int .i64 (0)), (.int .i64 (0))] [(0, 1), (1, 1), (2, 1)]) [.t 52,.t 54,.t 56],
 oA 58 (.idxAddrA 7 1) [.t 4,.c (.int .i64 (6))],
 oA 59 (.load false 1) [.t 58],
 oA 60 (.build [(.int .i64 (0)), (.int .i64 (0)), (.int .i64 (0)), (.int .i64 (0))] [(0, 3), (3, 1)]) [.t 57,.t 59],
 oA 61 (.fieldAddr 4) [.t 7],
 oN (.store 4) [.t 61,.t 60]] [0,2,7])
 (.seq (cR [oM 62 0,
 oA 63 (.slice 1 true true false) [.t 62,.c (.int .i64 (38)),.c (.int .i64 (60))],
 oM 8 63] [0,2,7,8])
 (.seq (.seq (cR [oM 64 0,
 oA 65 (.idxAddr 1) [.t 64,.c (.int .i64 (0))],
 oA 66 (.load false 1) [.t 65],
 oA 67 (.bin .neq) [.t 66,.c (.int .u8 (192))],
 oM 68 67,
 oG (some 69) .move [.t 0] 68 false,
 oG (some 70) (.idxAddr 1) [.t 69,.c (.int .i64 (1))] 68 false,
 oG (some 71) (.load false 1) [.t 70] 68 false,
 oG (some 72) (.bin .neq) [.t 71,.c (.int .u8 (158))] 68 false,
 oA 73 .pick [.t 68,.c (.bool true),.t 72],
 oM 74 73,
 oG (some 75) (.load true 8) [.t 7] 74 false,
 oG (some 76) .call [.c (.func (.func 167) #[] #[]),.t 75] 74 false,
 oG (some 77) (.un .not) [.t 76] 74 false,
 oA 78 .pick [.t 74,.c (.bool true),.t 77],
 oM 79 78,
 oG (some 80) .move [.t 8] 79 false,
 oG (some 81) .move [.t 8] 79 false,
 oG (some 82) .lenS [.t 81] 79 false,
 oG (some 83) (.newSlice 5 1 1 [(.int .u8 (0))]) [.t 82,.t 82] 79 false,
 oG (some 84) .call [.c (.func (.func 168) #[] #[]),.t 80,.t 83] 79 false,
 oG (some 85) (.un .not) [.t 84] 79 false,
 oA 86 .pick [.t 79,.c (.bool true),.t 85]] [2,7,86])
 (.cond (.t 86) (.seq (cR [oA 87 (.build [(.int .i64 (0)), (.int .i64 (0)), (.int .i64 (0)), (.float .f64 0), (.int .i64 (0)), (.int .i64 (0)), (.int .i64 (0)), (.int .i64 (0))] []) [],
 oN (.store 8) [.t 2,.t 87],
 oA 3 .move [.c (.int .i64 (4))]] [2,3])
 (.ret))
 (.skip)))
 (.seq (cR [oA 88 (.load true 8) [.t 7],
 oN (.store 8) [.t 2,.t 88],
 oA 3 .move [.c (.int .i64 (0))]] [2,3])
 (.ret))))))))),
 [.cell 2 true 8, .tmp 3], none⟩

def f97 : Func := ⟨.seq (cR [oA 2 .move [.c (.bool false)]] [0])
 (.seq (cR [oM 3 0,
 oA 4 (.newSlice 5 1 1 [(.int .u8 (0))]) [.c (.int .i64 (64)),.c (.int .i64 (64))],
 oA 5 .call [.c (.func (.func 168) #[] #[]),.t 3,.t 4],
 oM 2 5] [2])
 (.ret)),
 [.tmp 2], none⟩

def f98 : Func := ⟨.seq (cR [oA 2 .move [.c (.bool false)]] [0])
 (.seq (cR [oM 3 0,
 oA 4 (.bin .geq) [.t 3,.c (.int .i64 (0))],
 oM 5 4,
 oG (some 6) .move [.t 0] 5 true,
 oG (some 7) (.bin .lss) [.t 6,.c (.int .i64 (512))] 5 true,
 oA 8 .pick [.t 5,.t 7,.c (.bool false)],
 oM 2 8] [2])
 (.ret)),
 [.tmp 2], none⟩

def l99_0 : Code :=
 .seq (cR [oA 13 (.bin .lss) [.t 12,.t 11]] [1,2,6,10,11,12,13])
 (.seq (.cond (.t 13) (.skip)
 (.exit 0))
 (.seq (.block 1 (.seq (cR [oM 14 12,
 oA 15 (.idxAddr 1) [.t 10,.t 12],
 oA 16 (.load false 1) [.t 15],
 oM 7 14,
 oM 8 16] [1,2,6,7,8,10,11,12])
 (.seq (cR [oM 17 8,
 oM 18 1,
 oA 19 (.bin .leq) [.t 17,.t 18]] [1,2,6,7,10,11,12,19])
 (.cond (.t 19) (cR [oM 20 7,
 oM 6 20] [1,2,6,10,11,12])
 (.skip)))))
 (cR [oA 21 (.bin .add) [.t 12,.c (.int .i64 (1))],
 oM 12 21] [1,2,6,10,11,12])))
def f99 : Func := ⟨.seq (cR [oA 2 (.box 171 5) [.t 0],
 oA 4 .move [.c (.int .i64 (0))],
 oA 5 .move [.c (.bool false)]] [1,2])
 (.seq (cR [oA 6 .move [.c (.int .i64 (0))]] [1,2,6])
 (.seq (.seq (cR [oA 9 (.fieldAddr 1) [.t 2],
 oA 10 (.load false 1) [.t 9],
 oA 11 .lenS [.t 10],
 oA 12 .move [.c (.int .i64 (0))]] [1,2,6,10,11,12])
 (.block 0 (.loop [1,2,6,10,11,12] l99_0)))
 (.seq (cD [⟨[oM 22 6,
 oA 23 (.fieldAddr 1) [.t 2],
 oA 24 (.load false 1) [.t 23],
 oA 25 .lenS [.t 24],
 oA 26 (.bin .gtr) [.t 25,.c (.int .i64 (0))],
 oM 27 26,
 oG (some 28) (.fieldAddr 1) [.t 2] 27 true,
 oG (some 29) (.load false 1) [.t 28] 27 true,
 oG (some 30) .move [.t 6] 27 true,
 oG (some 31) (.idxAddr 1) [.t 29,.t 30] 27 true,
 oG (some 32) (.load false 1) [.t 31] 27 true,
 oG (some 33) .move [.t 1] 27 true,
 oG (some 34) (.bin .eql) [.t 32,.t 33] 27 true,
 oA 35 .pick [.t 27,.t 34,.c (.bool false)],
 oM 4 22,
 oM 5 35],none,[],[]⟩] [22,23,24,25,26,27,28,29,30,31,32,33,34,35,4,5] [4,5])
 (.ret)))),
 [.tmp 4, .tmp 5], none⟩

def f100 : Func := ⟨.seq (cR [oA 2 (.box 171 5) [.t 0],
 oA 4 (.new 70 5 [(.int .i64 (0)), (.int .i64 (0)), (.int .i64 (0)), (.int .i64 (0)), (.int .i64 (0))]) []] [1,2,4])
 (.seq (cD [⟨[oA 5 (.fieldAddr 1) [.t 2],
 oA 6 (.load false 1) [.t 5],
 oM 7 1,
 oA 8 (.idxAddr 1) [.t 6,.t 7],
 oA 9 (.load false 1) [.t 8],
 oA 10 (.fieldAddr 2) [.t 2],
 oA 11 (.load false 1) [.t 10],
 oM 12 1,
 oA 13 (.idxAddr 3) [.t 11,.t 12],
 oA 14 (.load true 3) [.t 13],
 oA 15 (.fieldAddr 3) [.t 2],
 oA 16 (.load false 1) [.t 15],
 oM 17 1,
 oA 18 (.idxAddr 1) [.t 16,.t 17],
 oA 19 (.load false 1) [.t 18],
 oA 20 (.build [(.int .i64 (0)), (.int .i64 (0)), (.int .i64 (0)), (.int .i64 (0)), (.int .i64 (0))] [(0, 1), (1, 3), (4, 1)]) [.t 9,.t 14,.t 19]],some (oN (.store 5) [.t 4,.t 20]),[],[]⟩] [5,6,7,8,9,10,11,12,13,14,15,16,17,18,19,20] [4])
 (.ret)),
 [.cell 4 true 5], none⟩

def f101 : Func := ⟨.seq (cR [oA 2 .move [.c (.bool false)]] [0])
 (.seq (cR [oM 3 0,
 oA 4 (.isNil .ptr true) [.t 3],
 oM 5 4,
 oG (some 6) .move [.t 0] 5 true,
 oG (some 7) .nilCheck [.t 6] 5 true,
 oG (some 8) (.fieldAddr 0) [.t 7] 5 true,
 oG (some 9) (.load false 1) [.t 8] 5 true,
 oG (some 10) (.isNil .ptr true) [.t 9] 5 true,
 oA 11 .pick [.t 5,.t 10,.c (.bool false)],
 oM 2 11] [2])
 (.ret)),
 [.tmp 2], none⟩

def f102 : Func := ⟨.seq (cR [oA 4 .move [.c (.int .i64 (0))],
 oA 5 .move [.c (.slice none 0 0)],
 oA 6 .move [.c (.int .i64 (0))]] [0,1])
 (.seq (cR [oM 13 0,
 oA 14 .call [.c (.func (.func 169) #[] #[]),.t 13],
 oM 12 14,
 oA 15 (.extract 0) [.t 12],
 oA 16 (.extract 1) [.t 12],
 oM 7 15,
 oM 8 16] [0,1,7,8])
 (.seq (.seq (cR [oM 17 8,
 oA 18 (.bin .neq) [.t 17,.c (.int .i64 (0))]] [0,1,7,8,18])
 (.cond (.t 18) (.seq (cR [oM 19 8,
 oA 4 .move [.c (.int .i64 (0))],
 oA 5 .move [.c (.slice none 0 0)],
 oM 6 19] [4,5,6])
 (.ret))
 (.skip)))
 (.seq (cR [oM 20 7,
 oA 21 .call [.c (.func (.func 170) #[] #[]),.t 20],
 oA 22 (.bin .mul) [.c (.int .i64 (64)),.t 21],
 oM 9 22] [0,1,7,9])
 (.seq (.block 0 (.seq (cR [oM 24 0,
 oA 25 .lenS [.t 24],
 oM 26 9,
 oA 27 (.bin .gtr) [.t 25,.t 26],
 oM 23 27] [0,1,7,9,23])
 (.cond (.t 23) (.seq (cR [oA 4 .move [.c (.int .i64 (0))],
 oA 5 .move [.c (.slice none 0 0)],
 oA 6 .move [.c (.int .i64 (3))]] [4,5,6])
 (.ret))
 (.seq (cR [oM 29 0,
 oA 30 .lenS [.t 29],
 oM 31 9,
 oA 32 (.bin .lss) [.t 30,.t 31],
 oM 28 32] [0,1,7,28])
 (.cond (.t 28) (.seq (cR [oA 4 .move [.c (.int .i64 (0))],
 oA 5 .move [.c (.slice none 0 0)],
 oA 6 .move [.c (.int .i64 (2))]] [4,5,6])
 (.ret))
 (.skip))))))
 (.seq (cD [⟨[oM 33 0,
 oM 34 7,
 oA 35 (.bin .add) [.c (.int .i64 (16)),.t 34],
 oA 36 (.slice 1 true true false) [.t 33,.c (.int .i64 (16)),.t 35],
 oM 37 0,
 oM 38 7,
 oA 39 (.bin .add) [.c (.int .i64 (16)),.t 38],
 oA 40 (.slice 1 true false false) [.t 37,.t 39],
 oM 10 36,
 oM 11 40],none,[],[]⟩] [33,34,35,36,37,38,39,40,10,11] [0,1,10,11])
 (.seq (.block 1 (.seq (cR [oM 42 0,
 oA 43 (.slice 1 true false false) [.t 42,.c (.int .i64 (12))],
 oA 44 .call [.c (.func (.func 171) #[] #[]),.t 43],
 oM 45 0,
 oM 46 10,
 oA 47 .call [.c (.func (.func 172) #[] #[]),.t 45,.t 46],
 oA 48 (.bin .neq) [.t 44,.t 47],
 oM 49 48,
 oG (some 50) .move [.t 11] 49 false,
 oG (some 51) .move [.t 11] 49 false,
 oG (some 52) .lenS [.t 51] 49 false,
 oG (some 53) (.newSlice 5 1 1 [(.int .u8 (0))]) [.t 52,.t 52] 49 false,
 oG (some 54) .call [.c (.func (.func 168) #[] #[]),.t 50,.t 53] 49 false,
 oG (some 55) (.un .not) [.t 54] 49 false,
 oA 56 .pick [.t 49,.c (.bool true),.t 55],
 oM 41 56] [0,1,10,41])
 (.cond (.t 41) (.seq (cR [oA 4 .move [.c (.int .i64 (0))],
 oA 5 .move [.c (.slice none 0 0)],
 oA 6 .move [.c (.int .i64 (5))]] [4,5,6])
 (.ret))
 (.seq (cR [oM 58 0,
 oA 59 (.idxAddr 1) [.t 58,.c (.int .i64 (2))],
 oA 60 (.load false 1) [.t 59],
 oM 61 1,
 oA 62 (.bin .neq) [.t 60,.t 61],
 oM 57 62] [0,10,57])
 (.cond (.t 57) (.seq (cR [oA 4 .move [.c (.int .i64 (0))],
 oA 5 .move [.c (.slice none 0 0)],
 oA 6 .move [.c (.int .i64 (4))]] [4,5,6])
 (.ret))
 (.skip))))))
 (.seq (cR [oM 63 0,
 oA 64 (.slice 1 true false false) [.t 63,.c (.int .i64 (4))],
 oA 65 .call [.c (.func (.func 171) #[] #[]),.t 64],
 oA 66 (.toInt .i64) [.t 65],
 oM 67 10,
 oA 68 .call [.c (.func (.func 50) #[] #[]),.t 67],
 oM 4 66,
 oM 5 68,
 oA 6 .move [.c (.int .i64 (0))]] [4,5,6])
 (.ret)))))))),
 [.tmp 4, .tmp 5, .tmp 6], none⟩

def f103 : Func := ⟨.seq (cR [oA 4 (.new 26 1 [(.int .i64 (0))]) []] [0,1,4])
 (.seq (.seq (cR [oM 6 1,
 oA 7 (.isNil .func false) [.t 6]] [0,1,4,7])
 (.cond (.t 7) (.seq (cR [oN (.store 1) [.t 4,.c (.int .i64 (1))]] [4])
 (.ret))
 (.skip)))
 (.seq (cR [oA 8 (.func 173 0) [.t 4],
 oN .defer [.t 8]] [0,1,4])
 (.seq (cR [oM 9 0,
 oA 10 .call [.c (.func (.func 50) #[] #[]),.t 9],
 oA 11 (.build [(.slice none 0 0)] [(0, 1)]) [.t 10],
 oA 12 (.box 273 1) [.t 11],
 oM 5 12] [1,4,5])
 (.seq (cR [oM 13 1,
 oM 14 5,
 oA 15 .call [.t 13,.t 14]] [4,5])
 (.seq (cR [oM 16 5,
 oA 17 .nilCheck [.t 16],
 oA 18 (.fieldAddr 0) [.t 17],
 oA 19 (.load false 1) [.t 18],
 oA 20 .lenS [.t 19],
 oA 21 (.bin .eql) [.t 20,.c (.int .i64 (0))],
 oA 22 .call [.c (.func (.func 174) #[] #[]),.t 21,.c (.int .i64 (3))]] [4])
 (.seq (cR [oN (.store 1) [.t 4,.c (.int .i64 (0))]] [4])
 (.ret))))))),
 [.cell 4 false 1], none⟩

def f104 : Func := ⟨.seq (cR [oM 5 0,
 oA 6 .call [.c (.func (.func 105) #[] #[]),.t 5],
 oN (.store 1) [.t 1,.t 6]] [0,2,3])
 (.seq (cR [oM 7 0,
 oA 8 .call [.c (.func (.func 105) #[] #[]),.t 7],
 oN (.store 1) [.t 2,.t 8]] [0,3])
 (cR [oM 9 0,
 oA 10 .call [.c (.func (.func 106) #[] #[]),.t 9,.c (.int .i64 (4096))],
 oN (.store 1) [.t 3,.t 10]] [])),
 [], none⟩

def l105_0 : Code :=
 .seq (cR [oA 9 (.bin .lss) [.t 8,.c (.int .i64 (4))]] [0,2,3,8,9])
 (.seq (.cond (.t 9) (.skip)
 (.exit 0))
 (.seq (.block 1 (.seq (cR [oM 10 8,
 oM 4 10] [0,2,3,4,8])
 (.seq (cR [oM 11 4,
 oM 12 0,
 oA 13 .nilCheck [.t 12],
 oA 14 (.fieldAddr 0) [.t 13],
 oA 15 (.load false 1) [.t 14],
 oA 16 .lenS [.t 15],
 oA 17 (.bin .lss) [.t 11,.t 16],
 oA 18 .call [.c (.func (.func 174) #[] #[]),.t 17,.c (.int .i64 (2))]] [0,2,3,4,8])
 (.seq (cR [oM 19 0,
 oA 20 .nilCheck [.t 19],
 oA 21 (.fieldAddr 0) [.t 20],
 oA 22 (.load false 1) [.t 21],
 oM 23 4,
 oA 24 (.idxAddr 1) [.t 22,.t 23],
 oA 25 (.load false 1) [.t 24],
 oM 5 25] [0,2,3,4,5,8])
 (.seq (cR [oM 26 3,
 oM 27 5,
 oA 28 (.bin .and) [.t 27,.c (.int .u8 (127))],
 oA 29 (.toInt .i64) [.t 28],
 oM 30 4,
 oA 31 (.bin .mul) [.c (.int .i64 (7)),.t 30],
 oA 32 (.bin .shl) [.t 29,.t 31],
 oA 33 (.bin .or) [.t 26,.t 32],
 oM 3 33] [0,2,3,4,5,8])
 (.seq (cR [oM 34 5,
 oA 35 (.bin .lss) [.t 34,.c (.int .u8 (128))]] [0,2,3,4,5,8,35])
 (.cond (.t 35) (.seq (cR [oM 36 5,
 oA 37 (.bin .gtr) [.t 36,.c (.int .u8 (0))],
 oM 38 37,
 oG (some 39) .move [.t 4] 38 false,
 oG (some 40) (.bin .eql) [.t 39,.c (.int .i64 (0))] 38 false,
 oA 41 .pick [.t 38,.c (.bool true),.t 40],
 oA 42 .call [.c (.func (.func 174) #[] #[]),.t 41,.c (.int .i64 (4))]] [0,3,4])
 (.seq (cR [oM 43 0,
 oM 44 0,
 oA 45 .nilCheck [.t 44],
 oA 46 (.fieldAddr 0) [.t 45],
 oA 47 (.load false 1) [.t 46],
 oM 48 4,
 oA 49 (.bin .add) [.t 48,.c (.int .i64 (1))],
 oA 50 (.slice 1 true false false) [.t 47,.t 49],
 oA 51 .nilCheck [.t 43],
 oA 52 (.fieldAddr 0) [.t 51],
 oN (.store 1) [.t 52,.t 50]] [3])
 (.seq (cR [oM 53 3,
 oM 2 53] [2])
 (.ret))))
 (.skip))))))))
 (cR [oA 54 (.bin .add) [.t 8,.c (.int .i64 (1))],
 oM 8 54] [0,2,3,8])))
def f105 : Func := ⟨.seq (cR [oA 2 .move [.c (.int .i64 (0))]] [0,2])
 (.seq (.seq (cR [oM 6 0,
 oA 7 (.isNil .ptr false) [.t 6]] [0,2,7])
 (.cond (.t 7) (.seq (cR [oA 2 .move [.c (.int .i64 (0))]] [2])
 (.ret))
 (.skip)))
 (.seq (cR [oA 3 .move [.c (.int .i64 (0))]] [0,2,3])
 (.seq (.seq (cR [oA 8 .move [.c (.int .i64 (0))]] [0,2,3,8])
 (.block 0 (.loop [0,2,3,8] l105_0)))
 (cR [oA 55 (.build [(.int .i64 (0))] [(0, 1)]) [.c (.int .i64 (4))],
 oA 56 (.iface 271) [.t 55],
 oN .panic [.t 56]] [2])))),
 [.tmp 2], none⟩

def f106 : Func := ⟨.seq (cR [oA 4 .move [.c (.slice none 0 0)]] [0,1])
 (.seq (.seq (cR [oM 7 0,
 oA 8 (.isNil .ptr false) [.t 7]] [0,1,8])
 (.cond (.t 8) (.seq (cR [oA 4 .move [.c (.slice none 0 0)]] [4])
 (.ret))
 (.skip)))
 (.seq (cR [oM 9 0,
 oA 10 .call [.c (.func (.func 105) #[] #[]),.t 9],
 oM 5 10] [0,1,5])
 (.seq (cR [oM 11 5,
 oM 12 1,
 oA 13 (.bin .leq) [.t 11,.t 12],
 oA 14 .call [.c (.func (.func 174) #[] #[]),.t 13,.c (.int .i64 (3))]] [0,5])
 (.seq (cR [oM 15 5,
 oM 16 0,
 oA 17 .nilCheck [.t 16],
 oA 18 (.fieldAddr 0) [.t 17],
 oA 19 (.load false 1) [.t 18],
 oA 20 .lenS [.t 19],
 oA 21 (.bin .leq) [.t 15,.t 20],
 oA 22 .call [.c (.func (.func 174) #[] #[]),.t 21,.c (.int .i64 (2))]] [0,5])
 (.seq (cR [oM 23 0,
 oA 24 .nilCheck [.t 23],
 oA 25 (.fieldAddr 0) [.t 24],
 oA 26 (.load false 1) [.t 25],
 oM 27 5,
 oA 28 (.slice 1 false true false) [.t 26,.t 27],
 oA 29 .call [.c (.func (.func 50) #[] #[]),.t 28],
 oM 6 29] [0,5,6])
 (.seq (cR [oM 30 0,
 oM 31 0,
 oA 32 .nilCheck [.t 31],
 oA 33 (.fieldAddr 0) [.t 32],
 oA 34 (.load false 1) [.t 33],
 oM 35 5,
 oA 36 (.slice 1 true false false) [.t 34,.t 35],
 oA 37 .nilCheck [.t 30],
 oA 38 (.fieldAddr 0) [.t 37],
 oN (.store 1) [.t 38,.t 36]] [6])
 (.seq (cR [oM 39 6,
 oM 4 39] [4])
 (.ret)))))))),
 [.tmp 4], none⟩

def f107 : Func := ⟨.seq (cR [oA 6 .move [.c (.slice none 0 0)],
 oA 7 .move [.c (.int .i64 (0))]] [0,1,2])
 (.seq (.seq (cR [oM 8 2,
 oA 9 (.bin .lss) [.t 8,.c (.int .i64 (0))],
 oM 10 9,
 oG (some 11) .move [.t 2] 10 false,
 oG (some 12) (.bin .gtr) [.t 11,.c (.int .i64 (4096))] 10 false,
 oA 13 .pick [.t 10,.c (.bool true),.t 12]] [0,1,2,13])
 (.cond (.t 13) (.seq (cR [oA 6 .move [.c (.slice none 0 0)],
 oA 7 .move [.c (.int .i64 (1))]] [6,7])
 (.ret))
 (.skip)))
 (.seq (.seq (cR [oM 14 0] [1,2,14])
 (.block 0 (.seq (cR [oA 16 (.bin .eql) [.t 14,.c (.int .i64 (0))],
 oM 15 16] [1,2,14,15])
 (.cond (.t 15) (.seq (cR [oM 17 1,
 oM 18 2,
 oA 19 .call [.c (.func (.func 175) #[] #[]),.t 17,.t 18],
 oA 20 (.extract 0) [.t 19],
 oA 21 (.extract 1) [.t 19],
 oM 6 20,
 oM 7 21] [6,7])
 (.ret))
 (.seq (cR [oA 23 (.bin .eql) [.t 14,.c (.int .i64 (1))],
 oM 22 23] [1,2,14,22])
 (.cond (.t 22) (.seq (cR [oM 24 1,
 oM 25 2,
 oA 26 .call [.c (.func (.func 176) #[] #[]),.t 24,.t 25],
 oA 27 (.extract 0) [.t 26],
 oA 28 (.extract 1) [.t 26],
 oM 6 27,
 oM 7 28] [6,7])
 (.ret))
 (.seq (cR [oA 30 (.bin .eql) [.t 14,.c (.int .i64 (2))],
 oM 29 30] [1,2,29])
 (.cond (.t 29) (.seq (cR [oM 31 1,
 oM 32 2,
 oA 33 .call [.c (.func (.func 177) #[] #[]),.t 31,.t 32],
 oA 34 (.extract 0) [.t 33],
 oA 35 (.extract 1) [.t 33],
 oM 6 34,
 oM 7 35] [6,7])
 (.ret))
 (.skip)))))))))
 (.seq (cR [oA 6 .move [.c (.slice none 0 0)],
 oA 7 .move [.c (.int .i64 (1))]] [6,7])
 (.ret)))),
 [.tmp 6, .tmp 7], none⟩

def f108 : Func := ⟨.seq (cR [oA 6 .move [.c (.bool false)]] [0,1,2])
 (.seq (cR [oM 7 0,
 oA 8 (.isNil .ptr true) [.t 7],
 oM 9 8,
 oG (some 10) .move [.t 1] 9 true,
 oG (some 11) (.bin .geq) [.t 10,.c (.int .i64 (0))] 9 true,
 oA 12 .pick [.t 9,.t 11,.c (.bool false)],
 oM 13 12,
 oG (some 14) .move [.t 2] 13 true,
 oG (some 15) (.bin .geq) [.t 14,.c (.int .i64 (1))] 13 true,
 oA 16 .pick [.t 13,.t 15,.c (.bool false)],
 oM 17 16,
 oG (some 18) .move [.t 2] 17 true,
 oG (some 19) .move [.t 0] 17 true,
 oG (some 20) .nilCheck [.t 19] 17 true,
 oG (some 21) (.fieldAddr 0) [.t 20] 17 true,
 oG (some 22) (.load false 1) [.t 21] 17 true,
 oG (some 23) (.bin .leq) [.t 18,.t 22] 17 true,
 oA 24 .pick [.t 17,.t 23,.c (.bool false)],
 oM 25 24,
 oG (some 26) .move [.t 1] 25 true,
 oG (some 27) .move [.t 0] 25 true,
 oG (some 28) .nilCheck [.t 27] 25 true,
 oG (some 29) (.fieldAddr 0) [.t 28] 25 true,
 oG (some 30) (.load false 1) [.t 29] 25 true,
 oG (some 31) .move [.t 2] 25 true,
 oG (some 32) (.bin .sub) [.t 30,.t 31] 25 true,
 oG (some 33) (.bin .leq) [.t 26,.t 32] 25 true,
 oA 34 .pick [.t 25,.t 33,.c (.bool false)],
 oM 6 34] [6])
 (.ret)),
 [.tmp 6], none⟩

def f109 : Func := ⟨.seq (cR [oM 6 2,
 oA 7 .call [.c (.func (.func 178) #[] #[]),.t 6,.c (.func (.func 179) #[] #[])],
 oM 2 7] [0,1,2])
 (cR [oM 8 0,
 oM 9 0,
 oA 10 .nilCheck [.t 9],
 oA 11 (.fieldAddr 1) [.t 10],
 oA 12 (.load false 1) [.t 11],
 oM 13 1,
 oM 14 1,
 oA 15 (.bin .add) [.t 14,.c (.int .i64 (1))],
 oM 16 2,
 oA 17 .call [.c (.func (.func 180) #[] #[]),.t 12,.t 13,.t 15,.t 16],
 oA 18 .nilCheck [.t 8],
 oA 19 (.fieldAddr 1) [.t 18],
 oN (.store 1) [.t 19,.t 17]] []),
 [], none⟩

def f110 : Func := ⟨.seq (cR [oA 2 .move [.c (.bool false)]] [0])
 (.seq (cR [oM 3 0,
 oM 4 0,
 oA 5 (.bin .neq) [.t 3,.t 4],
 oM 2 5] [2])
 (.ret)),
 [.tmp 2], none⟩

def f111 : Func := ⟨.seq (cR [oA 6 (.new 26 1 [(.int .i64 (0))]) []] [0,1,2,6])
 (.seq (.seq (cR [oM 7 0,
 oA 8 .call [.c (.func (.func 55) #[] #[]),.t 7],
 oA 9 (.bin .eql) [.t 8,.c (.int .i64 (0))]] [0,1,2,6,9])
 (.cond (.t 9) (.seq (cR [oN (.store 1) [.t 6,.c (.int .i64 (1))]] [6])
 (.ret))
 (.skip)))
 (.seq (cR [oA 10 (.func 181 0) [.t 6],
 oN .defer [.t 10]] [0,1,2,6])
 (.seq (cR [oM 11 0,
 oM 12 1,
 oA 13 .call [.c (.func (.func 182) #[] #[]),.t 11,.t 12]] [2,6])
 (.seq (cR [oM 14 2,
 oA 15 .call [.t 14],
 oN (.store 1) [.t 6,.t 15]] [6])
 (.ret))))),
 [.cell 6 false 1], none⟩

def f112 : Func := ⟨.seq (cR [oA 3 .move [.c (.int .i64 (0))]] [0,1,2])
 (.seq (.seq (cR [oA 4 (.load false 1) [.t 0],
 oA 5 (.load false 1) [.t 1],
 oA 6 .call [.c (.func (.func 74) #[] #[]),.t 4,.t 5],
 oA 7 (.un .not) [.t 6],
 oM 8 7,
 oG (some 9) (.load false 1) [.t 2] 8 false,
 oG (some 10) .lenS [.t 9] 8 false,
 oG (some 11) (.bin .neq) [.t 10,.c (.int .i64 (64))] 8 false,
 oA 12 .pick [.t 8,.c (.bool true),.t 11]] [0,1,2,12])
 (.cond (.t 12) (.seq (cR [oA 3 .move [.c (.int .i64 (1))]] [3])
 (.ret))
 (.skip)))
 (.seq (cD [⟨[oA 13 (.load false 1) [.t 0],
 oA 14 (.load false 1) [.t 0],
 oA 15 .nilCheck [.t 14],
 oA 16 (.fieldAddr 1) [.t 15],
 oA 17 (.load false 1) [.t 16],
 oA 18 (.load false 1) [.t 1],
 oA 19 (.load false 1) [.t 2]],some (oA 20 .call [.c (.func (.func 50) #[] #[]),.t 19]),[13,14,17,18],[]⟩,
 ⟨[oA 21 (.build [(.int .i64 (0)), (.slice none 0 0)] [(0, 1), (1, 1)]) [.t 18,.t 20]],some (oA 22 (.buildSlice 204 2 1 [(.int .i64 (0)), (.slice none 0 0)] [(0, 2)]) [.t 21]),[13,14,17],[]⟩,
 ⟨[],some (oA 23 (.append 204 2 32) [.t 17,.t 22]),[13],[]⟩,
 ⟨[oA 24 .nilCheck [.t 13],
 oA 25 (.fieldAddr 1) [.t 24]],some (oN (.store 1) [.t 25,.t 23]),[],[]⟩] [13,14,15,16,17,18,19,20,21,22,23,24,25] [])
 (.seq (cR [oA 3 .move [.c (.int .i64 (0))]] [3])
 (.ret)))),
 [.tmp 3], none⟩

def f113 : Func := ⟨.seq (cR [oA 1 .move [.c (.int .i64 (0))]] [0])
 (.seq (cR [oA 2 (.load false 1) [.t 0],
 oA 3 .call [.c (.func (.func 72) #[] #[]),.t 2,.c (.func (.func 114) #[] #[])]] [])
 (.seq (cR [oA 1 .move [.c (.int .i64 (0))]] [1])
 (.ret))),
 [.tmp 1], none⟩

def f114 : Func := ⟨.seq (cR [oA 2 .move [.c (.bool false)]] [])
 (.seq (cR [oA 2 .move [.c (.bool true)]] [2])
 (.ret)),
 [.tmp 2], none⟩

def l115_0 : Code :=
 .seq (cR [oA 38 (.bin .lss) [.t 37,.t 36]] [1,4,35,36,37,38])
 (.seq (.cond (.t 38) (.skip)
 (.exit 0))
 (.seq (.block 1 (.seq (cR [oM 39 37,
 oA 40 (.idxAddr 1) [.t 35,.t 37],
 oA 41 (.load false 1) [.t 40],
 oM 6 39,
 oM 7 41] [1,4,6,7,35,36,37])
 (.seq (cR [oM 42 6,
 oA 43 (.bin .mul) [.t 42,.c (.int .i64 (4))],
 oA 44 (.bin .add) [.c (.int .i64 (2)),.t 43],
 oM 8 44] [1,4,7,8,35,36,37])
 (cR [oM 45 4,
 oM 46 8,
 oM 47 8,
 oA 48 (.bin .add) [.t 47,.c (.int .i64 (4))],
 oA 49 (.slice 1 true true false) [.t 45,.t 46,.t 48],
 oM 50 7,
 oA 51 (.toInt .u64) [.t 50],
 oA 52 .call [.c (.func (.func 183) #[] #[]),.t 49,.t 51]] [1,4,35,36,37]))))
 (cR [oA 53 (.bin .add) [.t 37,.c (.int .i64 (1))],
 oM 37 53] [1,4,35,36,37])))
def f115 : Func := ⟨.seq (cR [oA 1 (.box 115 8) [.t 0],
 oA 2 .move [.c (.slice none 0 0)],
 oA 3 .move [.c (.int .i64 (0))]] [1])
 (.seq (.seq (cR [oA 9 (.load true 8) [.t 1],
 oA 10 .call [.c (.func (.func 167) #[] #[]),.t 9],
 oA 11 (.un .not) [.t 10]] [1,11])
 (.cond (.t 11) (.seq (cR [oA 2 .move [.c (.slice none 0 0)],
 oA 3 .move [.c (.int .i64 (1))]] [2,3])
 (.ret))
 (.skip)))
 (.seq (cR [oA 12 (.newSlice 5 1 1 [(.int .u8 (0))]) [.c (.int .i64 (64)),.c (.int .i64 (64))],
 oM 4 12] [1,4])
 (.seq (cR [oM 13 4,
 oM 14 4,
 oA 15 (.idxAddr 1) [.t 13,.c (.int .i64 (0))],
 oN (.store 1) [.t 15,.c (.int .u8 (192))],
 oA 16 (.idxAddr 1) [.t 14,.c (.int .i64 (1))],
 oN (.store 1) [.t 16,.c (.int .u8 (158))]] [1,4])
 (.seq (cR [oA 17 (.fieldAddr 4) [.t 1],
 oA 18 (.fieldAddr 0) [.t 17],
 oA 19 (.load true 3) [.t 18],
 oA 5 (.new 111 3 [(.int .i64 (0)), (.int .i64 (0)), (.int .i64 (0))]) [],
 oN (.store 3) [.t 5,.t 19]] [1,4,5])
 (.seq (.seq (cR [oA 20 (.fieldAddr 0) [.t 1],
 oA 21 (.load false 1) [.t 20],
 oA 22 (.fieldAddr 1) [.t 1],
 oA 23 (.load false 1) [.t 22],
 oA 24 (.fieldAddr 2) [.t 1],
 oA 25 (.load false 1) [.t 24],
 oA 26 (.fieldAddr 0) [.t 5],
 oA 27 (.load false 1) [.t 26],
 oA 28 (.fieldAddr 1) [.t 5],
 oA 29 (.load false 1) [.t 28],
 oA 30 (.fieldAddr 2) [.t 5],
 oA 31 (.load false 1) [.t 30],
 oA 32 (.fieldAddr 4) [.t 1],
 oA 33 (.fieldAddr 3) [.t 32],
 oA 34 (.load false 1) [.t 33],
 oA 35 (.buildSlice 3 1 7 [(.int .i64 (0)), (.int .i64 (0)), (.int .i64 (0)), (.int .i64 (0)), (.int .i64 (0)), (.int .i64 (0)), (.int .i64 (0))] [(0, 1), (1, 1), (2, 1), (3, 1), (4, 1), (5, 1), (6, 1)]) [.t 21,.t 23,.t 25,.t 27,.t 29,.t 31,.t 34],
 oA 36 .lenS [.t 35],
 oA 37 .move [.c (.int .i64 (0))]] [1,4,35,36,37])
 (.block 0 (.loop [1,4,35,36,37] l115_0)))
 (.seq (cD [⟨[oM 54 4,
 oA 55 (.slice 1 true true false) [.t 54,.c (.int .i64 (30)),.c (.int .i64 (38))],
 oA 56 (.fieldAddr 3) [.t 1],
 oA 57 (.load false 1) [.t 56]],some (oA 58 .f64bits [.t 57]),[],[]⟩,
 ⟨[],some (oA 59 .call [.c (.func (.func 183) #[] #[]),.t 55,.t 58]),[],[]⟩] [54,55,56,57,58,59] [4])
 (.seq (cD [⟨[oM 60 4,
 oA 61 (.slice 1 true false false) [.t 60,.c (.int .i64 (60))],
 oM 62 4,
 oA 63 (.slice 1 false true false) [.t 62,.c (.int .i64 (60))]],some (oA 64 .call [.c (.func (.func 165) #[] #[]),.t 63]),[],[]⟩,
 ⟨[oA 65 (.toInt .u64) [.t 64]],some (oA 66 .call [.c (.func (.func 183) #[] #[]),.t 61,.t 65]),[],[]⟩] [60,61,62,63,64,65,66] [4])
 (.seq (cR [oM 67 4,
 oM 2 67,
 oA 3 .move [.c (.int .i64 (0))]] [2,3])
 (.ret))))))))),
 [.tmp 2, .tmp 3], none⟩

def f116 : Func := ⟨.seq (cR [oA 1 (.box 115 8) [.t 0],
 oA 2 .move [.c (.int .i64 (0))]] [1])
 (.seq (cR [oA 3 (.fieldAddr 0) [.t 1],
 oA 4 (.load false 1) [.t 3],
 oA 5 (.bin .rem) [.t 4,.c (.int .i64 (2))],
 oM 2 5] [2])
 (.ret)),
 [.tmp 2], none⟩

def f117 : Func := ⟨.seq (cR [oA 2 .move [.c (.int .i64 (0))]] [0,1])
 (.seq (cR [oA 4 (.load false 1) [.t 0],
 oA 5 .call [.c (.func (.func 95) #[] #[]),.t 4,.c (.int .i64 (0))],
 oM 3 5,
 oA 6 (.extract 0) [.t 3],
 oA 7 (.extract 1) [.t 3],
 oN (.store 1) [.t 1,.t 6],
 oM 2 7] [2])
 (.seq (cR [oM 8 2,
 oM 2 8] [2])
 (.ret))),
 [.tmp 2], none⟩

def f118 : Func := ⟨.seq (cR [oA 2 .move [.c (.int .i64 (0))]] [0,1])
 (.seq (cR [oA 4 (.load false 1) [.t 0],
 oA 5 .call [.c (.func (.func 95) #[] #[]),.t 4,.c (.int .i64 (1))],
 oM 3 5,
 oA 6 (.extract 0) [.t 3],
 oA 7 (.extract 1) [.t 3],
 oN (.store 1) [.t 1,.t 6],
 oM 2 7] [2])
 (.seq (cR [oM 8 2,
 oM 2 8] [2])
 (.ret))),
 [.tmp 2], none⟩

def f119 : Func := ⟨.seq (cR [oA 4 .move [.c (.int .i64 (0))]] [0,1,2,3])
 (.seq (cD [⟨[oA 6 (.load false 1) [.t 2],
 oA 7 (.load false 1) [.t 0],
 oA 8 (.load false 1) [.t 1]],some (oA 9 .call [.c (.func (.func 120) #[] #[]),.t 7,.t 8]),[6],[]⟩,
 ⟨[oM 5 9,
 oA 10 (.extract 0) [.t 5],
 oA 11 (.extract 1) [.t 5],
 oA 12 (.extract 2) [.t 5],
 oA 13 .nilCheck [.t 6],
 oA 14 (.fieldAddr 1) [.t 13]],some (oN (.store 8) [.t 14,.t 10]),[],[]⟩,
 ⟨[oM 4 12],none,[],[]⟩] [6,7,8,9,5,10,11,12,13,14,4] [2,3,4])
 (.seq (.seq (cD [⟨[oM 15 4,
 oA 16 (.bin .eql) [.t 15,.c (.int .i64 (0))],
 oM 17 16,
 oG (some 18) (.load false 1) [.t 2] 17 true,
 oG (some 19) .nilCheck [.t 18] 17 true,
 oG (some 20) (.fieldAddr 1) [.t 19] 17 true,
 oG (some 21) (.fieldAddr 1) [.t 20] 17 true,
 oG (some 22) (.load false 1) [.t 21] 17 true,
 oG (some 23) (.load false 1) [.t 3] 17 true],some (oG (some 24) .call [.c (.func (.func 55) #[] #[]),.t 23] 17 true),[18,22],[]⟩,
 ⟨[oG (some 25) (.bin .neq) [.t 22,.t 24] 17 true,
 oA 26 .pick [.t 17,.t 25,.c (.bool false)]],none,[],[]⟩] [15,16,17,18,19,20,21,22,23,24,25,26] [4,26])
 (.cond (.t 26) (cR [oA 4 .move [.c (.int .i64 (4))]] [4])
 (.skip)))
 (.seq (cR [oM 27 4,
 oM 4 27] [4])
 (.ret)))),
 [.tmp 4], none⟩

def f120 : Func := ⟨.seq (cR [oA 4 (.new 115 8 [(.int .i64 (0)), (.int .i64 (0)), (.int .i64 (0)), (.float .f64 0), (.int .i64 (0)), (.int .i64 (0)), (.int .i64 (0)), (.int .i64 (0))]) [],
 oA 5 .move [.c (.int .i64 (0))],
 oA 6 .move [.c (.int .i64 (0))]] [0,1,4])
 (.seq (.block 0 (.seq (cR [oM 12 0,
 oA 13 .call [.c (.func (.func 97) #[] #[]),.t 12],
 oM 14 13,
 oG (some 15) .move [.t 1] 14 true,
 oG (some 16) .call [.c (.func (.func 97) #[] #[]),.t 15] 14 true,
 oA 17 .pick [.t 14,.t 16,.c (.bool false)],
 oM 11 17] [0,1,4,11])
 (.cond (.t 11) (.seq (cR [oA 18 (.build [(.int .i64 (0)), (.int .i64 (0)), (.int .i64 (0)), (.float .f64 0), (.int .i64 (0)), (.int .i64 (0)), (.int .i64 (0)), (.int .i64 (0))] []) [],
 oN (.store 8) [.t 4,.t 18],
 oA 5 .move [.c (.int .i64 (0))],
 oA 6 .move [.c (.int .i64 (8))]] [4,5,6])
 (.ret))
 (.seq (cR [oM 20 0,
 oA 21 .call [.c (.func (.func 97) #[] #[]),.t 20],
 oM 19 21] [0,1,4,19])
 (.cond (.t 19) (.seq (cR [oM 22 1,
 oA 23 .call [.c (.func (.func 185) #[] #[]),.t 22,.c (.int .i64 (1))],
 oA 24 (.extract 0) [.t 23],
 oA 25 (.extract 1) [.t 23],
 oA 26 (.extract 2) [.t 23],
 oN (.store 8) [.t 4,.t 24],
 oM 5 25,
 oM 6 26] [4,5,6])
 (.ret))
 (.seq (cR [oM 28 1,
 oA 29 .call [.c (.func (.func 97) #[] #[]),.t 28],
 oM 27 29] [0,1,4,27])
 (.cond (.t 27) (.seq (cR [oM 30 0,
 oA 31 .call [.c (.func (.func 185) #[] #[]),.t 30,.c (.int .i64 (0))],
 oA 32 (.extract 0) [.t 31],
 oA 33 (.extract 1) [.t 31],
 oA 34 (.extract 2) [.t 31],
 oN (.store 8) [.t 4,.t 32],
 oM 5 33,
 oM 6 34] [4,5,6])
 (.ret))
 (.skip))))))))
 (.seq (cR [oM 36 0,
 oA 37 .call [.c (.func (.func 96) #[] #[]),.t 36],
 oM 35 37,
 oA 38 (.extract 0) [.t 35],
 oA 39 (.extract 1) [.t 35],
 oA 7 (.new 115 8 [(.int .i64 (0)), (.int .i64 (0)), (.int .i64 (0)), (.float .f64 0), (.int .i64 (0)), (.int .i64 (0)), (.int .i64 (0)), (.int .i64 (0))]) [],
 oN (.store 8) [.t 7,.t 38],
 oM 8 39] [1,4,7,8])
 (.seq (cR [oM 41 1,
 oA 42 .call [.c (.func (.func 96) #[] #[]),.t 41],
 oM 40 42,
 oA 43 (.extract 0) [.t 40],
 oA 44 (.extract 1) [.t 40],
 oA 9 (.new 115 8 [(.int .i64 (0)), (.int .i64 (0)), (.int .i64 (0)), (.float .f64 0), (.int .i64 (0)), (.int .i64 (0)), (.int .i64 (0)), (.int .i64 (0))]) [],
 oN (.store 8) [.t 9,.t 43],
 oM 10 44] [4,7,8,9,10])
 (.seq (.block 1 (.seq (cR [oM 46 8,
 oA 47 (.bin .neq) [.t 46,.c (.int .i64 (0))],
 oM 48 47,
 oG (some 49) .move [.t 10] 48 false,
 oG (some 50) (.bin .neq) [.t 49,.c (.int .i64 (0))] 48 false,
 oA 51 .pick [.t 48,.c (.bool true),.t 50],
 oM 45 51] [4,7,9,45])
 (.cond (.t 45) (.seq (cR [oA 52 (.build [(.int .i64 (0)), (.int .i64 (0)), (.int .i64 (0)), (.float .f64 0), (.int .i64 (0)), (.int .i64 (0)), (.int .i64 (0)), (.int .i64 (0))] []) [],
 oN (.store 8) [.t 4,.t 52],
 oA 5 .move [.c (.int .i64 (0))],
 oA 6 .move [.c (.int .i64 (5))]] [4,5,6])
 (.ret))
 (.seq (cR [oA 54 (.fieldAddr 0) [.t 7],
 oA 55 (.load false 1) [.t 54],
 oA 56 (.fieldAddr 0) [.t 9],
 oA 57 (.load false 1) [.t 56],
 oA 58 (.bin .eql) [.t 55,.t 57],
 oM 53 58] [4,7,9,53])
 (.cond (.t 53) (.seq (cR [oA 59 (.build [(.int .i64 (0)), (.int .i64 (0)), (.int .i64 (0)), (.float .f64 0), (.int .i64 (0)), (.int .i64 (0)), (.int .i64 (0)), (.int .i64 (0))] []) [],
 oN (.store 8) [.t 4,.t 59],
 oA 5 .move [.c (.int .i64 (0))],
 oA 6 .move [.c (.int .i64 (4))]] [4,5,6])
 (.ret))
 (.seq (cR [oA 61 (.fieldAddr 0) [.t 7],
 oA 62 (.load false 1) [.t 61],
 oA 63 (.fieldAddr 0) [.t 9],
 oA 64 (.load false 1) [.t 63],
 oA 65 (.bin .gtr) [.t 62,.t 64],
 oM 60 65] [4,7,9,60])
 (.cond (.t 60) (.seq (cR [oA 66 (.load true 8) [.t 7],
 oN (.store 8) [.t 4,.t 66],
 oA 5 .move [.c (.int .i64 (0))],
 oA 6 .move [.c (.int .i64 (0))]] [4,5,6])
 (.ret))
 (.skip))))))))
 (.seq (cR [oA 67 (.load true 8) [.t 9],
 oN (.store 8) [.t 4,.t 67],
 oA 5 .move [.c (.int .i64 (1))],
 oA 6 .move [.c (.int .i64 (0))]] [4,5,6])
 (.ret)))))),
 [.cell 4 true 8, .tmp 5, .tmp 6], none⟩

def f121 : Func := ⟨.seq (cR [oA 3 .move [.c (.int .i64 (0))]] [0,1,2])
 (.seq (cR [oA 5 .call [.c (.func (.func 56) #[] #[]),.c (.int .i64 (0))],
 oM 4 5] [0,1,2,4])
 (.seq (cD [⟨[oA 7 (.load false 1) [.t 0],
 oM 8 4,
 oM 10 4,
 oA 12 (.load false 1) [.t 1],
 oA 13 .nilCheck [.t 12],
 oA 14 (.fieldAddr 1) [.t 13],
 oA 15 (.fieldAddr 4) [.t 14],
 oA 16 (.load true 4) [.t 15]],some (oA 9 .call [.c (.func (.func 59) #[] #[]),.t 8]),[7,12,16],[]⟩,
 ⟨[],some (oA 11 .call [.c (.func (.func 58) #[] #[]),.t 7,.t 9,.t 10,.c (.int .i64 (0))]),[12,16],[]⟩,
 ⟨[],some (oA 17 .call [.c (.func (.func 86) #[] #[]),.t 11,.t 16]),[],[]⟩,
 ⟨[oM 6 17,
 oA 18 (.extract 0) [.t 6],
 oA 19 (.extract 1) [.t 6]],some (oN (.store 1) [.t 2,.t 18]),[],[]⟩,
 ⟨[oM 3 19],none,[],[]⟩] [7,8,9,10,11,12,13,14,15,16,17,6,18,19,3] [3])
 (.seq (cR [oM 20 3,
 oM 3 20] [3])
 (.ret)))),
 [.tmp 3], none⟩

def f122 : Func := ⟨.seq (cR [oA 3 .move [.c (.int .i64 (0))]] [0,1,2])
 (.seq (cD [⟨[oA 5 (.load false 1) [.t 2],
 oA 6 (.load false 1) [.t 2],
 oA 7 (.load false 1) [.t 0],
 oA 8 (.load false 1) [.t 1]],some (oA 9 .call [.c (.func (.func 55) #[] #[]),.t 8]),[5,6,7],[]⟩,
 ⟨[],some (oA 10 .call [.c (.func (.func 123) #[] #[]),.t 7,.t 9]),[5,6],[]⟩,
 ⟨[oM 4 10,
 oA 11 (.extract 0) [.t 4],
 oA 12 (.extract 1) [.t 4],
 oA 13 (.extract 2) [.t 4],
 oA 14 .nilCheck [.t 5],
 oA 15 (.fieldAddr 9) [.t 14]],some (oN (.store 1) [.t 15,.t 11]),[6],[]⟩,
 ⟨[oA 16 .nilCheck [.t 6],
 oA 17 (.fieldAddr 10) [.t 16]],some (oN (.store 1) [.t 17,.t 12]),[],[]⟩,
 ⟨[oM 3 13],none,[],[]⟩] [5,6,7,8,9,10,4,11,12,13,14,15,16,17,3] [3])
 (.seq (cR [oM 18 3,
 oM 3 18] [3])
 (.ret))),
 [.tmp 3], none⟩

def l123_0 : Code :=
 .seq (.seq (cR [oM 38 11,
 oA 39 (.fieldAddr 4) [.t 10],
 oA 40 (.load false 1) [.t 39],
 oA 41 .lenS [.t 40],
 oA 42 (.bin .lss) [.t 38,.t 41],
 oM 43 42,
 oG (some 44) (.fieldAddr 3) [.t 10] 43 true,
 oG (some 45) (.load false 1) [.t 44] 43 true,
 oG (some 46) (.un .not) [.t 45] 43 true,
 oA 47 .pick [.t 43,.t 46,.c (.bool false)]] [7,8,10,11,19,20,21,47])
 (.cond (.t 47) (.skip)
 (.exit 2)))
 (.seq (.block 3 (cR [oM 50 8,
 oA 51 (.fieldAddr 0) [.t 10],
 oA 52 (.fieldAddr 0) [.t 51],
 oA 53 (.load false 1) [.t 52],
 oA 54 .call [.c (.func (.func 157) #[] #[]),.t 50,.t 53]] [7,8,10,11,19,20,21]))
 (cR [oM 48 11,
 oA 49 (.bin .add) [.t 48,.c (.int .i64 (1))],
 oM 11 49] [7,8,10,11,19,20,21]))
def l123_1 : Code :=
 .seq (cR [oA 22 (.bin .lss) [.t 21,.t 20]] [7,8,19,20,21,22])
 (.seq (.cond (.t 22) (.skip)
 (.exit 0))
 (.seq (.block 1 (.seq (cR [oA 23 (.idxAddr 5) [.t 19,.t 21],
 oA 24 (.load true 5) [.t 23],
 oA 10 (.new 104 5 [(.int .i64 (0)), (.int .i64 (0)), (.int .i64 (0)), (.bool false), (.slice none 0 0)]) [],
 oN (.store 5) [.t 10,.t 24]] [7,8,10,19,20,21])
 (.seq (.seq (cR [oM 25 7,
 oA 26 (.fieldAddr 0) [.t 10],
 oA 27 (.fieldAddr 0) [.t 26],
 oA 28 (.load false 1) [.t 27],
 oA 29 (.fieldAddr 0) [.t 10],
 oA 30 (.fieldAddr 1) [.t 29],
 oA 31 (.load false 1) [.t 30],
 oA 32 .call [.c (.func (.func 57) #[] #[]),.t 25,.t 28,.t 31],
 oA 33 (.un .not) [.t 32]] [7,8,10,19,20,21,33])
 (.cond (.t 33) (.seq (cR [oA 4 .move [.c (.pointer none)],
 oA 5 .move [.c (.pointer none)],
 oA 6 .move [.c (.int .i64 (4))]] [4,5,6])
 (.ret))
 (.skip)))
 (.seq (cR [oM 34 8,
 oA 35 (.fieldAddr 0) [.t 10],
 oA 36 (.load true 2) [.t 35],
 oA 37 .call [.c (.func (.func 131) #[] #[]),.t 34,.t 36]] [7,8,10,19,20,21])
 (.seq (cR [oA 11 .move [.c (.int .i64 (1))]] [7,8,10,11,19,20,21])
 (.block 2 (.loop [7,8,10,11,19,20,21] l123_0)))))))
 (cR [oA 55 (.bin .add) [.t 21,.c (.int .i64 (1))],
 oM 21 55] [7,8,19,20,21])))
def f123 : Func := ⟨.seq (cR [oA 4 .move [.c (.pointer none)],
 oA 5 .move [.c (.pointer none)],
 oA 6 .move [.c (.int .i64 (0))]] [0,1])
 (.seq (cR [oM 12 1,
 oA 13 .call [.c (.func (.func 56) #[] #[]),.t 12],
 oM 7 13] [0,7])
 (.seq (cR [oM 14 7,
 oA 15 .call [.c (.func (.func 59) #[] #[]),.t 14],
 oM 8 15] [0,7,8])
 (.seq (.seq (cR [oM 16 7,
 oA 17 .call [.c (.func (.func 57) #[] #[]),.t 16,.c (.int .i64 (0)),.c (.int .i64 (2))],
 oA 18 (.un .not) [.t 17]] [0,7,8,18])
 (.cond (.t 18) (.seq (cR [oA 4 .move [.c (.pointer none)],
 oA 5 .move [.c (.pointer none)],
 oA 6 .move [.c (.int .i64 (4))]] [4,5,6])
 (.ret))
 (.skip)))
 (.seq (.seq (cR [oM 19 0,
 oA 20 .lenS [.t 19],
 oA 21 .move [.c (.int .i64 (0))]] [7,8,19,20,21])
 (.block 0 (.loop [7,8,19,20,21] l123_1)))
 (.seq (cR [oM 56 8,
 oA 57 .call [.c (.func (.func 89) #[] #[]),.t 56]] [7,8])
 (.seq (cR [oM 58 7,
 oM 59 8,
 oM 4 58,
 oM 5 59,
 oA 6 .move [.c (.int .i64 (0))]] [4,5,6])
 (.ret))))))),
 [.tmp 4, .tmp 5, .tmp 6], none⟩

def f124 : Func := ⟨.seq (cR [oA 4 .move [.c (.int .i64 (0))],
 oA 5 .move [.c (.slice none 0 0)]] [0,1])
 (.seq (.seq (cR [oM 9 0,
 oA 10 .lenS [.t 9],
 oA 11 (.bin .gtr) [.t 10,.c (.int .i64 (4096))]] [0,1,11])
 (.cond (.t 11) (.seq (cR [oA 4 .move [.c (.int .i64 (0))],
 oA 5 .move [.c (.slice none 0 0)]] [4,5])
 (.ret))
 (.skip)))
 (.seq (cR [oM 12 0,
 oA 13 .call [.c (.func (.func 186) #[] #[]),.t 12],
 oM 6 13] [0,1,6])
 (.seq (.seq (cR [oM 14 6,
 oA 15 .lenS [.t 14],
 oM 7 15] [0,1,6,7])
 (.seq (cR [oM 16 7,
 oA 17 (.bin .leq) [.t 16,.c (.int .i64 (4096))]] [0,1,6,7,17])
 (.cond (.t 17) (.seq (cR [oM 18 7,
 oA 19 (.toInt .u8) [.t 18],
 oM 20 7,
 oA 21 (.bin .shr) [.t 20,.c (.int .u64 (8))],
 oA 22 (.toInt .u8) [.t 21],
 oA 23 (.buildSlice 5 1 2 [(.int .u8 (0)), (.int .u8 (0))] [(0, 1), (1, 1)]) [.t 19,.t 22],
 oM 24 6,
 oA 25 .call [.c (.func (.func 187) #[] #[]),.t 24],
 oA 26 (.append 5 1 1) [.t 23,.t 25],
 oM 8 26] [0,1,6,7,8])
 (.seq (cR [oM 27 8,
 oA 28 .lenS [.t 27],
 oM 29 7,
 oA 30 (.bin .lss) [.t 28,.t 29],
 oM 31 30,
 oG (some 32) .move [.t 1] 31 true,
 oG (some 33) .move [.t 8] 31 true,
 oG (some 34) .lenS [.t 33] 31 true,
 oG (some 35) .move [.t 0] 31 true,
 oG (some 36) .lenS [.t 35] 31 true,
 oG (some 37) .call [.c (.func (.func 188) #[] #[]),.t 32,.t 34,.t 36] 31 true,
 oA 38 .pick [.t 31,.t 37,.c (.bool false)]] [0,1,6,8,38])
 (.cond (.t 38) (.seq (cR [oM 39 8,
 oA 4 .move [.c (.int .i64 (2))],
 oM 5 39] [4,5])
 (.ret))
 (.skip))))
 (.skip))))
 (.seq (.seq (cR [oM 40 1,
 oM 41 6,
 oA 42 .lenS [.t 41],
 oM 43 0,
 oA 44 .lenS [.t 43],
 oA 45 .call [.c (.func (.func 188) #[] #[]),.t 40,.t 42,.t 44]] [0,6,45])
 (.cond (.t 45) (.seq (cR [oM 46 6,
 oA 4 .move [.c (.int .i64 (1))],
 oM 5 46] [4,5])
 (.ret))
 (.skip)))
 (.seq (cR [oM 47 0,
 oA 48 .call [.c (.func (.func 50) #[] #[]),.t 47],
 oA 4 .move [.c (.int .i64 (0))],
 oM 5 48] [4,5])
 (.ret)))))),
 [.tmp 4, .tmp 5], none⟩

def l125_0 : Code :=
 .seq (cR [oA 45 (.bin .lss) [.t 44,.t 43]] [0,1,5,42,43,44,45])
 (.seq (.cond (.t 45) (.skip)
 (.exit 0))
 (.seq (.block 1 (.seq (cR [oA 46 (.idxAddr 1) [.t 42,.t 44],
 oA 47 (.load false 1) [.t 46],
 oM 7 47] [0,1,5,7,42,43,44])
 (.seq (.seq (cR [oM 48 7,
 oA 49 .lenS [.t 48],
 oM 50 5,
 oA 51 (.bin .sub) [.c (.int .i64 (9223372036854775807)),.t 50],
 oA 52 (.bin .gtr) [.t 49,.t 51]] [0,1,5,7,42,43,44,52])
 (.cond (.t 52) (cR [oA 53 (.iface 9) [.c (.string ⟨⟨[98, 121, 116, 101, 115, 58, 32, 74, 111, 105, 110, 32, 111, 117, 116, 112, 117, 116, 32, 108, 101, 110, 103, 116, 104, 32, 111, 118, 101, 114, 102, 108, 111, 119]⟩⟩)],
 oN .panic [.t 53]] [0,1,5,7,42,43,44])
 (.skip)))
 (cR [oM 54 5,
 oM 55 7,
 oA 56 .lenS [.t 55],
 oA 57 (.bin .add) [.t 54,.t 56],
 oM 5 57] [0,1,5,42,43,44]))))
 (cR [oA 58 (.bin .add) [.t 44,.c (.int .i64 (1))],
 oM 44 58] [0,1,5,42,43,44])))
def l125_1 : Code :=
 .seq (cR [oA 73 (.bin .lss) [.t 72,.t 71]] [1,8,9,70,71,72,73])
 (.seq (.cond (.t 73) (.skip)
 (.exit 2))
 (.seq (.block 3 (.seq (cR [oA 74 (.idxAddr 1) [.t 70,.t 72],
 oA 75 (.load false 1) [.t 74],
 oM 11 75] [1,8,9,11,70,71,72])
 (.seq (cR [oM 76 9,
 oM 77 8,
 oM 78 9,
 oA 79 (.slice 1 true false false) [.t 77,.t 78],
 oM 80 1,
 oA 81 (.copy 1) [.t 79,.t 80],
 oA 82 (.bin .add) [.t 76,.t 81],
 oM 9 82] [1,8,9,11,70,71,72])
 (cR [oM 83 9,
 oM 84 8,
 oM 85 9,
 oA 86 (.slice 1 true false false) [.t 84,.t 85],
 oM 87 11,
 oA 88 (.copy 1) [.t 86,.t 87],
 oA 89 (.bin .add) [.t 83,.t 88],
 oM 9 89] [1,8,9,70,71,72]))))
 (cR [oA 90 (.bin .add) [.t 72,.c (.int .i64 (1))],
 oM 72 90] [1,8,9,70,71,72])))
def f125 : Func := ⟨.seq (cR [oA 4 .move [.c (.slice none 0 0)]] [0,1])
 (.seq (.seq (cR [oM 12 0,
 oA 13 .lenS [.t 12],
 oA 14 (.bin .eql) [.t 13,.c (.int .i64 (0))]] [0,1,14])
 (.cond (.t 14) (.seq (cR [oA 15 (.buildSlice 5 1 0 [] []) [],
 oM 4 15] [4])
 (.ret))
 (.skip)))
 (.seq (.seq (cR [oM 16 0,
 oA 17 .lenS [.t 16],
 oA 18 (.bin .eql) [.t 17,.c (.int .i64 (1))]] [0,1,18])
 (.cond (.t 18) (.seq (cR [oM 19 0,
 oA 20 (.idxAddr 1) [.t 19,.c (.int .i64 (0))],
 oA 21 (.load false 1) [.t 20],
 oA 22 (.append 5 1 1) [.c (.slice none 0 0),.t 21],
 oM 4 22] [4])
 (.ret))
 (.skip)))
 (.seq (cR [oA 5 .move [.c (.int .i64 (0))]] [0,1,5])
 (.seq (.seq (cR [oM 23 1,
 oA 24 .lenS [.t 23],
 oA 25 (.bin .gtr) [.t 24,.c (.int .i64 (0))]] [0,1,5,25])
 (.cond (.t 25) (.seq (.seq (cR [oM 26 1,
 oA 27 .lenS [.t 26],
 oM 28 0,
 oA 29 .lenS [.t 28],
 oA 30 (.bin .sub) [.t 29,.c (.int .i64 (1))],
 oA 31 (.bin .quo) [.c (.int .i64 (9223372036854775807)),.t 30],
 oA 32 (.bin .geq) [.t 27,.t 31]] [0,1,5,32])
 (.cond (.t 32) (cR [oA 33 (.iface 9) [.c (.string ⟨⟨[98, 121, 116, 101, 115, 58, 32, 74, 111, 105, 110, 32, 111, 117, 116, 112, 117, 116, 32, 108, 101, 110, 103, 116, 104, 32, 111, 118, 101, 114, 102, 108, 111, 119]⟩⟩)],
 oN .panic [.t 33]] [0,1,5])
 (.skip)))
 (cR [oM 34 5,
 oM 35 1,
 oA 36 .lenS [.t 35],
 oM 37 0,
 oA 38 .lenS [.t 37],
 oA 39 (.bin .sub) [.t 38,.c (.int .i64 (1))],
 oA 40 (.bin .mul) [.t 36,.t 39],
 oA 41 (.bin .add) [.t 34,.t 40],
 oM 5 41] [0,1,5]))
 (.skip)))
 (.seq (.seq (cR [oM 42 0,
 oA 43 .lenS [.t 42],
 oA 44 .move [.c (.int .i64 (0))]] [0,1,5,42,43,44])
 (.block 0 (.loop [0,1,5,42,43,44] l125_0)))
 (.seq (cR [oM 59 5,
 oA 60 .overlaps [.t 59],
 oM 61 5,
 oM 62 5,
 oA 63 (.slice 1 false true true) [.t 60,.t 61,.t 62],
 oM 8 63] [0,1,8])
 (.seq (cR [oM 64 8,
 oM 65 0,
 oA 66 (.idxAddr 1) [.t 65,.c (.int .i64 (0))],
 oA 67 (.load false 1) [.t 66],
 oA 68 (.copy 1) [.t 64,.t 67],
 oM 9 68] [0,1,8,9])
 (.seq (.seq (cR [oM 69 0,
 oA 70 (.slice 1 true false false) [.t 69,.c (.int .i64 (1))],
 oA 71 .lenS [.t 70],
 oA 72 .move [.c (.int .i64 (0))]] [1,8,9,70,71,72])
 (.block 2 (.loop [1,8,9,70,71,72] l125_1)))
 (.seq (cR [oM 91 8,
 oM 4 91] [4])
 (.ret)))))))))),
 [.tmp 4], none⟩

def l126_0 : Code :=
 .seq (.seq (cR [oM 13 1,
 oA 14 (.bin .geq) [.t 13,.c (.int .i64 (128))]] [0,1,14])
 (.cond (.t 14) (.skip)
 (.exit 0)))
 (.block 1 (.seq (cR [oM 15 0,
 oM 16 0,
 oA 17 .nilCheck [.t 16],
 oA 18 (.fieldAddr 0) [.t 17],
 oA 19 (.load false 1) [.t 18],
 oM 20 1,
 oA 21 (.toInt .u8) [.t 20],
 oA 22 (.bin .or) [.t 21,.c (.int .u8 (128))],
 oA 23 (.buildSlice 5 1 1 [(.int .u8 (0))] [(0, 1)]) [.t 22],
 oA 24 (.append 5 1 1) [.t 19,.t 23],
 oA 25 .nilCheck [.t 15],
 oA 26 (.fieldAddr 0) [.t 25],
 oN (.store 1) [.t 26,.t 24]] [0,1])
 (cR [oM 27 1,
 oA 28 (.bin .shr) [.t 27,.c (.int .u64 (7))],
 oM 1 28] [0,1])))
def f126 : Func := ⟨.seq (.seq (cR [oM 4 1,
 oA 5 (.bin .lss) [.t 4,.c (.int .i64 (0))],
 oM 6 5,
 oG (some 7) .move [.t 1] 6 false,
 oG (some 8) (.bin .geq) [.t 7,.c (.int .i64 (268435456))] 6 false,
 oA 9 .pick [.t 6,.c (.bool true),.t 8]] [0,1,9])
 (.cond (.t 9) (cR [oA 10 (.iface 9) [.c (.string ⟨⟨[99, 101, 108, 108, 58, 32, 97, 32, 110, 117, 109, 98, 101, 114, 32, 116, 104, 97, 116, 32, 109, 97, 121, 32, 110, 111, 116, 32, 98, 101]⟩⟩)],
 oN .panic [.t 10]] [0,1])
 (.skip)))
 (.seq (.seq (cR [oM 11 0,
 oA 12 (.isNil .ptr false) [.t 11]] [0,1,12])
 (.cond (.t 12) (.ret)
 (.skip)))
 (.seq (.block 0 (.loop [0,1] l126_0))
 (cR [oM 29 0,
 oM 30 0,
 oA 31 .nilCheck [.t 30],
 oA 32 (.fieldAddr 0) [.t 31],
 oA 33 (.load false 1) [.t 32],
 oM 34 1,
 oA 35 (.toInt .u8) [.t 34],
 oA 36 (.buildSlice 5 1 1 [(.int .u8 (0))] [(0, 1)]) [.t 35],
 oA 37 (.append 5 1 1) [.t 33,.t 36],
 oA 38 .nilCheck [.t 29],
 oA 39 (.fieldAddr 0) [.t 38],
 oN (.store 1) [.t 39,.t 37]] []))),
 [], none⟩

def f127 : Func := ⟨.seq (cR [oM 4 0,
 oM 5 1,
 oA 6 .lenS [.t 5],
 oA 7 .call [.c (.func (.func 126) #[] #[]),.t 4,.t 6]] [0,1])
 (.seq (cR [oM 8 0,
 oA 9 (.isNil .ptr true) [.t 8]] [0,1,9])
 (.cond (.t 9) (cR [oM 10 0,
 oM 11 0,
 oA 12 .nilCheck [.t 11],
 oA 13 (.fieldAddr 0) [.t 12],
 oA 14 (.load false 1) [.t 13],
 oM 15 1,
 oA 16 (.append 5 1 1) [.t 14,.t 15],
 oA 17 .nilCheck [.t 10],
 oA 18 (.fieldAddr 0) [.t 17],
 oN (.store 1) [.t 18,.t 16]] [])
 (.skip))),
 [], none⟩

def f128 : Func := ⟨.seq (cR [oA 6 .move [.c (.slice none 0 0)],
 oA 7 .move [.c (.int .i64 (0))]] [0,1,2])
 (.seq (.block 0 (.seq (cR [oM 10 1,
 oA 11 (.bin .lss) [.t 10,.c (.int .i64 (0))],
 oM 12 11,
 oG (some 13) .move [.t 1] 12 false,
 oG (some 14) (.bin .gtr) [.t 13,.c (.int .i64 (2147483647))] 12 false,
 oA 15 .pick [.t 12,.c (.bool true),.t 14],
 oM 9 15] [0,1,2,9])
 (.cond (.t 9) (.seq (cR [oA 6 .move [.c (.slice none 0 0)],
 oA 7 .move [.c (.int .i64 (1))]] [6,7])
 (.ret))
 (.seq (cR [oM 17 2,
 oA 18 .lenS [.t 17],
 oA 19 (.bin .gtr) [.t 18,.c (.int .i64 (4096))],
 oM 16 19] [0,1,2,16])
 (.cond (.t 16) (.seq (cR [oA 6 .move [.c (.slice none 0 0)],
 oA 7 .move [.c (.int .i64 (3))]] [6,7])
 (.ret))
 (.skip))))))
 (.seq (cR [oM 20 2,
 oA 21 .lenS [.t 20],
 oA 22 .call [.c (.func (.func 170) #[] #[]),.t 21],
 oA 23 (.bin .mul) [.c (.int .i64 (64)),.t 22],
 oA 24 (.newSlice 5 1 1 [(.int .u8 (0))]) [.t 23,.t 23],
 oM 8 24] [0,1,2,8])
 (.seq (cR [oM 25 8,
 oM 26 8,
 oM 27 8,
 oM 28 0,
 oA 29 (.idxAddr 1) [.t 25,.c (.int .i64 (0))],
 oN (.store 1) [.t 29,.c (.int .u8 (197))],
 oA 30 (.idxAddr 1) [.t 26,.c (.int .i64 (1))],
 oN (.store 1) [.t 30,.c (.int .u8 (126))],
 oA 31 (.idxAddr 1) [.t 27,.c (.int .i64 (2))],
 oN (.store 1) [.t 31,.t 28]] [1,2,8])
 (.seq (cR [oM 32 8,
 oA 33 (.slice 1 true false false) [.t 32,.c (.int .i64 (4))],
 oM 34 1,
 oA 35 (.toInt .u32) [.t 34],
 oA 36 .call [.c (.func (.func 190) #[] #[]),.t 33,.t 35]] [2,8])
 (.seq (cR [oM 37 8,
 oA 38 (.slice 1 true false false) [.t 37,.c (.int .i64 (8))],
 oM 39 2,
 oA 40 .lenS [.t 39],
 oA 41 (.toInt .u32) [.t 40],
 oA 42 .call [.c (.func (.func 190) #[] #[]),.t 38,.t 41]] [2,8])
 (.seq (cD [⟨[oM 43 8,
 oA 44 (.slice 1 true false false) [.t 43,.c (.int .i64 (12))],
 oM 45 8,
 oM 46 2],some (oA 47 .call [.c (.func (.func 172) #[] #[]),.t 45,.t 46]),[],[]⟩,
 ⟨[],some (oA 48 .call [.c (.func (.func 190) #[] #[]),.t 44,.t 47]),[],[]⟩] [43,44,45,46,47,48] [2,8])
 (.seq (cR [oM 49 8,
 oA 50 (.slice 1 true false false) [.t 49,.c (.int .i64 (16))],
 oM 51 2,
 oA 52 (.copy 1) [.t 50,.t 51]] [8])
 (.seq (cR [oM 53 8,
 oM 6 53,
 oA 7 .move [.c (.int .i64 (0))]] [6,7])
 (.ret))))))))),
 [.tmp 6, .tmp 7], none⟩

def f129 : Func := ⟨.seq (cR [oA 2 .move [.c (.slice none 0 0)]] [0])
 (.seq (.seq (cR [oM 3 0,
 oA 4 (.isNil .ptr false) [.t 3]] [0,4])
 (.cond (.t 4) (.seq (cR [oA 2 .move [.c (.slice none 0 0)]] [2])
 (.ret))
 (.skip)))
 (.seq (cR [oM 5 0,
 oA 6 .nilCheck [.t 5],
 oA 7 (.fieldAddr 0) [.t 6],
 oA 8 (.load false 1) [.t 7],
 oA 9 .call [.c (.func (.func 50) #[] #[]),.t 8],
 oM 2 9] [2])
 (.ret))),
 [.tmp 2], none⟩

def l130_0 : Code :=
 .seq (cR [oA 20 (.bin .lss) [.t 19,.t 18]] [0,1,17,18,19,20])
 (.seq (.cond (.t 20) (.skip)
 (.exit 0))
 (.seq (.block 1 (.seq (cR [oM 21 19,
 oA 22 (.idxAddr 2) [.t 17,.t 19],
 oA 23 (.load true 2) [.t 22],
 oA 7 (.new 102 2 [(.int .i64 (0)), (.int .i64 (0))]) [],
 oM 6 21,
 oN (.store 2) [.t 7,.t 23]] [0,1,6,7,17,18,19])
 (.seq (cR [oA 24 (.fieldAddr 1) [.t 7],
 oA 25 (.load false 1) [.t 24],
 oM 26 1,
 oA 27 (.bin .geq) [.t 25,.t 26]] [0,1,6,7,17,18,19,27])
 (.cond (.t 27) (.seq (cR [oM 28 0,
 oM 29 6,
 oA 30 (.fieldAddr 0) [.t 7],
 oA 31 (.load false 1) [.t 30],
 oM 32 1,
 oA 33 (.bin .add) [.t 31,.t 32],
 oA 34 (.fieldAddr 1) [.t 7],
 oA 35 (.load false 1) [.t 34],
 oM 36 1,
 oA 37 (.bin .sub) [.t 35,.t 36],
 oA 38 (.build [(.int .i64 (0)), (.int .i64 (0))] [(0, 1), (1, 1)]) [.t 33,.t 37],
 oA 39 (.buildSlice 102 2 1 [(.int .i64 (0)), (.int .i64 (0))] [(0, 2)]) [.t 38],
 oA 40 .call [.c (.func (.func 109) #[] #[]),.t 28,.t 29,.t 39]] [7])
 (.seq (cR [oA 41 (.fieldAddr 0) [.t 7],
 oA 42 (.load false 1) [.t 41],
 oM 4 42,
 oA 5 .move [.c (.bool true)]] [4,5])
 (.ret)))
 (.skip)))))
 (cR [oA 43 (.bin .add) [.t 19,.c (.int .i64 (1))],
 oM 19 43] [0,1,17,18,19])))
def f130 : Func := ⟨.seq (cR [oA 4 .move [.c (.int .i64 (0))],
 oA 5 .move [.c (.bool false)]] [0,1])
 (.seq (.seq (cR [oM 8 0,
 oA 9 (.isNil .ptr false) [.t 8],
 oM 10 9,
 oG (some 11) .move [.t 1] 10 false,
 oG (some 12) (.bin .lss) [.t 11,.c (.int .i64 (1))] 10 false,
 oA 13 .pick [.t 10,.c (.bool true),.t 12]] [0,1,13])
 (.cond (.t 13) (.seq (cR [oA 4 .move [.c (.int .i64 (0))],
 oA 5 .move [.c (.bool false)]] [4,5])
 (.ret))
 (.skip)))
 (.seq (.seq (cR [oM 14 0,
 oA 15 .nilCheck [.t 14],
 oA 16 (.fieldAddr 1) [.t 15],
 oA 17 (.load false 1) [.t 16],
 oA 18 .lenS [.t 17],
 oA 19 .move [.c (.int .i64 (0))]] [0,1,17,18,19])
 (.block 0 (.loop [0,1,17,18,19] l130_0)))
 (.seq (cR [oA 4 .move [.c (.int .i64 (0))],
 oA 5 .move [.c (.bool false)]] [4,5])
 (.ret)))),
 [.tmp 4, .tmp 5], none⟩

def f131 : Func := ⟨.seq (cR [oA 3 (.box 102 2) [.t 1],
 oA 4 .move [.c (.bool false)]] [0,3])
 (.seq (.seq (cD [⟨[oM 5 0],some (oA 6 .call [.c (.func (.func 134) #[] #[]),.t 5]),[],[]⟩,
 ⟨[oA 7 (.un .not) [.t 6],
 oM 8 7,
 oG (some 9) (.fieldAddr 1) [.t 3] 8 false,
 oG (some 10) (.load false 1) [.t 9] 8 false,
 oG (some 11) (.bin .lss) [.t 10,.c (.int .i64 (1))] 8 false,
 oA 12 .pick [.t 8,.c (.bool true),.t 11],
 oM 13 12,
 oG (some 14) (.fieldAddr 0) [.t 3] 13 false,
 oG (some 15) (.load false 1) [.t 14] 13 false,
 oG (some 16) (.bin .lss) [.t 15,.c (.int .i64 (0))] 13 false,
 oA 17 .pick [.t 13,.c (.bool true),.t 16],
 oM 18 17,
 oG (some 19) .move [.t 0] 18 false,
 oG (some 20) .nilCheck [.t 19] 18 false,
 oG (some 21) (.fieldAddr 2) [.t 20] 18 false,
 oG (some 22) (.load false 1) [.t 21] 18 false,
 oG (some 23) (.fieldAddr 0) [.t 3] 18 false,
 oG (some 24) (.load false 1) [.t 23] 18 false,
 oG (some 25) (.lookup none (.agg #[(.int .i64 (0)), (.int .i64 (0)), (.int .i64 (0))]) false) [.t 22,.t 24] 18 false,
 oG (some 26) (.field 2 false 1) [.t 25] 18 false,
 oG (some 27) (.bin .gtr) [.t 26,.c (.int .i64 (0))] 18 false,
 oA 28 .pick [.t 18,.c (.bool true),.t 27],
 oM 29 28,
 oG (some 30) .move [.t 0] 29 false,
 oG (some 31) .nilCheck [.t 30] 29 false,
 oG (some 32) (.fieldAddr 1) [.t 31] 29 false,
 oG (some 33) (.load false 1) [.t 32] 29 false,
 oG (some 34) (.fieldAddr 0) [.t 3] 29 false,
 oG (some 35) (.load false 1) [.t 34] 29 false,
 oG (some 36) (.lookup none (.agg #[(.int .i64 (0)), (.int .i64 (0)), (.int .i64 (0))]) false) [.t 33,.t 35] 29 false,
 oG (some 37) (.field 2 false 1) [.t 36] 29 false,
 oG (some 38) (.bin .gtr) [.t 37,.c (.int .i64 (0))] 29 false,
 oA 39 .pick [.t 29,.c (.bool true),.t 38]],none,[],[]⟩] [5,6,7,8,9,10,11,12,13,14,15,16,17,18,19,20,21,22,23,24,25,26,27,28,29,30,31,32,33,34,35,36,37,38,39] [0,3,39])
 (.cond (.t 39) (.seq (cR [oA 4 .move [.c (.bool false)]] [4])
 (.ret))
 (.skip)))
 (.seq (cD [⟨[oM 40 0,
 oA 41 .nilCheck [.t 40],
 oA 42 (.fieldAddr 1) [.t 41],
 oA 43 (.load false 1) [.t 42],
 oA 44 (.fieldAddr 0) [.t 3],
 oA 45 (.load false 1) [.t 44],
 oA 46 (.load true 2) [.t 3],
 oA 47 (.build [(.int .i64 (0)), (.int .i64 (0)), (.int .i64 (0))] [(0, 2), (2, 1)]) [.t 46,.c (.int .i64 (1))]],some (oN (.mapSet none) [.t 43,.t 45,.t 47]),[],[]⟩] [40,41,42,43,44,45,46,47] [0,3])
 (.seq (cD [⟨[oM 48 0,
 oM 49 0,
 oA 50 .nilCheck [.t 49],
 oA 51 (.fieldAddr 4) [.t 50],
 oA 52 (.load false 1) [.t 51],
 oA 53 (.load true 2) [.t 3]],some (oA 54 (.buildSlice 102 2 1 [(.int .i64 (0)), (.int .i64 (0))] [(0, 2)]) [.t 53]),[52],[]⟩,
 ⟨[],some (oA 55 (.append 102 2 16) [.t 52,.t 54]),[],[]⟩,
 ⟨[oA 56 .nilCheck [.t 48],
 oA 57 (.fieldAddr 4) [.t 56]],some (oN (.store 1) [.t 57,.t 55]),[],[]⟩] [48,49,50,51,52,53,54,55,56,57] [])
 (.seq (cR [oA 4 .move [.c (.bool true)]] [4])
 (.ret))))),
 [.tmp 4], none⟩

def f132 : Func := ⟨.seq (cR [oA 2 .move [.c (.slice none 0 0)]] [0])
 (.seq (cR [oM 4 0,
 oA 5 .call [.c (.func (.func 191) #[] #[]),.t 4],
 oM 3 5] [3])
 (.seq (cR [oM 6 3,
 oA 7 .call [.c (.func (.func 192) #[] #[]),.t 6]] [3])
 (.seq (cR [oM 8 3,
 oM 2 8] [2])
 (.ret)))),
 [.tmp 2], none⟩

def f133 : Func := ⟨.seq (cR [oA 1 (.box 124 1) [.t 0],
 oA 2 .move [.c .nilFunc]] [1])
 (.seq (cR [oA 3 (.func 193 0) [.t 1],
 oM 2 3] [2])
 (.ret)),
 [.tmp 2], none⟩

def f134 : Func := ⟨.seq (cR [oA 2 .move [.c (.bool false)]] [0])
 (.seq (cR [oM 3 0,
 oA 4 (.isNil .ptr true) [.t 3],
 oM 5 4,
 oG (some 6) .move [.t 0] 5 true,
 oG (some 7) .nilCheck [.t 6] 5 true,
 oG (some 8) (.fieldAddr 0) [.t 7] 5 true,
 oG (some 9) (.load false 1) [.t 8] 5 true,
 oG (some 10) (.isNil .ptr true) [.t 9] 5 true,
 oA 11 .pick [.t 5,.t 10,.c (.bool false)],
 oM 2 11] [2])
 (.ret)),
 [.tmp 2], none⟩

def l135_0 : Code :=
 .seq (.seq (cR [oM 16 7,
 oM 17 0,
 oA 18 .nilCheck [.t 17],
 oA 19 (.fieldAddr 1) [.t 18],
 oA 20 (.load false 1) [.t 19],
 oA 21 .lenS [.t 20],
 oA 22 (.bin .lss) [.t 16,.t 21],
 oM 23 22,
 oG (some 24) .move [.t 0] 23 true,
 oG (some 25) .nilCheck [.t 24] 23 true,
 oG (some 26) (.fieldAddr 1) [.t 25] 23 true,
 oG (some 27) (.load false 1) [.t 26] 23 true,
 oG (some 28) .move [.t 7] 23 true,
 oG (some 29) (.idxAddr 2) [.t 27,.t 28] 23 true,
 oG (some 30) (.fieldAddr 0) [.t 29] 23 true,
 oG (some 31) (.load false 1) [.t 30] 23 true,
 oG (some 32) .move [.t 1] 23 true,
 oG (some 33) (.bin .lss) [.t 31,.t 32] 23 true,
 oA 34 .pick [.t 23,.t 33,.c (.bool false)]] [0,1,2,7,34])
 (.cond (.t 34) (.skip)
 (.exit 0)))
 (.block 1 (cR [oM 35 7,
 oA 36 (.bin .add) [.t 35,.c (.int .i64 (1))],
 oM 7 36] [0,1,2,7]))
def f135 : Func := ⟨.seq (cR [oA 6 .move [.c (.bool false)]] [0,1,2])
 (.seq (.seq (cR [oM 11 0,
 oM 12 1,
 oM 13 2,
 oA 14 .call [.c (.func (.func 108) #[] #[]),.t 11,.t 12,.t 13],
 oA 15 (.un .not) [.t 14]] [0,1,2,15])
 (.cond (.t 15) (.seq (cR [oA 6 .move [.c (.bool false)]] [6])
 (.ret))
 (.skip)))
 (.seq (cR [oA 7 .move [.c (.int .i64 (0))]] [0,1,2,7])
 (.seq (.block 0 (.loop [0,1,2,7] l135_0))
 (.seq (.seq (cD [⟨[oM 37 7,
 oA 38 (.bin .gtr) [.t 37,.c (.int .i64 (0))],
 oM 39 38,
 oG (some 40) .move [.t 0] 39 true,
 oG (some 41) .nilCheck [.t 40] 39 true,
 oG (some 42) (.fieldAddr 1) [.t 41] 39 true,
 oG (some 43) (.load false 1) [.t 42] 39 true,
 oG (some 44) .move [.t 7] 39 true,
 oG (some 45) (.bin .sub) [.t 44,.c (.int .i64 (1))] 39 true,
 oG (some 46) (.idxAddr 2) [.t 43,.t 45] 39 true,
 oG (some 47) (.fieldAddr 0) [.t 46] 39 true,
 oG (some 48) (.load false 1) [.t 47] 39 true,
 oG (some 49) .move [.t 0] 39 true,
 oG (some 50) .nilCheck [.t 49] 39 true,
 oG (some 51) (.fieldAddr 1) [.t 50] 39 true,
 oG (some 52) (.load false 1) [.t 51] 39 true,
 oG (some 53) .move [.t 7] 39 true,
 oG (some 54) (.bin .sub) [.t 53,.c (.int .i64 (1))] 39 true,
 oG (some 55) (.idxAddr 2) [.t 52,.t 54] 39 true,
 oG (some 56) (.fieldAddr 1) [.t 55] 39 true,
 oG (some 57) (.load false 1) [.t 56] 39 true,
 oG (some 58) (.bin .add) [.t 48,.t 57] 39 true,
 oG (some 59) .move [.t 1] 39 true,
 oG (some 60) (.bin .gtr) [.t 58,.t 59] 39 true,
 oA 61 .pick [.t 39,.t 60,.c (.bool false)],
 oM 62 61,
 oG (some 63) .move [.t 7] 62 false,
 oG (some 64) .move [.t 0] 62 false,
 oG (some 65) .nilCheck [.t 64] 62 false,
 oG (some 66) (.fieldAddr 1) [.t 65] 62 false,
 oG (some 67) (.load false 1) [.t 66] 62 false,
 oG (some 68) .lenS [.t 67] 62 false,
 oG (some 69) (.bin .lss) [.t 63,.t 68] 62 false,
 oG (some 70) .move [.t 69] 62 false,
 oG (some 71) .move [.t 1] 70 true,
 oG (some 72) .move [.t 2] 70 true,
 oG (some 73) (.bin .add) [.t 71,.t 72] 70 true,
 oG (some 74) .move [.t 0] 70 true,
 oG (some 75) .nilCheck [.t 74] 70 true,
 oG (some 76) (.fieldAddr 1) [.t 75] 70 true,
 oG (some 77) (.load false 1) [.t 76] 70 true,
 oG (some 78) .move [.t 7] 70 true,
 oG (some 79) (.idxAddr 2) [.t 77,.t 78] 70 true,
 oG (some 80) (.fieldAddr 0) [.t 79] 70 true,
 oG (some 81) (.load false 1) [.t 80] 70 true,
 oG (some 82) (.bin .gtr) [.t 73,.t 81] 70 true,
 oG (some 83) .pick [.t 70,.t 82,.c (.bool false)] 62 false,
 oA 84 .pick [.t 62,.c (.bool true),.t 83]],none,[],[]⟩] [37,38,39,40,41,42,43,44,45,46,47,48,49,50,51,52,53,54,55,56,57,58,59,60,61,62,63,64,65,66,67,68,69,70,71,72,73,74,75,76,77,78,79,80,81,82,83,84] [0,1,2,7,84])
 (.cond (.t 84) (.seq (cR [oA 6 .move [.c (.bool false)]] [6])
 (.ret))
 (.skip)))
 (.seq (cR [oM 85 1,
 oM 86 2,
 oA 87 (.build [(.int .i64 (0)), (.int .i64 (0))] [(0, 1), (1, 1)]) [.t 85,.t 86],
 oA 8 (.new 102 2 [(.int .i64 (0)), (.int .i64 (0))]) [],
 oN (.store 2) [.t 8,.t 87]] [0,1,2,7,8])
 (.seq (cR [oM 88 7,
 oM 89 7,
 oM 9 88,
 oM 10 89] [0,1,2,7,8,9,10])
 (.seq (.seq (cD [⟨[oM 90 7,
 oA 91 (.bin .gtr) [.t 90,.c (.int .i64 (0))],
 oM 92 91,
 oG (some 93) .move [.t 0] 92 true,
 oG (some 94) .nilCheck [.t 93] 92 true,
 oG (some 95) (.fieldAddr 1) [.t 94] 92 true,
 oG (some 96) (.load false 1) [.t 95] 92 true,
 oG (some 97) .move [.t 7] 92 true,
 oG (some 98) (.bin .sub) [.t 97,.c (.int .i64 (1))] 92 true,
 oG (some 99) (.idxAddr 2) [.t 96,.t 98] 92 true,
 oG (some 100) (.fieldAddr 0) [.t 99] 92 true,
 oG (some 101) (.load false 1) [.t 100] 92 true,
 oG (some 102) .move [.t 0] 92 true,
 oG (some 103) .nilCheck [.t 102] 92 true,
 oG (some 104) (.fieldAddr 1) [.t 103] 92 true,
 oG (some 105) (.load false 1) [.t 104] 92 true,
 oG (some 106) .move [.t 7] 92 true,
 oG (some 107) (.bin .sub) [.t 106,.c (.int .i64 (1))] 92 true,
 oG (some 108) (.idxAddr 2) [.t 105,.t 107] 92 true,
 oG (some 109) (.fieldAddr 1) [.t 108] 92 true,
 oG (some 110) (.load false 1) [.t 109] 92 true,
 oG (some 111) (.bin .add) [.t 101,.t 110] 92 true,
 oG (some 112) .move [.t 1] 92 true,
 oG (some 113) (.bin .eql) [.t 111,.t 112] 92 true,
 oA 114 .pick [.t 92,.t 113,.c (.bool false)]],none,[],[]⟩] [90,91,92,93,94,95,96,97,98,99,100,101,102,103,104,105,106,107,108,109,110,111,112,113,114] [0,1,2,7,8,9,10,114])
 (.cond (.t 114) (.seq (cR [oM 115 9,
 oA 116 (.bin .sub) [.t 115,.c (.int .i64 (1))],
 oM 9 116] [0,1,2,7,8,9,10])
 (cD [⟨[oM 117 0,
 oA 118 .nilCheck [.t 117],
 oA 119 (.fieldAddr 1) [.t 118],
 oA 120 (.load false 1) [.t 119],
 oM 121 9,
 oA 122 (.idxAddr 2) [.t 120,.t 121],
 oA 123 (.fieldAddr 0) [.t 122],
 oA 124 (.load false 1) [.t 123],
 oM 125 0,
 oA 126 .nilCheck [.t 125],
 oA 127 (.fieldAddr 1) [.t 126],
 oA 128 (.load false 1) [.t 127],
 oM 129 9,
 oA 130 (.idxAddr 2) [.t 128,.t 129],
 oA 131 (.fieldAddr 1) [.t 130],
 oA 132 (.load false 1) [.t 131],
 oM 133 2,
 oA 134 (.bin .add) [.t 132,.t 133],
 oA 135 (.build [(.int .i64 (0)), (.int .i64 (0))] [(0, 1), (1, 1)]) [.t 124,.t 134]],some (oN (.store 2) [.t 8,.t 135]),[],[]⟩] [117,118,119,120,121,122,123,124,125,126,127,128,129,130,131,132,133,134,135] [0,1,2,7,8,9,10]))
 (.skip)))
 (.seq (.seq (cR [oM 136 7,
 oM 137 0,
 oA 138 .nilCheck [.t 137],
 oA 139 (.fieldAddr 1) [.t 138],
 oA 140 (.load false 1) [.t 139],
 oA 141 .lenS [.t 140],
 oA 142 (.bin .lss) [.t 136,.t 141],
 oM 143 142,
 oG (some 144) .move [.t 1] 143 true,
 oG (some 145) .move [.t 2] 143 true,
 oG (some 146) (.bin .add) [.t 144,.t 145] 143 true,
 oG (some 147) .move [.t 0] 143 true,
 oG (some 148) .nilCheck [.t 147] 143 true,
 oG (some 149) (.fieldAddr 1) [.t 148] 143 true,
 oG (some 150) (.load false 1) [.t 149] 143 true,
 oG (some 151) .move [.t 7] 143 true,
 oG (some 152) (.idxAddr 2) [.t 150,.t 151] 143 true,
 oG (some 153) (.fieldAddr 0) [.t 152] 143 true,
 oG (some 154) (.load false 1) [.t 153] 143 true,
 oG (some 155) (.bin .eql) [.t 146,.t 154] 143 true,
 oA 156 .pick [.t 143,.t 155,.c (.bool false)]] [0,7,8,9,10,156])
 (.cond (.t 156) (.seq (cD [⟨[oA 157 (.fieldAddr 1) [.t 8],
 oA 158 (.load false 1) [.t 157],
 oM 159 0,
 oA 160 .nilCheck [.t 159],
 oA 161 (.fieldAddr 1) [.t 160],
 oA 162 (.load false 1) [.t 161],
 oM 163 7,
 oA 164 (.idxAddr 2) [.t 162,.t 163],
 oA 165 (.fieldAddr 1) [.t 164],
 oA 166 (.load false 1) [.t 165],
 oA 167 (.bin .add) [.t 158,.t 166],
 oA 168 (.fieldAddr 1) [.t 8]],some (oN (.store 1) [.t 168,.t 167]),[],[]⟩] [157,158,159,160,161,162,163,164,165,166,167,168] [0,8,9,10])
 (cR [oM 169 10,
 oA 170 (.bin .add) [.t 169,.c (.int .i64 (1))],
 oM 10 170] [0,8,9,10]))
 (.skip)))
 (.seq (cD [⟨[oM 171 0,
 oM 172 0,
 oA 173 .nilCheck [.t 172],
 oA 174 (.fieldAddr 1) [.t 173],
 oA 175 (.load false 1) [.t 174],
 oM 176 9,
 oM 177 10,
 oA 178 (.load true 2) [.t 8]],some (oA 179 (.buildSlice 102 2 1 [(.int .i64 (0)), (.int .i64 (0))] [(0, 2)]) [.t 178]),[175],[]⟩,
 ⟨[],some (oA 180 .call [.c (.func (.func 180) #[] #[]),.t 175,.t 176,.t 177,.t 179]),[],[]⟩,
 ⟨[oA 181 .nilCheck [.t 171],
 oA 182 (.fieldAddr 1) [.t 181]],some (oN (.store 1) [.t 182,.t 180]),[],[]⟩] [171,172,173,174,175,176,177,178,179,180,181,182] [])
 (.seq (cR [oA 6 .move [.c (.bool true)]] [6])
 (.ret))))))))))),
 [.tmp 6], none⟩

def f136 : Func := ⟨.seq (cR [oA 2 .move [.c (.map none)]] [0])
 (.seq (.seq (cR [oM 3 0,
 oA 4 (.isNil .map false) [.t 3]] [0,4])
 (.cond (.t 4) (.seq (cR [oA 2 .move [.c (.map none)]] [2])
 (.ret))
 (.skip)))
 (.seq (cR [oM 5 0,
 oA 6 (.iface 197) [.t 5],
 oA 7 .mapsClone [.t 6],
 oA 8 (.assert 197 (.map none) false) [.t 7],
 oM 2 8] [2])
 (.ret))),
 [.tmp 2], none⟩

def f137 : Func := ⟨.seq (cR [oA 1 (.box 70 5) [.t 0],
 oA 2 .move [.c (.bool false)]] [1])
 (.seq (cR [oA 3 (.fieldAddr 0) [.t 1],
 oA 4 (.load false 1) [.t 3],
 oA 5 .call [.c (.func (.func 98) #[] #[]),.t 4],
 oA 6 (.un .not) [.t 5],
 oM 7 6,
 oG (some 8) (.fieldAddr 1) [.t 1] 7 false,
 oG (some 9) (.load true 3) [.t 8] 7 false,
 oG (some 10) (.fieldAddr 4) [.t 1] 7 false,
 oG (some 11) (.load false 1) [.t 10] 7 false,
 oG (some 12) .call [.c (.func (.func 138) #[] #[]),.t 9,.t 11] 7 false,
 oG (some 13) (.un .not) [.t 12] 7 false,
 oA 14 .pick [.t 7,.c (.bool true),.t 13],
 oM 2 14] [2])
 (.ret)),
 [.tmp 2], none⟩

def f138 : Func := ⟨.seq (cR [oA 2 (.box 68 3) [.t 0],
 oA 4 .move [.c (.bool false)]] [1,2])
 (.seq (cR [oA 5 (.fieldAddr 0) [.t 2],
 oA 6 (.load false 1) [.t 5],
 oA 7 (.fieldAddr 1) [.t 2],
 oA 8 (.load false 1) [.t 7],
 oM 9 1,
 oA 10 .call [.c (.func (.func 195) #[] #[]),.t 6,.t 8,.t 9],
 oM 11 10,
 oG (some 12) (.fieldAddr 2) [.t 2] 11 true,
 oG (some 13) (.load false 1) [.t 12] 11 true,
 oG (some 14) .call [.c (.func (.func 196) #[] #[]),.t 13,.c (.int .i64 (0)),.c (.int .i64 (7))] 11 true,
 oA 15 .pick [.t 11,.t 14,.c (.bool false)],
 oM 4 15] [4])
 (.ret)),
 [.tmp 4], none⟩

def f139 : Func := ⟨.seq (cR [oA 4 .move [.c (.bool false)]] [0,1])
 (.seq (cR [oM 5 0,
 oM 6 1,
 oA 7 .call [.c (.func (.func 197) #[] #[]),.t 5,.t 6],
 oA 8 (.bin .geq) [.t 7,.c (.int .i64 (0))],
 oM 4 8] [4])
 (.ret)),
 [.tmp 4], none⟩

def f140 : Func := ⟨.seq (cR [oA 4 .move [.c (.bool false)]] [0,1])
 (.seq (cR [oM 5 0,
 oM 6 1,
 oA 7 .call [.c (.func (.func 198) #[] #[]),.t 5,.t 6],
 oA 8 (.bin .geq) [.t 7,.c (.int .i64 (0))],
 oM 4 8] [4])
 (.ret)),
 [.tmp 4], none⟩

def f141 : Func := ⟨.seq (cR [oA 2 .move [.c (.bool false)]] [0])
 (.seq (cR [oM 3 0,
 oA 4 .call [.c (.func (.func 98) #[] #[]),.t 3],
 oA 5 (.un .not) [.t 4],
 oM 2 5] [2])
 (.ret)),
 [.tmp 2], none⟩

def f142 : Func := ⟨.seq (cR [oA 2 (.new 26 1 [(.int .i64 (0))]) []] [0,2])
 (.seq (cR [oA 3 (.func 199 0) [.t 2],
 oN .defer [.t 3]] [0,2])
 (.seq (cR [oM 4 0,
 oA 5 .call [.t 4]] [2])
 (.seq (cR [oN (.store 1) [.t 2,.c (.int .i64 (0))]] [2])
 (.ret)))),
 [.cell 2 false 1], none⟩

def l143_0 : Code :=
 .seq (cR [oA 25 (.bin .lss) [.t 24,.t 23]] [3,4,5,22,23,24,25])
 (.seq (.cond (.t 25) (.skip)
 (.exit 0))
 (.seq (.block 1 (.seq (cR [oA 26 (.idxAddr 1) [.t 22,.t 24],
 oA 27 (.load false 1) [.t 26],
 oM 7 27] [3,4,5,7,22,23,24])
 (.seq (cR [oM 28 5,
 oM 29 5,
 oA 30 .nilCheck [.t 29],
 oA 31 (.fieldAddr 1) [.t 30],
 oA 32 (.load false 1) [.t 31],
 oM 33 7,
 oA 34 .call [.c (.func (.func 145) #[] #[]),.t 28,.t 32,.t 33]] [3,4,5,22,23,24])
 (cR [oM 35 5,
 oA 36 .call [.c (.func (.func 146) #[] #[]),.t 35]] [3,4,5,22,23,24]))))
 (cR [oA 37 (.bin .add) [.t 24,.c (.int .i64 (1))],
 oM 24 37] [3,4,5,22,23,24])))
def l143_1 : Code :=
 .seq (cR [oA 41 (.bin .lss) [.t 40,.t 39]] [4,5,38,39,40,41])
 (.seq (.cond (.t 41) (.skip)
 (.exit 2))
 (.seq (.block 3 (.seq (cR [oA 42 (.idxAddr 5) [.t 38,.t 40],
 oA 43 (.load true 5) [.t 42],
 oA 9 (.new 70 5 [(.int .i64 (0)), (.int .i64 (0)), (.int .i64 (0)), (.int .i64 (0)), (.int .i64 (0))]) [],
 oN (.store 5) [.t 9,.t 43]] [4,5,9,38,39,40])
 (.seq (cD [⟨[oM 44 5,
 oM 45 5,
 oA 46 .nilCheck [.t 45],
 oA 47 (.fieldAddr 1) [.t 46],
 oA 48 (.load false 1) [.t 47],
 oA 49 (.load true 5) [.t 9]],some (oA 50 .call [.c (.func (.func 147) #[] #[]),.t 44,.t 48,.t 49]),[],[]⟩] [44,45,46,47,48,49,50] [4,5,38,39,40])
 (cR [oM 51 5,
 oA 52 .call [.c (.func (.func 148) #[] #[]),.t 51]] [4,5,38,39,40]))))
 (cR [oA 53 (.bin .add) [.t 40,.c (.int .i64 (1))],
 oM 40 53] [4,5,38,39,40])))
def f143 : Func := ⟨.seq (cR [oA 10 (.load false 1) [.t 0],
 oA 11 (.build [.nilIface, (.pointer none)] [(0, 1)]) [.t 10],
 oA 12 (.box 238 2) [.t 11],
 oM 5 12] [1,2,3,4,5])
 (.seq (cR [oM 13 5,
 oM 14 5,
 oA 15 (.fieldAddr 0) [.t 1],
 oA 16 (.load true 3) [.t 15],
 oA 17 (.fieldAddr 3) [.t 1],
 oA 18 (.load false 1) [.t 17],
 oA 19 .call [.c (.func (.func 144) #[] #[]),.t 14,.t 16,.t 18,.c (.int .i64 (0)),.c (.int .i64 (512))],
 oA 20 .nilCheck [.t 13],
 oA 21 (.fieldAddr 1) [.t 20],
 oN (.store 1) [.t 21,.t 19]] [2,3,4,5])
 (.seq (.seq (cR [oA 22 (.load false 1) [.t 2],
 oA 23 .lenS [.t 22],
 oA 24 .move [.c (.int .i64 (0))]] [3,4,5,22,23,24])
 (.block 0 (.loop [3,4,5,22,23,24] l143_0)))
 (.seq (.seq (cR [oA 38 (.load false 1) [.t 3],
 oA 39 .lenS [.t 38],
 oA 40 .move [.c (.int .i64 (0))]] [4,5,38,39,40])
 (.block 2 (.loop [4,5,38,39,40] l143_1)))
 (cD [⟨[oM 54 5,
 oM 55 5,
 oA 56 .nilCheck [.t 55],
 oA 57 (.fieldAddr 1) [.t 56],
 oA 58 (.load false 1) [.t 57],
 oM 60 5,
 oA 61 .nilCheck [.t 60],
 oA 62 (.fieldAddr 1) [.t 61],
 oA 63 (.load false 1) [.t 62],
 oA 64 .nilCheck [.t 63],
 oA 65 (.fieldAddr 0) [.t 64],
 oA 66 (.fieldAddr 0) [.t 65],
 oA 67 (.load false 1) [.t 66]],some (oA 59 .call [.c (.func (.func 149) #[] #[]),.t 54,.t 58]),[63,67],[]⟩,
 ⟨[oA 68 (.build [(.int .i64 (0)), (.int .i64 (0)), (.int .i64 (0)), (.int .i64 (0))] [(0, 3), (3, 1)]) [.t 59,.t 67]],some (oN (.store 4) [.t 4,.t 68]),[],[]⟩] [54,55,56,57,58,59,60,61,62,63,64,65,66,67,68] [])))),
 [], none⟩

def f144 : Func := ⟨.seq (cR [oA 6 (.box 111 3) [.t 1],
 oA 10 .move [.c (.pointer none)]] [0,2,3,4,6])
 (.seq (cD [⟨[oM 14 0,
 oA 15 .nilCheck [.t 14],
 oA 16 (.fieldAddr 0) [.t 15],
 oA 17 (.load false 1) [.t 16],
 oA 18 (.load true 3) [.t 6],
 oM 19 2,
 oM 20 3,
 oM 21 4],some (oA 22 .call [.c (.func (.func 92) #[] #[]),.t 17,.t 18,.t 19,.t 20,.t 21]),[],[oA 11 (.new 171 5 [(.int .i64 (0)), (.slice none 0 0), (.slice none 0 0), (.slice none 0 0), (.slice none 0 0)]) []]⟩,
 ⟨[oM 13 22,
 oA 23 (.extract 0) [.t 13],
 oA 24 (.extract 1) [.t 13]],some (oA 11 (.new 171 5 [(.int .i64 (0)), (.slice none 0 0), (.slice none 0 0), (.slice none 0 0), (.slice none 0 0)]) []),[],[]⟩,
 ⟨[],some (oN (.store 5) [.t 11,.t 23]),[],[]⟩,
 ⟨[oM 12 24],none,[],[]⟩] [14,15,16,17,18,19,20,21,22,13,23,24,11,12] [3,4,6,11,12])
 (.seq (cR [oM 25 12,
 oA 26 (.bin .eql) [.t 25,.c (.int .i64 (0))],
 oM 27 12,
 oA 28 .call [.c (.func (.func 200) #[] #[]),.t 26,.t 27]] [3,4,6,11])
 (.seq (cD [⟨[oA 29 (.fieldAddr 1) [.t 11],
 oA 30 (.load false 1) [.t 29],
 oA 32 (.fieldAddr 2) [.t 11],
 oA 33 (.load false 1) [.t 32],
 oA 35 (.fieldAddr 3) [.t 11],
 oA 36 (.load false 1) [.t 35],
 oA 38 (.fieldAddr 4) [.t 11],
 oA 39 (.load false 1) [.t 38]],some (oA 31 .call [.c (.func (.func 201) #[] #[]),.t 30]),[33,36,39],[]⟩,
 ⟨[oA 41 (.fieldAddr 1) [.t 11]],some (oA 34 .call [.c (.func (.func 202) #[] #[]),.t 33]),[36,39],[]⟩,
 ⟨[],some (oA 37 .call [.c (.func (.func 201) #[] #[]),.t 36]),[39],[]⟩,
 ⟨[],some (oA 40 .call [.c (.func (.func 203) #[] #[]),.t 39]),[],[]⟩,
 ⟨[],some (oN (.store 1) [.t 41,.t 31]),[],[]⟩,
 ⟨[oA 42 (.fieldAddr 2) [.t 11]],some (oN (.store 1) [.t 42,.t 34]),[],[]⟩,
 ⟨[oA 43 (.fieldAddr 3) [.t 11]],some (oN (.store 1) [.t 43,.t 37]),[],[]⟩,
 ⟨[oA 44 (.fieldAddr 4) [.t 11]],some (oN (.store 1) [.t 44,.t 40]),[],[]⟩] [29,30,31,32,33,34,35,36,37,38,39,40,41,42,43,44] [3,4,6,11])
 (.seq (cD [⟨[oA 45 (.load true 5) [.t 11],
 oM 46 3,
 oM 47 4,
 oA 48 (.fieldAddr 4) [.t 11],
 oA 49 (.load false 1) [.t 48],
 oA 50 .lenS [.t 49],
 oA 52 (.load true 3) [.t 6]],some (oA 51 (.newSlice 236 1 8 [(.pointer none)]) [.t 50,.t 50]),[45,52],[]⟩,
 ⟨[oA 53 (.build [(.int .i64 (0)), (.slice none 0 0), (.slice none 0 0), (.slice none 0 0), (.slice none 0 0), (.int .i64 (0)), (.int .i64 (0)), (.slice none 0 0), (.int .i64 (0)), (.int .i64 (0)), (.int .i64 (0)), (.bool false)] [(0, 5), (5, 1), (6, 1), (7, 1), (8, 3)]) [.t 45,.t 46,.t 47,.t 51,.t 52]],some (oA 54 (.box 245 12) [.t 53]),[],[]⟩,
 ⟨[oM 10 54],none,[],[]⟩] [45,46,47,48,49,50,51,52,53,54,10] [10])
 (.ret))))),
 [.tmp 10], none⟩

def f145 : Func := ⟨.seq (cR [oA 6 .move [.c (.bool false)]] [0,1,2])
 (.seq (cR [oM 11 1,
 oA 12 .nilCheck [.t 11],
 oA 13 (.fieldAddr 0) [.t 12],
 oA 14 (.load true 5) [.t 13],
 oM 15 2,
 oA 16 .call [.c (.func (.func 99) #[] #[]),.t 14,.t 15],
 oM 10 16,
 oA 17 (.extract 0) [.t 10],
 oA 18 (.extract 1) [.t 10],
 oM 7 17,
 oM 8 18] [0,1,2,7,8])
 (.seq (.seq (cR [oM 19 1,
 oA 20 .nilCheck [.t 19],
 oA 21 (.fieldAddr 0) [.t 20],
 oA 22 (.fieldAddr 1) [.t 21],
 oA 23 (.load false 1) [.t 22],
 oA 24 .lenS [.t 23],
 oA 25 (.bin .eql) [.t 24,.c (.int .i64 (0))],
 oM 26 25,
 oG (some 27) .move [.t 1] 26 false,
 oG (some 28) .nilCheck [.t 27] 26 false,
 oG (some 29) (.fieldAddr 0) [.t 28] 26 false,
 oG (some 30) (.fieldAddr 1) [.t 29] 26 false,
 oG (some 31) (.load false 1) [.t 30] 26 false,
 oG (some 32) .move [.t 7] 26 false,
 oG (some 33) (.idxAddr 1) [.t 31,.t 32] 26 false,
 oG (some 34) (.load false 1) [.t 33] 26 false,
 oG (some 35) .move [.t 2] 26 false,
 oG (some 36) (.bin .gtr) [.t 34,.t 35] 26 false,
 oA 37 .pick [.t 26,.c (.bool true),.t 36]] [0,1,2,7,8,37])
 (.cond (.t 37) (.seq (cR [oA 6 .move [.c (.bool false)]] [6])
 (.ret))
 (.skip)))
 (.seq (.seq (cR [oM 38 1,
 oA 39 .nilCheck [.t 38],
 oA 40 (.fieldAddr 0) [.t 39],
 oA 41 (.fieldAddr 0) [.t 40],
 oA 42 (.load false 1) [.t 41],
 oA 43 (.bin .eql) [.t 42,.c (.int .i64 (0))]] [0,1,2,7,8,43])
 (.cond (.t 43) (.seq (.seq (cR [oM 44 8,
 oA 45 (.un .not) [.t 44]] [1,7,45])
 (.cond (.t 45) (.seq (cR [oA 6 .move [.c (.bool false)]] [6])
 (.ret))
 (.skip)))
 (.seq (cR [oM 46 1,
 oM 47 1,
 oA 48 .nilCheck [.t 47],
 oA 49 (.fieldAddr 0) [.t 48],
 oA 50 (.fieldAddr 1) [.t 49],
 oA 51 (.load false 1) [.t 50],
 oM 52 7,
 oM 53 7,
 oA 54 (.bin .add) [.t 53,.c (.int .i64 (1))],
 oA 55 .call [.c (.func (.func 204) #[] #[]),.t 51,.t 52,.t 54],
 oA 56 .nilCheck [.t 46],
 oA 57 (.fieldAddr 0) [.t 56],
 oA 58 (.fieldAddr 1) [.t 57],
 oN (.store 1) [.t 58,.t 55]] [1,7])
 (.seq (cR [oM 59 1,
 oM 60 1,
 oA 61 .nilCheck [.t 60],
 oA 62 (.fieldAddr 0) [.t 61],
 oA 63 (.fieldAddr 2) [.t 62],
 oA 64 (.load false 1) [.t 63],
 oM 65 7,
 oM 66 7,
 oA 67 (.bin .add) [.t 66,.c (.int .i64 (1))],
 oA 68 .call [.c (.func (.func 205) #[] #[]),.t 64,.t 65,.t 67],
 oA 69 .nilCheck [.t 59],
 oA 70 (.fieldAddr 0) [.t 69],
 oA 71 (.fieldAddr 2) [.t 70],
 oN (.store 1) [.t 71,.t 68]] [1,7])
 (.seq (cR [oM 72 1,
 oM 73 1,
 oA 74 .nilCheck [.t 73],
 oA 75 (.fieldAddr 0) [.t 74],
 oA 76 (.fieldAddr 3) [.t 75],
 oA 77 (.load false 1) [.t 76],
 oM 78 7,
 oM 79 7,
 oA 80 (.bin .add) [.t 79,.c (.int .i64 (1))],
 oA 81 .call [.c (.func (.func 204) #[] #[]),.t 77,.t 78,.t 80],
 oA 82 .nilCheck [.t 72],
 oA 83 (.fieldAddr 0) [.t 82],
 oA 84 (.fieldAddr 3) [.t 83],
 oN (.store 1) [.t 84,.t 81]] [1])
 (.seq (cR [oM 85 1,
 oA 86 .nilCheck [.t 85],
 oA 87 (.fieldAddr 11) [.t 86],
 oN (.store 1) [.t 87,.c (.bool true)]] [])
 (.seq (cR [oA 6 .move [.c (.bool true)]] [6])
 (.ret)))))))
 (.skip)))
 (.seq (cR [oM 88 0,
 oM 89 1,
 oM 90 7,
 oA 91 .call [.c (.func (.func 206) #[] #[]),.t 88,.t 89,.t 90],
 oM 9 91] [0,1,2,7,9])
 (.seq (.seq (cR [oM 92 0,
 oM 93 9,
 oM 94 2,
 oA 95 .call [.c (.func (.func 145) #[] #[]),.t 92,.t 93,.t 94],
 oA 96 (.un .not) [.t 95]] [0,1,7,9,96])
 (.cond (.t 96) (.seq (cR [oA 6 .move [.c (.bool false)]] [6])
 (.ret))
 (.skip)))
 (.seq (cR [oM 97 1,
 oA 98 .nilCheck [.t 97],
 oA 99 (.fieldAddr 11) [.t 98],
 oN (.store 1) [.t 99,.c (.bool true)]] [0,1,7,9])
 (.seq (.seq (cR [oM 100 9,
 oA 101 .nilCheck [.t 100],
 oA 102 (.fieldAddr 0) [.t 101],
 oA 103 (.fieldAddr 1) [.t 102],
 oA 104 (.load false 1) [.t 103],
 oA 105 .lenS [.t 104],
 oA 106 (.bin .lss) [.t 105,.c (.int .i64 (4))]] [0,1,7,106])
 (.cond (.t 106) (cR [oM 107 0,
 oM 108 1,
 oM 109 7,
 oA 110 .call [.c (.func (.func 207) #[] #[]),.t 107,.t 108,.t 109]] [])
 (.skip)))
 (.seq (cR [oA 6 .move [.c (.bool true)]] [6])
 (.ret))))))))),
 [.tmp 6], none⟩

def l146_0 : Code :=
 .seq (.seq (cR [oM 2 0,
 oA 3 .nilCheck [.t 2],
 oA 4 (.fieldAddr 1) [.t 3],
 oA 5 (.load false 1) [.t 4],
 oA 6 .nilCheck [.t 5],
 oA 7 (.fieldAddr 0) [.t 6],
 oA 8 (.fieldAddr 0) [.t 7],
 oA 9 (.load false 1) [.t 8],
 oA 10 (.bin .gtr) [.t 9,.c (.int .i64 (0))],
 oM 11 10,
 oG (some 12) .move [.t 0] 11 true,
 oG (some 13) .nilCheck [.t 12] 11 true,
 oG (some 14) (.fieldAddr 1) [.t 13] 11 true,
 oG (some 15) (.load false 1) [.t 14] 11 true,
 oG (some 16) .nilCheck [.t 15] 11 true,
 oG (some 17) (.fieldAddr 0) [.t 16] 11 true,
 oG (some 18) (.fieldAddr 1) [.t 17] 11 true,
 oG (some 19) (.load false 1) [.t 18] 11 true,
 oG (some 20) .lenS [.t 19] 11 true,
 oG (some 21) (.bin .lss) [.t 20,.c (.int .i64 (2))] 11 true,
 oA 22 .pick [.t 11,.t 21,.c (.bool false)]] [0,22])
 (.cond (.t 22) (.skip)
 (.exit 0)))
 (.block 1 (.seq (.seq (cR [oM 23 0,
 oA 24 .nilCheck [.t 23],
 oA 25 (.fieldAddr 1) [.t 24],
 oA 26 (.load false 1) [.t 25],
 oA 27 .nilCheck [.t 26],
 oA 28 (.fieldAddr 0) [.t 27],
 oA 29 (.fieldAddr 1) [.t 28],
 oA 30 (.load false 1) [.t 29],
 oA 31 .lenS [.t 30],
 oA 32 (.bin .eql) [.t 31,.c (.int .i64 (0))]] [0,32])
 (.cond (.t 32) (.seq (cR [oM 33 0,
 oA 34 (.build [(.int .i64 (0)), (.slice none 0 0), (.slice none 0 0), (.slice none 0 0), (.slice none 0 0), (.int .i64 (0)), (.int .i64 (0)), (.slice none 0 0), (.int .i64 (0)), (.int .i64 (0)), (.int .i64 (0)), (.bool false)] [(6, 1), (11, 1)]) [.c (.int .i64 (512)),.c (.bool true)],
 oA 35 (.box 245 12) [.t 34],
 oA 36 .nilCheck [.t 33],
 oA 37 (.fieldAddr 1) [.t 36],
 oN (.store 1) [.t 37,.t 35]] [])
 (.ret))
 (.skip)))
 (cR [oM 38 0,
 oM 39 0,
 oM 40 0,
 oA 41 .nilCheck [.t 40],
 oA 42 (.fieldAddr 1) [.t 41],
 oA 43 (.load false 1) [.t 42],
 oA 44 .call [.c (.func (.func 206) #[] #[]),.t 39,.t 43,.c (.int .i64 (0))],
 oA 45 .nilCheck [.t 38],
 oA 46 (.fieldAddr 1) [.t 45],
 oN (.store 1) [.t 46,.t 44]] [0])))
def f146 : Func := ⟨.block 0 (.loop [0] l146_0),
 [], none⟩

def f147 : Func := ⟨.seq (cR [oA 5 (.box 70 5) [.t 2]] [0,1,5])
 (.seq (cR [oM 10 1,
 oA 11 .nilCheck [.t 10],
 oA 12 (.fieldAddr 11) [.t 11],
 oN (.store 1) [.t 12,.c (.bool true)]] [0,1,5])
 (.seq (cD [⟨[oM 14 1,
 oA 15 .nilCheck [.t 14],
 oA 16 (.fieldAddr 0) [.t 15],
 oA 17 (.load true 5) [.t 16],
 oA 18 (.fieldAddr 0) [.t 5],
 oA 19 (.load false 1) [.t 18]],some (oA 20 .call [.c (.func (.func 99) #[] #[]),.t 17,.t 19]),[],[]⟩,
 ⟨[oM 13 20,
 oA 21 (.extract 0) [.t 13],
 oA 22 (.extract 1) [.t 13],
 oM 6 21,
 oM 7 22],none,[],[]⟩] [14,15,16,17,18,19,20,13,21,22,6,7] [0,1,5,6,7])
 (.seq (.seq (cD [⟨[oM 23 1,
 oA 24 .nilCheck [.t 23],
 oA 25 (.fieldAddr 0) [.t 24],
 oA 26 (.fieldAddr 1) [.t 25],
 oA 27 (.load false 1) [.t 26],
 oA 28 .lenS [.t 27],
 oA 29 (.bin .gtr) [.t 28,.c (.int .i64 (0))],
 oM 30 29,
 oG (some 31) .move [.t 1] 30 true,
 oG (some 32) .nilCheck [.t 31] 30 true,
 oG (some 33) (.fieldAddr 0) [.t 32] 30 true,
 oG (some 34) (.fieldAddr 1) [.t 33] 30 true,
 oG (some 35) (.load false 1) [.t 34] 30 true,
 oG (some 36) .move [.t 6] 30 true,
 oG (some 37) (.idxAddr 1) [.t 35,.t 36] 30 true,
 oG (some 38) (.load false 1) [.t 37] 30 true,
 oG (some 39) (.fieldAddr 0) [.t 5] 30 true,
 oG (some 40) (.load false 1) [.t 39] 30 true,
 oG (some 41) (.bin .lss) [.t 38,.t 40] 30 true,
 oA 42 .pick [.t 30,.t 41,.c (.bool false)],
 oM 43 42,
 oG (some 44) .move [.t 1] 43 true,
 oG (some 45) .nilCheck [.t 44] 43 true,
 oG (some 46) (.fieldAddr 0) [.t 45] 43 true,
 oG (some 47) (.fieldAddr 0) [.t 46] 43 true,
 oG (some 48) (.load false 1) [.t 47] 43 true,
 oG (some 49) (.bin .eql) [.t 48,.c (.int .i64 (0))] 43 true,
 oA 50 .pick [.t 43,.t 49,.c (.bool false)]],none,[],[]⟩] [23,24,25,26,27,28,29,30,31,32,33,34,35,36,37,38,39,40,41,42,43,44,45,46,47,48,49,50] [0,1,5,6,7,50])
 (.cond (.t 50) (cR [oM 51 6,
 oA 52 (.bin .add) [.t 51,.c (.int .i64 (1))],
 oM 6 52] [0,1,5,6,7])
 (.skip)))
 (.seq (.seq (cR [oM 53 1,
 oA 54 .nilCheck [.t 53],
 oA 55 (.fieldAddr 0) [.t 54],
 oA 56 (.fieldAddr 0) [.t 55],
 oA 57 (.load false 1) [.t 56],
 oA 58 (.bin .eql) [.t 57,.c (.int .i64 (0))]] [0,1,5,6,7,58])
 (.cond (.t 58) (.seq (.seq (cR [oM 59 7] [1,5,6,59])
 (.cond (.t 59) (.seq (cD [⟨[oM 60 1,
 oA 61 .nilCheck [.t 60],
 oA 62 (.fieldAddr 0) [.t 61],
 oA 63 (.fieldAddr 2) [.t 62],
 oA 64 (.load false 1) [.t 63],
 oM 65 6,
 oM 66 1,
 oA 67 .nilCheck [.t 66],
 oA 68 (.fieldAddr 0) [.t 67],
 oA 69 (.fieldAddr 3) [.t 68],
 oA 70 (.load false 1) [.t 69],
 oM 71 6,
 oA 72 (.fieldAddr 1) [.t 5],
 oA 73 (.load true 3) [.t 72],
 oA 74 (.fieldAddr 4) [.t 5],
 oA 75 (.load false 1) [.t 74],
 oA 76 (.idxAddr 3) [.t 64,.t 65]],some (oN (.store 3) [.t 76,.t 73]),[75],[]⟩,
 ⟨[oA 77 (.idxAddr 1) [.t 70,.t 71]],some (oN (.store 1) [.t 77,.t 75]),[],[]⟩] [60,61,62,63,64,65,66,67,68,69,70,71,72,73,74,75,76,77] [])
 (.ret))
 (.skip)))
 (.seq (cD [⟨[oM 78 1,
 oM 79 1,
 oA 80 .nilCheck [.t 79],
 oA 81 (.fieldAddr 0) [.t 80],
 oA 82 (.fieldAddr 1) [.t 81],
 oA 83 (.load false 1) [.t 82],
 oM 84 6,
 oA 85 (.fieldAddr 0) [.t 5],
 oA 86 (.load false 1) [.t 85]],some (oA 87 (.buildSlice 3 1 1 [(.int .i64 (0))] [(0, 1)]) [.t 86]),[83],[]⟩,
 ⟨[],some (oA 88 .call [.c (.func (.func 208) #[] #[]),.t 83,.t 84,.t 87]),[],[]⟩,
 ⟨[oA 89 .nilCheck [.t 78],
 oA 90 (.fieldAddr 0) [.t 89],
 oA 91 (.fieldAddr 1) [.t 90]],some (oN (.store 1) [.t 91,.t 88]),[],[]⟩] [78,79,80,81,82,83,84,85,86,87,88,89,90,91] [1,5,6])
 (.seq (cD [⟨[oM 92 1,
 oM 93 1,
 oA 94 .nilCheck [.t 93],
 oA 95 (.fieldAddr 0) [.t 94],
 oA 96 (.fieldAddr 2) [.t 95],
 oA 97 (.load false 1) [.t 96],
 oM 98 6,
 oA 99 (.fieldAddr 1) [.t 5],
 oA 100 (.load true 3) [.t 99]],some (oA 101 (.buildSlice 68 3 1 [(.int .i64 (0)), (.int .i64 (0)), (.int .i64 (0))] [(0, 3)]) [.t 100]),[97],[]⟩,
 ⟨[],some (oA 102 .call [.c (.func (.func 209) #[] #[]),.t 97,.t 98,.t 101]),[],[]⟩,
 ⟨[oA 103 .nilCheck [.t 92],
 oA 104 (.fieldAddr 0) [.t 103],
 oA 105 (.fieldAddr 2) [.t 104]],some (oN (.store 1) [.t 105,.t 102]),[],[]⟩] [92,93,94,95,96,97,98,99,100,101,102,103,104,105] [1,5,6])
 (.seq (cD [⟨[oM 106 1,
 oM 107 1,
 oA 108 .nilCheck [.t 107],
 oA 109 (.fieldAddr 0) [.t 108],
 oA 110 (.fieldAddr 3) [.t 109],
 oA 111 (.load false 1) [.t 110],
 oM 112 6,
 oA 113 (.fieldAddr 4) [.t 5],
 oA 114 (.load false 1) [.t 113]],some (oA 115 (.buildSlice 3 1 1 [(.int .i64 (0))] [(0, 1)]) [.t 114]),[111],[]⟩,
 ⟨[],some (oA 116 .call [.c (.func (.func 208) #[] #[]),.t 111,.t 112,.t 115]),[],[]⟩,
 ⟨[oA 117 .nilCheck [.t 106],
 oA 118 (.fieldAddr 0) [.t 117],
 oA 119 (.fieldAddr 3) [.t 118]],some (oN (.store 1) [.t 119,.t 116]),[],[]⟩] [106,107,108,109,110,111,112,113,114,115,116,117,118,119] [])
 (.ret)))))
 (.skip)))
 (.seq (cR [oM 120 0,
 oM 121 1,
 oM 122 6,
 oA 123 .call [.c (.func (.func 206) #[] #[]),.t 120,.t 121,.t 122],
 oM 8 123] [0,1,5,6,8])
 (.seq (cD [⟨[oM 124 1,
 oA 125 .nilCheck [.t 124],
 oA 126 (.fieldAddr 0) [.t 125],
 oA 127 (.fieldAddr 1) [.t 126],
 oA 128 (.load false 1) [.t 127],
 oM 129 6,
 oM 130 1,
 oA 131 .nilCheck [.t 130],
 oA 132 (.fieldAddr 0) [.t 131],
 oA 133 (.fieldAddr 1) [.t 132],
 oA 134 (.load false 1) [.t 133],
 oM 135 6,
 oA 136 (.idxAddr 1) [.t 134,.t 135],
 oA 137 (.load false 1) [.t 136],
 oA 138 (.fieldAddr 0) [.t 5],
 oA 139 (.load false 1) [.t 138],
 oA 140 .min [.t 137,.t 139],
 oA 141 (.idxAddr 1) [.t 128,.t 129]],some (oN (.store 1) [.t 141,.t 140]),[],[]⟩] [124,125,126,127,128,129,130,131,132,133,134,135,136,137,138,139,140,141] [0,1,5,6,8])
 (.seq (cR [oM 142 8,
 oM 143 1,
 oA 144 .nilCheck [.t 143],
 oA 145 (.fieldAddr 0) [.t 144],
 oA 146 (.fieldAddr 1) [.t 145],
 oA 147 (.load false 1) [.t 146],
 oM 148 6,
 oA 149 (.idxAddr 1) [.t 147,.t 148],
 oA 150 (.load false 1) [.t 149],
 oA 151 .nilCheck [.t 142],
 oA 152 (.fieldAddr 5) [.t 151],
 oN (.store 1) [.t 152,.t 150]] [0,1,5,6,8])
 (.seq (cR [oM 153 0,
 oM 154 8,
 oA 155 (.load true 5) [.t 5],
 oA 156 .call [.c (.func (.func 147) #[] #[]),.t 153,.t 154,.t 155]] [1,6,8])
 (.seq (cR [oM 157 8,
 oA 158 .nilCheck [.t 157],
 oA 159 (.fieldAddr 0) [.t 158],
 oA 160 (.fieldAddr 1) [.t 159],
 oA 161 (.load false 1) [.t 160],
 oA 162 .lenS [.t 161],
 oA 163 (.bin .gtr) [.t 162,.c (.int .i64 (8))]] [1,6,8,163])
 (.cond (.t 163) (.seq (cR [oM 164 8,
 oA 165 .call [.c (.func (.func 210) #[] #[]),.t 164],
 oM 9 165] [1,6,9])
 (cR [oM 166 1,
 oM 167 6,
 oA 168 (.bin .add) [.t 167,.c (.int .i64 (1))],
 oM 169 9,
 oA 170 .call [.c (.func (.func 211) #[] #[]),.t 166,.t 168,.t 169]] []))
 (.skip))))))))))),
 [], none⟩

def f148 : Func := ⟨.seq (.seq (cR [oM 4 0,
 oA 5 .nilCheck [.t 4],
 oA 6 (.fieldAddr 1) [.t 5],
 oA 7 (.load false 1) [.t 6],
 oA 8 .nilCheck [.t 7],
 oA 9 (.fieldAddr 0) [.t 8],
 oA 10 (.fieldAddr 1) [.t 9],
 oA 11 (.load false 1) [.t 10],
 oA 12 .lenS [.t 11],
 oA 13 (.bin .leq) [.t 12,.c (.int .i64 (8))]] [0,13])
 (.cond (.t 13) (.ret)
 (.skip)))
 (.seq (cR [oM 14 0,
 oA 15 .nilCheck [.t 14],
 oA 16 (.fieldAddr 1) [.t 15],
 oA 17 (.load false 1) [.t 16],
 oM 2 17] [0,2])
 (.seq (cR [oM 18 2,
 oA 19 .nilCheck [.t 18],
 oA 20 (.fieldAddr 0) [.t 19],
 oA 21 (.fieldAddr 0) [.t 20],
 oA 22 (.load false 1) [.t 21],
 oA 23 (.bin .add) [.t 22,.c (.int .i64 (1))],
 oA 24 (.bin .lss) [.t 23,.c (.int .i64 (6))],
 oA 25 .call [.c (.func (.func 200) #[] #[]),.t 24,.c (.int .i64 (4))]] [0,2])
 (.seq (cR [oM 26 2,
 oA 27 .call [.c (.func (.func 210) #[] #[]),.t 26],
 oM 3 27] [0,2,3])
 (.seq (cD [⟨[oM 28 0,
 oM 29 2,
 oA 30 .nilCheck [.t 29],
 oA 31 (.fieldAddr 0) [.t 30],
 oA 32 (.fieldAddr 0) [.t 31],
 oA 33 (.load false 1) [.t 32],
 oA 34 (.bin .add) [.t 33,.c (.int .i64 (1))],
 oA 35 (.build [(.int .i64 (0)), (.slice none 0 0), (.slice none 0 0), (.slice none 0 0), (.slice none 0 0)] [(0, 1)]) [.t 34],
 oM 36 2,
 oA 37 .nilCheck [.t 36],
 oA 38 (.fieldAddr 5) [.t 37],
 oA 39 (.load false 1) [.t 38],
 oM 40 3,
 oA 41 .nilCheck [.t 40],
 oA 42 (.fieldAddr 6) [.t 41],
 oA 43 (.load false 1) [.t 42],
 oA 44 (.build [(.int .i64 (0)), (.slice none 0 0), (.slice none 0 0), (.slice none 0 0), (.slice none 0 0), (.int .i64 (0)), (.int .i64 (0)), (.slice none 0 0), (.int .i64 (0)), (.int .i64 (0)), (.int .i64 (0)), (.bool false)] [(0, 5), (5, 1), (6, 1)]) [.t 35,.t 39,.t 43]],some (oA 45 (.box 245 12) [.t 44]),[],[]⟩,
 ⟨[oA 46 .nilCheck [.t 28],
 oA 47 (.fieldAddr 1) [.t 46]],some (oN (.store 1) [.t 47,.t 45]),[],[]⟩] [28,29,30,31,32,33,34,35,36,37,38,39,40,41,42,43,44,45,46,47] [0,2,3])
 (.seq (cR [oM 48 2,
 oM 49 2,
 oA 50 .nilCheck [.t 49],
 oA 51 (.fieldAddr 0) [.t 50],
 oA 52 (.fieldAddr 1) [.t 51],
 oA 53 (.load false 1) [.t 52],
 oA 54 (.idxAddr 1) [.t 53,.c (.int .i64 (0))],
 oA 55 (.load false 1) [.t 54],
 oA 56 .nilCheck [.t 48],
 oA 57 (.fieldAddr 5) [.t 56],
 oN (.store 1) [.t 57,.t 55]] [0,2,3])
 (.seq (cR [oM 58 0,
 oA 59 .nilCheck [.t 58],
 oA 60 (.fieldAddr 1) [.t 59],
 oA 61 (.load false 1) [.t 60],
 oM 62 3,
 oA 63 .call [.c (.func (.func 211) #[] #[]),.t 61,.c (.int .i64 (0)),.t 62]] [0,2])
 (cR [oM 64 0,
 oA 65 .nilCheck [.t 64],
 oA 66 (.fieldAddr 1) [.t 65],
 oA 67 (.load false 1) [.t 66],
 oM 68 2,
 oA 69 .call [.c (.func (.func 211) #[] #[]),.t 67,.c (.int .i64 (0)),.t 68]] []))))))),
 [], none⟩

def l149_0 : Code :=
 .seq (cR [oA 24 (.bin .lss) [.t 23,.t 22]] [0,1,4,21,22,23,24])
 (.seq (.cond (.t 24) (.skip)
 (.exit 0))
 (.seq (.block 1 (.seq (cR [oM 25 23,
 oA 26 (.idxAddr 1) [.t 21,.t 23],
 oA 27 (.load false 1) [.t 26],
 oM 5 25,
 oM 6 27] [0,1,4,5,6,21,22,23])
 (.seq (cR [oM 28 6,
 oA 29 (.isNil .ptr true) [.t 28]] [0,1,4,5,6,21,22,23,29])
 (.cond (.t 29) (cD [⟨[oM 30 1,
 oA 31 .nilCheck [.t 30],
 oA 32 (.fieldAddr 0) [.t 31],
 oA 33 (.fieldAddr 4) [.t 32],
 oA 34 (.load false 1) [.t 33],
 oM 35 5,
 oM 36 0,
 oM 37 6],some (oA 38 .call [.c (.func (.func 149) #[] #[]),.t 36,.t 37]),[34],[]⟩,
 ⟨[oA 39 (.idxAddr 3) [.t 34,.t 35]],some (oN (.store 3) [.t 39,.t 38]),[],[]⟩] [30,31,32,33,34,35,36,37,38,39] [0,1,4,21,22,23])
 (.skip)))))
 (cR [oA 40 (.bin .add) [.t 23,.c (.int .i64 (1))],
 oM 23 40] [0,1,4,21,22,23])))
def f149 : Func := ⟨.seq (cR [oA 4 (.new 111 3 [(.int .i64 (0)), (.int .i64 (0)), (.int .i64 (0))]) []] [0,1,4])
 (.seq (.seq (cR [oM 9 1,
 oA 10 .nilCheck [.t 9],
 oA 11 (.fieldAddr 11) [.t 10],
 oA 12 (.load false 1) [.t 11],
 oA 13 (.un .not) [.t 12]] [0,1,4,13])
 (.cond (.t 13) (.seq (cR [oM 14 1,
 oA 15 .nilCheck [.t 14],
 oA 16 (.fieldAddr 8) [.t 15],
 oA 17 (.load true 3) [.t 16],
 oN (.store 3) [.t 4,.t 17]] [4])
 (.ret))
 (.skip)))
 (.seq (.seq (cR [oM 18 1,
 oA 19 .nilCheck [.t 18],
 oA 20 (.fieldAddr 7) [.t 19],
 oA 21 (.load false 1) [.t 20],
 oA 22 .lenS [.t 21],
 oA 23 .move [.c (.int .i64 (0))]] [0,1,4,21,22,23])
 (.block 0 (.loop [0,1,4,21,22,23] l149_0)))
 (.seq (cD [⟨[oM 42 0,
 oA 43 .nilCheck [.t 42],
 oA 44 (.fieldAddr 0) [.t 43],
 oA 45 (.load false 1) [.t 44],
 oM 46 1,
 oA 47 .nilCheck [.t 46],
 oA 48 (.fieldAddr 0) [.t 47],
 oA 49 (.load true 5) [.t 48],
 oA 50 .nilCheck [.t 45],
 oM 51 45],some (oA 52 (.invoke "Save") [.t 51,.t 49]),[],[oA 7 (.new 111 3 [(.int .i64 (0)), (.int .i64 (0)), (.int .i64 (0))]) []]⟩,
 ⟨[oM 41 52,
 oA 53 (.extract 0) [.t 41],
 oA 54 (.extract 1) [.t 41]],some (oA 7 (.new 111 3 [(.int .i64 (0)), (.int .i64 (0)), (.int .i64 (0))]) []),[],[]⟩,
 ⟨[],some (oN (.store 3) [.t 7,.t 53]),[],[]⟩,
 ⟨[oM 8 54],none,[],[]⟩] [42,43,44,45,46,47,48,49,50,51,52,41,53,54,7,8] [1,4,7,8])
 (.seq (cR [oM 55 8,
 oA 56 (.bin .eql) [.t 55,.c (.int .i64 (0))],
 oM 57 8,
 oA 58 .call [.c (.func (.func 200) #[] #[]),.t 56,.t 57]] [1,4,7])
 (.seq (cR [oM 59 1,
 oM 60 1,
 oA 61 (.load true 3) [.t 7],
 oA 62 .nilCheck [.t 59],
 oA 63 (.fieldAddr 8) [.t 62],
 oN (.store 3) [.t 63,.t 61],
 oA 64 .nilCheck [.t 60],
 oA 65 (.fieldAddr 11) [.t 64],
 oN (.store 1) [.t 65,.c (.bool false)]] [4,7])
 (.seq (cR [oA 66 (.load true 3) [.t 7],
 oN (.store 3) [.t 4,.t 66]] [4])
 (.ret))))))),
 [.cell 4 true 3], none⟩

def f150 : Func := ⟨.seq (cR [oA 3 (.box 113 4) [.t 1],
 oA 4 .move [.c (.slice none 0 0)],
 oA 5 .move [.c (.int .i64 (0))]] [0,3])
 (.seq (cR [oA 6 (.new 169 1 [(.slice none 0 0)]) []] [0,3,6])
 (.seq (cR [oM 8 0,
 oA 9 (.load true 4) [.t 3],
 oA 10 (.func 213 0) [.t 6],
 oA 11 .call [.c (.func (.func 212) #[] #[]),.t 8,.t 9,.t 10],
 oM 7 11] [6,7])
 (.seq (.seq (cR [oM 12 7,
 oA 13 (.bin .neq) [.t 12,.c (.int .i64 (0))]] [6,7,13])
 (.cond (.t 13) (.seq (cR [oM 14 7,
 oA 4 .move [.c (.slice none 0 0)],
 oM 5 14] [4,5])
 (.ret))
 (.skip)))
 (.seq (cR [oA 15 (.load false 1) [.t 6],
 oM 4 15,
 oA 5 .move [.c (.int .i64 (0))]] [4,5])
 (.ret))))),
 [.tmp 4, .tmp 5], none⟩
end Go.Proofs.YtlelihddjacplaaGreat.AM
