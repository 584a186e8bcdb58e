/- Parts: Ir0, Ir1. -/
import Derived.Test.YtdbbkaeoinalpaaGreatDaA
set_option linter.unusedVariables false
namespace Go.Proofs.YtdbbkaeoinalpaaGreat.AM
def f4 : Func := ⟨.seq (cR [oA 6 .move [.c (.bool false)]] [0,1,2])
 (.seq (.seq (cR [oA 18 .call [.c (.func (.func 13) #[] #[])],
 oA 19 (.un .not) [.t 18]] [0,1,2,19])
 (.cond (.t 19) (.seq (cR [oA 6 .move [.c (.bool false)]] [6])
 (.ret))
 (.skip)))
 (.seq (cR [oA 21 .call [.c (.func (.func 14) #[] #[]),.c (.int .i64 (256)),.c (.int .i64 (30)),.c (.float .f64 4607182418800017408)],
 oM 20 21,
 oA 22 (.extract 0) [.t 20],
 oA 23 (.extract 1) [.t 20],
 oA 24 (.extract 2) [.t 20],
 oM 7 22,
 oM 8 23,
 oM 9 24] [0,1,2,8,9])
 (.seq (.seq (cR [oM 25 8,
 oA 26 (.isNil .ptr false) [.t 25]] [0,1,2,8,9,26])
 (.cond (.t 26) (.seq (cR [oA 6 .move [.c (.bool false)]] [6])
 (.ret))
 (.skip)))
 (.seq (cR [oM 27 1,
 oA 28 (.toInt .i64) [.t 27],
 oA 29 (.bin .rem) [.t 28,.c (.int .i64 (300))],
 oA 30 (.newSlice 5 1 1 [(.int .u8 (0))]) [.t 29,.t 29],
 oM 10 30] [0,2,8,9,10])
 (.seq (cR [oM 31 0,
 oA 32 (.bin .geq) [.t 31,.c (.int .i64 (0))],
 oM 33 32,
 oG (some 34) .move [.t 0] 33 true,
 oG (some 35) (.bin .lss) [.t 34,.c (.int .i64 (30))] 33 true,
 oA 36 .pick [.t 33,.t 35,.c (.bool false)],
 oM 11 36] [0,2,8,9,10,11])
 (.seq (cR [oM 37 11,
 oM 38 37,
 oG (some 39) .move [.t 10] 38 true,
 oG (some 40) .lenS [.t 39] 38 true,
 oG (some 41) (.bin .eql) [.t 40,.c (.int .i64 (128))] 38 true,
 oA 42 .pick [.t 38,.t 41,.c (.bool false)],
 oM 12 42] [0,2,8,9,10,11,12])
 (.seq (cR [oM 43 8,
 oM 44 0,
 oM 45 10,
 oA 46 .call [.c (.func (.func 15) #[] #[]),.t 43,.t 44,.t 45],
 oM 13 46] [0,2,8,9,11,12,13])
 (.seq (.seq (cR [oM 47 13,
 oA 48 (.bin .eql) [.t 47,.c (.int .i64 (0))],
 oM 49 12,
 oA 50 (.eqBool true) [.t 48,.t 49],
 oM 51 50,
 oG (some 52) .move [.t 12] 51 false,
 oG (some 53) (.un .not) [.t 52] 51 false,
 oG (some 54) .move [.t 53] 51 false,
 oG (some 55) .move [.t 13] 54 true,
 oG (some 56) (.bin .neq) [.t 55,.c (.int .i64 (1))] 54 true,
 oG (some 57) .move [.t 56] 54 true,
 oG (some 58) .move [.t 8] 57 false,
 oG (some 59) .call [.c (.func (.func 16) #[] #[]),.t 58] 57 false,
 oG (some 60) (.bin .neq) [.t 59,.c (.int .i64 (0))] 57 false,
 oG (some 61) .pick [.t 57,.c (.bool true),.t 60] 54 true,
 oG (some 62) .pick [.t 54,.t 61,.c (.bool false)] 51 false,
 oA 63 .pick [.t 51,.c (.bool true),.t 62]] [0,2,8,9,11,12,63])
 (.cond (.t 63) (.seq (cR [oA 6 .move [.c (.bool false)]] [6])
 (.ret))
 (.skip)))
 (.seq (cR [oM 65 8,
 oM 66 0,
 oA 67 .call [.c (.func (.func 17) #[] #[]),.t 65,.t 66],
 oM 64 67,
 oA 68 (.extract 0) [.t 64],
 oA 69 (.extract 1) [.t 64],
 oM 14 68,
 oM 15 69] [0,2,8,9,11,12,15])
 (.seq (cR [oM 70 8,
 oM 71 0,
 oM 72 2,
 oA 73 .call [.c (.func (.func 18) #[] #[]),.t 70,.t 71,.t 72],
 oM 16 73] [0,2,8,9,11,12,15,16])
 (.seq (cR [oM 74 0,
 oA 75 (.bin .geq) [.t 74,.c (.int .i64 (0))],
 oM 76 75,
 oG (some 77) .move [.t 2] 76 true,
 oG (some 78) (.bin .geq) [.t 77,.c (.int .i64 (0))] 76 true,
 oA 79 .pick [.t 76,.t 78,.c (.bool false)],
 oM 80 79,
 oG (some 81) .move [.t 0] 80 true,
 oG (some 82) (.bin .leq) [.t 81,.c (.int .i64 (30))] 80 true,
 oA 83 .pick [.t 80,.t 82,.c (.bool false)],
 oM 84 83,
 oG (some 85) .move [.t 2] 84 true,
 oG (some 86) .move [.t 0] 84 true,
 oG (some 87) (.bin .sub) [.c (.int .i64 (30)),.t 86] 84 true,
 oG (some 88) (.bin .leq) [.t 85,.t 87] 84 true,
 oA 89 .pick [.t 84,.t 88,.c (.bool false)],
 oM 17 89] [8,9,11,12,15,16,17])
 (.seq (.seq (cR [oM 90 12,
 oA 91 (.un .not) [.t 90]] [8,9,11,15,16,17,91])
 (.cond (.t 91) (.seq (cR [oM 92 15,
 oA 93 (.bin .eql) [.t 92,.c (.int .i64 (0))],
 oM 94 11,
 oA 95 (.eqBool false) [.t 93,.t 94],
 oM 96 95,
 oG (some 97) .move [.t 16] 96 true,
 oG (some 98) (.bin .eql) [.t 97,.c (.int .i64 (0))] 96 true,
 oG (some 99) .move [.t 17] 96 true,
 oG (some 100) (.eqBool false) [.t 98,.t 99] 96 true,
 oA 101 .pick [.t 96,.t 100,.c (.bool false)],
 oM 102 101,
 oG (some 103) .move [.t 17] 102 true,
 oG (some 104) .move [.t 103] 102 true,
 oG (some 105) .move [.t 16] 104 false,
 oG (some 106) (.bin .eql) [.t 105,.c (.int .i64 (1))] 104 false,
 oG (some 107) .move [.t 106] 104 false,
 oG (some 108) .move [.t 8] 107 true,
 oG (some 109) .call [.c (.func (.func 16) #[] #[]),.t 108] 107 true,
 oG (some 110) (.bin .eql) [.t 109,.c (.int .i64 (0))] 107 true,
 oG (some 111) .pick [.t 107,.t 110,.c (.bool false)] 104 false,
 oG (some 112) .pick [.t 104,.c (.bool true),.t 111] 102 true,
 oA 113 .pick [.t 102,.t 112,.c (.bool false)],
 oM 114 113,
 oG (some 115) .move [.t 9] 114 true,
 oG (some 116) .nilCheck [.t 115] 114 true,
 oG (some 117) (.fieldAddr 2) [.t 116] 114 true,
 oG (some 118) (.load false 1) [.t 117] 114 true,
 oG (some 119) .nilCheck [.t 118] 114 true,
 oG (some 120) (.fieldAddr 1) [.t 119] 114 true,
 oG (some 121) (.load false 1) [.t 120] 114 true,
 oG (some 122) .lenS [.t 121] 114 true,
 oG (some 123) (.bin .eql) [.t 122,.c (.int .i64 (0))] 114 true,
 oA 124 .pick [.t 114,.t 123,.c (.bool false)],
 oM 6 124] [6])
 (.ret))
 (.skip)))
 (.seq (cR [oM 125 15,
 oA 126 (.bin .eql) [.t 125,.c (.int .i64 (0))],
 oM 127 126,
 oG (some 128) .move [.t 16] 127 true,
 oG (some 129) (.bin .eql) [.t 128,.c (.int .i64 (0))] 127 true,
 oG (some 130) .move [.t 17] 127 true,
 oG (some 131) (.eqBool false) [.t 129,.t 130] 127 true,
 oA 132 .pick [.t 127,.t 131,.c (.bool false)],
 oM 6 132] [6])
 (.ret)))))))))))))),
 [.tmp 6], none⟩

def f13 : Func := ⟨.seq (cR [oA 0 .move [.c (.bool false)]] [])
 (.seq (cR [oA 13 .call [.c (.func (.func 14) #[] #[]),.c (.int .i64 (64)),.c (.int .i64 (20)),.c (.float .f64 4607182418800017408)],
 oM 12 13,
 oA 14 (.extract 0) [.t 12],
 oA 15 (.extract 1) [.t 12],
 oA 16 (.extract 2) [.t 12],
 oM 1 14,
 oM 2 15,
 oM 3 16] [1,2])
 (.seq (.seq (cR [oM 17 2,
 oA 18 (.isNil .ptr false) [.t 17]] [1,2,18])
 (.cond (.t 18) (.seq (cR [oA 0 .move [.c (.bool false)]] [0])
 (.ret))
 (.skip)))
 (.seq (cR [oM 19 2,
 oA 20 .call [.c (.func (.func 27) #[] #[]),.c (.int .i64 (5)),.c (.int .u8 (7))],
 oA 21 .call [.c (.func (.func 15) #[] #[]),.t 19,.c (.int .i64 (3)),.t 20],
 oM 4 21] [1,2,4])
 (.seq (cR [oM 22 2,
 oA 23 .call [.c (.func (.func 30) #[] #[]),.t 22],
 oM 5 23] [1,2,4,5])
 (.seq (cR [oM 25 1,
 oA 26 .call [.c (.func (.func 21) #[] #[]),.t 25],
 oM 24 26,
 oA 27 (.extract 0) [.t 24],
 oA 28 (.extract 1) [.t 24],
 oM 6 27,
 oM 7 28] [2,4,5,6,7])
 (.seq (.seq (cR [oM 29 4,
 oA 30 (.bin .neq) [.t 29,.c (.int .i64 (0))],
 oM 31 30,
 oG (some 32) .move [.t 5] 31 false,
 oG (some 33) (.bin .neq) [.t 32,.c (.int .i64 (0))] 31 false,
 oA 34 .pick [.t 31,.c (.bool true),.t 33],
 oM 35 34,
 oG (some 36) .move [.t 7] 35 false,
 oG (some 37) (.bin .neq) [.t 36,.c (.int .i64 (0))] 35 false,
 oA 38 .pick [.t 35,.c (.bool true),.t 37],
 oM 39 38,
 oG (some 40) .move [.t 6] 39 false,
 oG (some 41) (.isNil .ptr false) [.t 40] 39 false,
 oA 42 .pick [.t 39,.c (.bool true),.t 41]] [2,6,42])
 (.cond (.t 42) (.seq (cR [oA 0 .move [.c (.bool false)]] [0])
 (.ret))
 (.skip)))
 (.seq (cR [oM 44 6,
 oA 45 .call [.c (.func (.func 17) #[] #[]),.t 44,.c (.int .i64 (3))],
 oM 43 45,
 oA 46 (.extract 0) [.t 43],
 oA 47 (.extract 1) [.t 43],
 oM 8 46,
 oM 9 47] [2,6,8,9])
 (.seq (cR [oM 49 6,
 oA 50 .call [.c (.func (.func 17) #[] #[]),.t 49,.c (.int .i64 (4))],
 oM 48 50,
 oA 51 (.extract 0) [.t 48],
 oA 52 (.extract 1) [.t 48],
 oM 10 51,
 oM 11 52] [2,6,8,9,10,11])
 (.seq (cD [⟨[oM 53 9,
 oA 54 (.bin .eql) [.t 53,.c (.int .i64 (0))],
 oM 55 54,
 oG (some 56) .move [.t 11] 55 true,
 oG (some 57) (.bin .eql) [.t 56,.c (.int .i64 (0))] 55 true,
 oA 58 .pick [.t 55,.t 57,.c (.bool false)],
 oM 59 58,
 oG (some 60) .move [.t 8] 59 true,
 oG (some 61) .toStr [.t 60] 59 true],some (oG (some 62) .call [.c (.func (.func 27) #[] #[]),.c (.int .i64 (5)),.c (.int .u8 (7))] 59 true),[61],[]⟩,
 ⟨[oG (some 63) .toStr [.t 62] 59 true,
 oG (some 64) (.eqStr false) [.t 61,.t 63] 59 true,
 oA 65 .pick [.t 59,.t 64,.c (.bool false)],
 oM 66 65,
 oG (some 67) .move [.t 10] 66 true,
 oG (some 68) .toStr [.t 67] 66 true],some (oG (some 69) (.newSlice 5 1 1 [(.int .u8 (0))]) [.c (.int .i64 (128)),.c (.int .i64 (128))] 66 true),[68],[]⟩,
 ⟨[oG (some 70) .toStr [.t 69] 66 true,
 oG (some 71) (.eqStr false) [.t 68,.t 70] 66 true,
 oA 72 .pick [.t 66,.t 71,.c (.bool false)],
 oM 73 72,
 oG (some 74) .move [.t 6] 73 true],some (oG (some 75) .call [.c (.func (.func 37) #[] #[]),.t 74] 73 true),[],[]⟩,
 ⟨[oG (some 76) (.bin .eql) [.t 75,.c (.int .i64 (20))] 73 true,
 oA 77 .pick [.t 73,.t 76,.c (.bool false)],
 oM 78 77,
 oG (some 79) .move [.t 2] 78 true],some (oG (some 80) .call [.c (.func (.func 16) #[] #[]),.t 79] 78 true),[],[]⟩,
 ⟨[oG (some 81) (.bin .eql) [.t 80,.c (.int .i64 (0))] 78 true,
 oA 82 .pick [.t 78,.t 81,.c (.bool false)],
 oM 0 82],none,[],[]⟩] [53,54,55,56,57,58,59,60,61,62,63,64,65,66,67,68,69,70,71,72,73,74,75,76,77,78,79,80,81,82,0] [0])
 (.ret)))))))))),
 [.tmp 0], none⟩

def f14 : Func := ⟨.seq (cR [oA 6 .move [.c (.pointer none)],
 oA 7 .move [.c (.pointer none)],
 oA 8 .move [.c (.pointer none)]] [0,1,2])
 (.seq (cR [oM 14 0,
 oA 15 .call [.c (.func (.func 38) #[] #[]),.t 14],
 oM 13 15,
 oA 16 (.extract 0) [.t 13],
 oA 17 (.extract 1) [.t 13],
 oM 9 16,
 oM 10 17] [1,2,9,10])
 (.seq (.seq (cR [oM 18 10,
 oA 19 (.bin .neq) [.t 18,.c (.int .i64 (0))],
 oM 20 19,
 oG (some 21) .move [.t 9] 20 false,
 oG (some 22) .move [.t 1] 20 false,
 oG (some 23) .move [.t 2] 20 false,
 oG (some 24) .call [.c (.func (.func 39) #[] #[]),.t 21,.t 22,.t 23] 20 false,
 oG (some 25) (.bin .neq) [.t 24,.c (.int .i64 (0))] 20 false,
 oA 26 .pick [.t 20,.c (.bool true),.t 25]] [1,9,26])
 (.cond (.t 26) (.seq (cR [oA 6 .move [.c (.pointer none)],
 oA 7 .move [.c (.pointer none)],
 oA 8 .move [.c (.pointer none)]] [6,7,8])
 (.ret))
 (.skip)))
 (.seq (cR [oM 28 9,
 oA 29 .call [.c (.func (.func 21) #[] #[]),.t 28],
 oM 27 29,
 oA 30 (.extract 0) [.t 27],
 oA 31 (.extract 1) [.t 27],
 oM 11 30,
 oM 12 31] [1,9,11,12])
 (.seq (.seq (cR [oM 32 12,
 oA 33 (.bin .neq) [.t 32,.c (.int .i64 (0))]] [1,9,11,33])
 (.cond (.t 33) (.seq (cR [oA 6 .move [.c (.pointer none)],
 oA 7 .move [.c (.pointer none)],
 oA 8 .move [.c (.pointer none)]] [6,7,8])
 (.ret))
 (.skip)))
 (.seq (cR [oM 34 9,
 oM 35 11,
 oM 36 1,
 oA 37 .call [.c (.func (.func 40) #[] #[]),.t 36],
 oM 6 34,
 oM 7 35,
 oM 8 37] [6,7,8])
 (.ret)))))),
 [.tmp 6, .tmp 7, .tmp 8], none⟩

def f15 : Func := ⟨.seq (cR [oA 6 .move [.c (.int .i64 (0))]] [0,1,2])
 (.seq (.block 0 (.seq (cR [oM 9 0,
 oA 10 (.isNil .ptr false) [.t 9],
 oM 11 10,
 oG (some 12) .move [.t 0] 11 false,
 oG (some 13) .move [.t 1] 11 false,
 oG (some 14) .call [.c (.func (.func 41) #[] #[]),.t 12,.t 13,.c (.int .i64 (1))] 11 false,
 oG (some 15) (.un .not) [.t 14] 11 false,
 oA 16 .pick [.t 11,.c (.bool true),.t 15],
 oM 17 16,
 oG (some 18) .move [.t 2] 17 false,
 oG (some 19) .lenS [.t 18] 17 false,
 oG (some 20) (.bin .neq) [.t 19,.c (.int .i64 (128))] 17 false,
 oA 21 .pick [.t 17,.c (.bool true),.t 20],
 oM 8 21] [0,1,2,8])
 (.cond (.t 8) (.seq (cR [oA 6 .move [.c (.int .i64 (1))]] [6])
 (.ret))
 (.seq (cR [oM 23 0,
 oA 24 .call [.c (.func (.func 28) #[] #[]),.t 23],
 oM 22 24] [0,1,2,22])
 (.cond (.t 22) (.seq (cR [oA 6 .move [.c (.int .i64 (9))]] [6])
 (.ret))
 (.skip))))))
 (.seq (.seq (cR [oM 25 0,
 oA 26 .nilCheck [.t 25],
 oA 27 (.fieldAddr 1) [.t 26],
 oA 28 (.load false 1) [.t 27],
 oM 29 1,
 oA 30 (.buildSlice 3 1 1 [(.int .i64 (0))] [(0, 1)]) [.t 29],
 oA 31 .call [.c (.func (.func 42) #[] #[]),.t 28,.t 30],
 oA 32 (.un .not) [.t 31]] [0,1,2,32])
 (.cond (.t 32) (.seq (cR [oM 33 0,
 oA 34 .call [.c (.func (.func 30) #[] #[]),.t 33],
 oM 7 34] [0,1,2,7])
 (.seq (cR [oM 35 7,
 oA 36 (.bin .neq) [.t 35,.c (.int .i64 (0))]] [0,1,2,7,36])
 (.cond (.t 36) (.seq (cR [oM 37 7,
 oM 6 37] [6])
 (.ret))
 (.skip))))
 (.skip)))
 (.seq (cR [oM 38 0,
 oA 39 .nilCheck [.t 38],
 oA 40 (.fieldAddr 1) [.t 39],
 oA 41 (.load false 1) [.t 40],
 oM 42 1,
 oM 43 2,
 oA 44 .call [.c (.func (.func 43) #[] #[]),.t 41,.t 42,.t 43]] [])
 (.seq (cR [oA 6 .move [.c (.int .i64 (0))]] [6])
 (.ret))))),
 [.tmp 6], none⟩

def f16 : Func := ⟨.seq (cR [oA 2 .move [.c (.int .i64 (0))]] [0])
 (.seq (.seq (cR [oM 3 0,
 oA 4 (.isNil .ptr false) [.t 3]] [0,4])
 (.cond (.t 4) (.seq (cR [oA 2 .move [.c (.int .i64 (0))]] [2])
 (.ret))
 (.skip)))
 (.seq (cR [oM 5 0,
 oA 6 .nilCheck [.t 5],
 oA 7 (.fieldAddr 1) [.t 6],
 oA 8 (.load false 1) [.t 7],
 oA 9 .call [.c (.func (.func 44) #[] #[]),.t 8],
 oM 2 9] [2])
 (.ret))),
 [.tmp 2], none⟩

def f17 : Func := ⟨.seq (cR [oA 4 .move [.c (.slice none 0 0)],
 oA 5 .move [.c (.int .i64 (0))]] [0,1])
 (.seq (.seq (cR [oM 13 0,
 oA 14 (.isNil .ptr false) [.t 13],
 oM 15 14,
 oG (some 16) .move [.t 0] 15 false,
 oG (some 17) .move [.t 1] 15 false,
 oG (some 18) .call [.c (.func (.func 41) #[] #[]),.t 16,.t 17,.c (.int .i64 (1))] 15 false,
 oG (some 19) (.un .not) [.t 18] 15 false,
 oA 20 .pick [.t 15,.c (.bool true),.t 19]] [0,1,20])
 (.cond (.t 20) (.seq (cR [oA 4 .move [.c (.slice none 0 0)],
 oA 5 .move [.c (.int .i64 (1))]] [4,5])
 (.ret))
 (.skip)))
 (.seq (cR [oA 21 (.newSlice 5 1 1 [(.int .u8 (0))]) [.c (.int .i64 (128)),.c (.int .i64 (128))],
 oM 6 21] [0,1,6])
 (.seq (.seq (cR [oM 23 0,
 oA 24 .nilCheck [.t 23],
 oA 25 (.fieldAddr 1) [.t 24],
 oA 26 (.load false 1) [.t 25],
 oM 27 1,
 oA 28 .call [.c (.func (.func 45) #[] #[]),.t 26,.t 27],
 oM 22 28,
 oA 29 (.extract 0) [.t 22],
 oA 30 (.extract 1) [.t 22],
 oM 7 29,
 oM 8 30] [0,1,6,7,8])
 (.seq (cR [oM 31 8] [0,1,6,7,31])
 (.cond (.t 31) (.seq (.seq (cR [oM 32 7,
 oA 33 (.isNil .slice false) [.t 32]] [6,7,33])
 (.cond (.t 33) (cR [oM 34 6,
 oM 7 34] [7])
 (.skip)))
 (.seq (cR [oM 35 7,
 oM 4 35,
 oA 5 .move [.c (.int .i64 (0))]] [4,5])
 (.ret)))
 (.skip))))
 (.seq (cR [oM 37 0,
 oA 38 .nilCheck [.t 37],
 oA 39 (.fieldAddr 0) [.t 38],
 oA 40 (.load false 1) [.t 39],
 oM 41 1,
 oA 42 .call [.c (.func (.func 46) #[] #[]),.t 40,.t 41],
 oM 36 42,
 oA 43 (.extract 0) [.t 36],
 oA 44 (.extract 1) [.t 36],
 oA 45 (.extract 2) [.t 36],
 oA 9 (.new 112 5 [(.int .i64 (0)), (.int .i64 (0)), (.int .i64 (0)), (.int .i64 (0)), (.int .i64 (0))]) [],
 oN (.store 5) [.t 9,.t 43],
 oM 10 44,
 oM 11 45] [0,6,9,10,11])
 (.seq (.block 0 (.seq (cR [oM 47 11,
 oA 48 (.bin .neq) [.t 47,.c (.int .i64 (0))],
 oM 46 48] [0,6,9,10,11,46])
 (.cond (.t 46) (.seq (cR [oM 49 11,
 oA 50 .call [.c (.func (.func 47) #[] #[]),.t 49],
 oA 4 .move [.c (.slice none 0 0)],
 oM 5 50] [4,5])
 (.ret))
 (.seq (cR [oM 52 10,
 oA 53 (.un .not) [.t 52],
 oM 51 53] [0,6,9,51])
 (.cond (.t 51) (.seq (cR [oM 54 6,
 oM 4 54,
 oA 5 .move [.c (.int .i64 (0))]] [4,5])
 (.ret))
 (.skip))))))
 (.seq (cD [⟨[oM 56 0,
 oA 57 .nilCheck [.t 56],
 oA 58 (.fieldAddr 0) [.t 57],
 oA 59 (.load false 1) [.t 58],
 oA 61 (.fieldAddr 1) [.t 9],
 oA 62 (.load true 3) [.t 61],
 oA 63 (.fieldAddr 4) [.t 9],
 oA 64 (.load false 1) [.t 63]],some (oA 60 .call [.c (.func (.func 48) #[] #[]),.t 59]),[62,64],[]⟩,
 ⟨[],some (oA 65 .call [.c (.func (.func 49) #[] #[]),.t 60,.t 62,.t 64]),[],[]⟩,
 ⟨[oM 55 65,
 oA 66 (.extract 0) [.t 55],
 oA 67 (.extract 1) [.t 55],
 oM 12 66,
 oM 11 67],none,[],[]⟩] [56,57,58,59,60,61,62,63,64,65,55,66,67,12,11] [9,11,12])
 (.seq (.block 1 (.seq (cR [oM 69 11,
 oA 70 (.bin .neq) [.t 69,.c (.int .i64 (0))],
 oM 68 70] [9,11,12,68])
 (.cond (.t 68) (.seq (cR [oM 71 11,
 oA 72 .call [.c (.func (.func 47) #[] #[]),.t 71],
 oA 4 .move [.c (.slice none 0 0)],
 oM 5 72] [4,5])
 (.ret))
 (.seq (cR [oA 74 (.fieldAddr 1) [.t 9],
 oA 75 (.fieldAddr 2) [.t 74],
 oA 76 (.load false 1) [.t 75],
 oM 77 12,
 oA 78 .lenS [.t 77],
 oA 79 (.bin .geq) [.t 76,.t 78],
 oM 73 79] [9,12,73])
 (.cond (.t 73) (.seq (cR [oA 4 .move [.c (.slice none 0 0)],
 oA 5 .move [.c (.int .i64 (10))]] [4,5])
 (.ret))
 (.skip))))))
 (.seq (cR [oM 80 12,
 oA 81 (.fieldAddr 1) [.t 9],
 oA 82 (.fieldAddr 2) [.t 81],
 oA 83 (.load false 1) [.t 82],
 oA 84 (.idxAddr 1) [.t 80,.t 83],
 oA 85 (.load false 1) [.t 84],
 oM 4 85,
 oA 5 .move [.c (.int .i64 (0))]] [4,5])
 (.ret))))))))),
 [.tmp 4, .tmp 5], none⟩

def l18_0 : Code :=
 .seq (.seq (cR [oM 22 2,
 oA 23 (.bin .gtr) [.t 22,.c (.int .i64 (0))]] [0,1,2,23])
 (.cond (.t 23) (.skip)
 (.exit 1)))
 (.block 2 (.seq (cR [oM 24 2,
 oA 25 .min [.t 24,.c (.int .i64 (64))],
 oM 7 25] [0,1,2,7])
 (.seq (.seq (cR [oM 26 0,
 oA 27 .nilCheck [.t 26],
 oA 28 (.fieldAddr 1) [.t 27],
 oA 29 (.load false 1) [.t 28],
 oM 30 1,
 oM 31 7,
 oA 32 .call [.c (.func (.func 50) #[] #[]),.t 29,.t 30,.t 31],
 oA 33 (.un .not) [.t 32]] [0,1,2,7,33])
 (.cond (.t 33) (.seq (.seq (cR [oM 34 0,
 oA 35 .call [.c (.func (.func 30) #[] #[]),.t 34],
 oM 8 35] [0,1,2,7,8])
 (.seq (cR [oM 36 8,
 oA 37 (.bin .neq) [.t 36,.c (.int .i64 (0))]] [0,1,2,7,8,37])
 (.cond (.t 37) (.seq (cR [oM 38 8,
 oM 6 38] [6])
 (.ret))
 (.skip))))
 (cR [oM 39 0,
 oA 40 .nilCheck [.t 39],
 oA 41 (.fieldAddr 1) [.t 40],
 oA 42 (.load false 1) [.t 41],
 oM 43 1,
 oM 44 7,
 oA 45 .call [.c (.func (.func 50) #[] #[]),.t 42,.t 43,.t 44]] [0,1,2,7]))
 (.skip)))
 (cR [oM 46 1,
 oM 47 7,
 oA 48 (.bin .add) [.t 46,.t 47],
 oM 49 2,
 oM 50 7,
 oA 51 (.bin .sub) [.t 49,.t 50],
 oM 1 48,
 oM 2 51] [0,1,2]))))
def f18 : Func := ⟨.seq (cR [oA 6 .move [.c (.int .i64 (0))]] [0,1,2])
 (.seq (.block 0 (.seq (cR [oM 10 0,
 oA 11 (.isNil .ptr false) [.t 10],
 oM 12 11,
 oG (some 13) .move [.t 0] 12 false,
 oG (some 14) .move [.t 1] 12 false,
 oG (some 15) .move [.t 2] 12 false,
 oG (some 16) .call [.c (.func (.func 41) #[] #[]),.t 13,.t 14,.t 15] 12 false,
 oG (some 17) (.un .not) [.t 16] 12 false,
 oA 18 .pick [.t 12,.c (.bool true),.t 17],
 oM 9 18] [0,1,2,9])
 (.cond (.t 9) (.seq (cR [oA 6 .move [.c (.int .i64 (1))]] [6])
 (.ret))
 (.seq (cR [oM 20 0,
 oA 21 .call [.c (.func (.func 28) #[] #[]),.t 20],
 oM 19 21] [0,1,2,19])
 (.cond (.t 19) (.seq (cR [oA 6 .move [.c (.int .i64 (9))]] [6])
 (.ret))
 (.skip))))))
 (.seq (.block 1 (.loop [0,1,2] l18_0))
 (.seq (cR [oA 6 .move [.c (.int .i64 (0))]] [6])
 (.ret)))),
 [.tmp 6], none⟩

def f21 : Func := ⟨.seq (cR [oA 2 .move [.c (.pointer none)],
 oA 3 .move [.c (.int .i64 (0))]] [0])
 (.seq (cR [oM 7 0,
 oA 8 .call [.c (.func (.func 53) #[] #[]),.t 7],
 oM 6 8,
 oA 9 (.extract 0) [.t 6],
 oA 10 (.extract 1) [.t 6],
 oM 4 9,
 oM 5 10] [4,5])
 (.seq (.seq (cR [oM 11 5,
 oA 12 (.bin .neq) [.t 11,.c (.int .i64 (0))]] [4,5,12])
 (.cond (.t 12) (.seq (cR [oM 13 5,
 oA 2 .move [.c (.pointer none)],
 oM 3 13] [2,3])
 (.ret))
 (.skip)))
 (.seq (cR [oM 14 4,
 oA 15 .call [.c (.func (.func 54) #[] #[]),.c (.int .i64 (64))],
 oA 16 (.build [(.pointer none), (.pointer none)] [(0, 1), (1, 1)]) [.t 14,.t 15],
 oA 17 (.box 107 2) [.t 16],
 oM 2 17,
 oA 3 .move [.c (.int .i64 (0))]] [2,3])
 (.ret)))),
 [.tmp 2, .tmp 3], none⟩

def f22 : Func := ⟨.seq (cR [oA 2 .move [.c (.pointer none)]] [0])
 (.seq (.seq (cR [oM 3 0,
 oA 4 (.isNil .ptr false) [.t 3]] [0,4])
 (.cond (.t 4) (.seq (cR [oA 2 .move [.c (.pointer none)]] [2])
 (.ret))
 (.skip)))
 (.seq (cR [oM 5 0,
 oA 6 .nilCheck [.t 5],
 oA 7 (.fieldAddr 0) [.t 6],
 oA 8 (.load false 1) [.t 7],
 oM 2 8] [2])
 (.ret))),
 [.tmp 2], none⟩

def f24 : Func := ⟨.seq (cR [oA 2 (.new 77 8 [(.int .i64 (0)), (.int .i64 (0)), (.int .i64 (0)), (.float .f64 0), (.int .i64 (0)), (.int .i64 (0)), (.int .i64 (0)), (.int .i64 (0))]) []] [0,2])
 (.seq (.seq (cR [oM 3 0,
 oA 4 .call [.c (.func (.func 55) #[] #[]),.t 3],
 oA 5 (.un .not) [.t 4]] [0,2,5])
 (.cond (.t 5) (.seq (cR [oA 6 (.build [(.int .i64 (0)), (.int .i64 (0)), (.int .i64 (0)), (.float .f64 0), (.int .i64 (0)), (.int .i64 (0)), (.int .i64 (0)), (.int .i64 (0))] []) [],
 oN (.store 8) [.t 2,.t 6]] [2])
 (.ret))
 (.skip)))
 (.seq (cR [oM 7 0,
 oA 8 .nilCheck [.t 7],
 oA 9 (.fieldAddr 1) [.t 8],
 oA 10 (.load true 8) [.t 9],
 oN (.store 8) [.t 2,.t 10]] [2])
 (.ret))),
 [.cell 2 true 8], none⟩

def l27_0 : Code :=
 .seq (.seq (cR [oM 8 6,
 oA 9 (.bin .lss) [.t 8,.c (.int .i64 (128))]] [0,1,5,6,9])
 (.cond (.t 9) (.skip)
 (.exit 0)))
 (.seq (.block 1 (cR [oM 12 5,
 oM 13 6,
 oM 14 1,
 oM 15 6,
 oM 16 0,
 oA 17 (.bin .and) [.t 16,.c (.int .i64 (65535))],
 oA 18 (.bin .mul) [.t 15,.t 17],
 oA 19 (.bin .quo) [.t 18,.c (.int .i64 (16))],
 oA 20 (.toInt .u8) [.t 19],
 oA 21 (.bin .add) [.t 14,.t 20],
 oA 22 (.idxAddr 1) [.t 12,.t 13],
 oN (.store 1) [.t 22,.t 21]] [0,1,5,6]))
 (cR [oM 10 6,
 oA 11 (.bin .add) [.t 10,.c (.int .i64 (1))],
 oM 6 11] [0,1,5,6]))
def f27 : Func := ⟨.seq (cR [oA 4 .move [.c (.slice none 0 0)]] [0,1])
 (.seq (cR [oA 7 (.newSlice 5 1 1 [(.int .u8 (0))]) [.c (.int .i64 (128)),.c (.int .i64 (128))],
 oM 5 7] [0,1,5])
 (.seq (.seq (cR [oA 6 .move [.c (.int .i64 (0))]] [0,1,5,6])
 (.block 0 (.loop [0,1,5,6] l27_0)))
 (.seq (cR [oM 23 5,
 oM 4 23] [4])
 (.ret)))),
 [.tmp 4], none⟩

def f28 : Func := ⟨.seq (cR [oA 2 .move [.c (.bool false)]] [0])
 (.seq (cR [oM 3 0,
 oA 4 .call [.c (.func (.func 22) #[] #[]),.t 3],
 oA 5 .call [.c (.func (.func 58) #[] #[]),.t 4],
 oM 2 5] [2])
 (.ret)),
 [.tmp 2], none⟩

def f30 : Func := ⟨.seq (cR [oA 2 .move [.c (.int .i64 (0))]] [0])
 (.seq (.block 0 (.seq (cR [oM 7 0,
 oA 8 (.isNil .ptr false) [.t 7],
 oM 6 8] [0,6])
 (.cond (.t 6) (.seq (cR [oA 2 .move [.c (.int .i64 (1))]] [2])
 (.ret))
 (.seq (cR [oM 10 0,
 oA 11 .nilCheck [.t 10],
 oA 12 (.fieldAddr 1) [.t 11],
 oA 13 (.load false 1) [.t 12],
 oA 14 .call [.c (.func (.func 44) #[] #[]),.t 13],
 oA 15 (.bin .eql) [.t 14,.c (.int .i64 (0))],
 oM 9 15] [0,9])
 (.cond (.t 9) (.seq (cR [oA 2 .move [.c (.int .i64 (0))]] [2])
 (.ret))
 (.seq (cR [oM 17 0,
 oA 18 .call [.c (.func (.func 28) #[] #[]),.t 17],
 oM 16 18] [0,16])
 (.cond (.t 16) (.seq (cR [oA 2 .move [.c (.int .i64 (9))]] [2])
 (.ret))
 (.skip))))))))
 (.seq (cR [oM 20 0,
 oA 21 .call [.c (.func (.func 60) #[] #[]),.t 20],
 oM 19 21,
 oA 22 (.extract 0) [.t 19],
 oA 23 (.extract 1) [.t 19],
 oA 24 (.extract 2) [.t 19],
 oM 3 22,
 oM 4 23,
 oM 5 24] [0,3,4,5])
 (.seq (.seq (cR [oM 25 5,
 oA 26 (.bin .neq) [.t 25,.c (.int .i64 (0))]] [0,3,4,5,26])
 (.cond (.t 26) (.seq (cR [oM 27 0,
 oA 28 .nilCheck [.t 27],
 oA 29 (.fieldAddr 0) [.t 28],
 oA 30 (.load false 1) [.t 29],
 oA 31 .call [.c (.func (.func 61) #[] #[]),.t 30]] [5])
 (.seq (cR [oM 32 5,
 oM 2 32] [2])
 (.ret)))
 (.skip)))
 (.seq (cR [oM 33 0,
 oA 34 .nilCheck [.t 33],
 oA 35 (.fieldAddr 0) [.t 34],
 oA 36 (.load false 1) [.t 35],
 oM 37 3,
 oM 38 4,
 oA 39 .call [.c (.func (.func 62) #[] #[]),.t 36,.t 37,.t 38],
 oM 5 39] [0,5])
 (.seq (.seq (cR [oM 40 5,
 oA 41 (.bin .eql) [.t 40,.c (.int .i64 (0))],
 oM 42 41,
 oG (some 43) .move [.t 0] 42 false,
 oG (some 44) .call [.c (.func (.func 28) #[] #[]),.t 43] 42 false,
 oA 45 .pick [.t 42,.c (.bool true),.t 44]] [0,5,45])
 (.cond (.t 45) (cR [oM 46 0,
 oA 47 .nilCheck [.t 46],
 oA 48 (.fieldAddr 1) [.t 47],
 oA 49 (.load false 1) [.t 48],
 oA 50 .call [.c (.func (.func 63) #[] #[]),.t 49]] [5])
 (.skip)))
 (.seq (cR [oM 51 5,
 oM 2 51] [2])
 (.ret))))))),
 [.tmp 2], none⟩

def f37 : Func := ⟨.seq (cR [oA 2 .move [.c (.int .i64 (0))]] [0])
 (.seq (cR [oM 3 0,
 oA 4 .call [.c (.func (.func 22) #[] #[]),.t 3],
 oA 5 .call [.c (.func (.func 24) #[] #[]),.t 4],
 oA 6 (.field 2 false 1) [.t 5],
 oM 2 6] [2])
 (.ret)),
 [.tmp 2], none⟩

def l38_0 : Code :=
 .seq (cR [oA 15 (.bin .lss) [.t 14,.t 13]] [4,13,14,15])
 (.seq (.cond (.t 15) (.skip)
 (.exit 0))
 (.seq (.block 1 (cD [⟨[oM 16 4,
 oM 17 4,
 oA 18 .nilCheck [.t 17],
 oA 19 (.fieldAddr 0) [.t 18],
 oA 20 (.load false 1) [.t 19]],some (oA 21 (.newSlice 5 1 1 [(.int .u8 (0))]) [.c (.int .i64 (64)),.c (.int .i64 (64))]),[20],[]⟩,
 ⟨[],some (oA 22 (.buildSlice 40 1 1 [(.slice none 0 0)] [(0, 1)]) [.t 21]),[20],[]⟩,
 ⟨[],some (oA 23 (.append 40 1 24) [.t 20,.t 22]),[],[]⟩,
 ⟨[oA 24 .nilCheck [.t 16],
 oA 25 (.fieldAddr 0) [.t 24]],some (oN (.store 1) [.t 25,.t 23]),[],[]⟩] [16,17,18,19,20,21,22,23,24,25] [4,13,14]))
 (cR [oA 26 (.bin .add) [.t 14,.c (.int .i64 (1))],
 oM 14 26] [4,13,14])))
def f38 : Func := ⟨.seq (cR [oA 2 .move [.c (.pointer none)],
 oA 3 .move [.c (.int .i64 (0))]] [0])
 (.seq (.seq (cR [oM 5 0,
 oA 6 (.bin .lss) [.t 5,.c (.int .i64 (64))],
 oM 7 6,
 oG (some 8) .move [.t 0] 7 false,
 oG (some 9) (.bin .gtr) [.t 8,.c (.int .i64 (8192))] 7 false,
 oA 10 .pick [.t 7,.c (.bool true),.t 9]] [0,10])
 (.cond (.t 10) (.seq (cR [oA 2 .move [.c (.pointer none)],
 oA 3 .move [.c (.int .i64 (1))]] [2,3])
 (.ret))
 (.skip)))
 (.seq (cR [oA 11 (.build [(.slice none 0 0), (.slice none 0 0), (.slice none 0 0), (.int .i64 (0)), (.int .i64 (0)), (.int .i64 (0)), (.int .i64 (0)), (.int .i64 (0)), (.int .i64 (0)), (.int .i64 (0)), (.int .i64 (0))] []) [],
 oA 12 (.box 136 11) [.t 11],
 oM 4 12] [0,4])
 (.seq (.seq (cR [oM 13 0,
 oA 14 .move [.c (.int .i64 (0))]] [4,13,14])
 (.block 0 (.loop [4,13,14] l38_0)))
 (.seq (cR [oM 27 4,
 oM 2 27,
 oA 3 .move [.c (.int .i64 (0))]] [2,3])
 (.ret))))),
 [.tmp 2, .tmp 3], none⟩

def f39 : Func := ⟨.seq (cR [oA 6 .move [.c (.int .i64 (0))]] [0,1,2])
 (.seq (cR [oM 7 0,
 oM 8 1,
 oM 9 2,
 oA 10 .call [.c (.func (.func 71) #[] #[]),.t 7,.t 8,.t 9],
 oM 6 10] [6])
 (.ret)),
 [.tmp 6], none⟩

def f40 : Func := ⟨.seq (cR [oA 2 .move [.c (.pointer none)]] [0])
 (.seq (cR [oM 3 0,
 oA 4 .newMap [],
 oA 5 .call [.c (.func (.func 72) #[] #[]),.c (.int .i64 (64))],
 oA 6 (.build [(.int .i64 (0)), (.map none), (.pointer none)] [(0, 1), (1, 1), (2, 1)]) [.t 3,.t 4,.t 5],
 oA 7 (.box 53 3) [.t 6],
 oM 2 7] [2])
 (.ret)),
 [.tmp 2], none⟩

def f41 : Func := ⟨.seq (cR [oA 6 .move [.c (.bool false)]] [0,1,2])
 (.seq (cR [oM 7 2,
 oA 8 (.bin .geq) [.t 7,.c (.int .i64 (0))],
 oM 9 8,
 oG (some 10) .move [.t 1] 9 true,
 oG (some 11) (.bin .geq) [.t 10,.c (.int .i64 (0))] 9 true,
 oA 12 .pick [.t 9,.t 11,.c (.bool false)],
 oM 13 12,
 oG (some 14) .move [.t 2] 13 true,
 oG (some 15) .move [.t 0] 13 true,
 oG (some 16) .call [.c (.func (.func 37) #[] #[]),.t 15] 13 true,
 oG (some 17) (.bin .leq) [.t 14,.t 16] 13 true,
 oA 18 .pick [.t 13,.t 17,.c (.bool false)],
 oM 19 18,
 oG (some 20) .move [.t 1] 19 true,
 oG (some 21) .move [.t 0] 19 true,
 oG (some 22) .call [.c (.func (.func 37) #[] #[]),.t 21] 19 true,
 oG (some 23) .move [.t 2] 19 true,
 oG (some 24) (.bin .sub) [.t 22,.t 23] 19 true,
 oG (some 25) (.bin .leq) [.t 20,.t 24] 19 true,
 oA 26 .pick [.t 19,.t 25,.c (.bool false)],
 oM 6 26] [6])
 (.ret)),
 [.tmp 6], none⟩

def l42_0 : Code :=
 .seq (cR [oA 17 (.bin .lss) [.t 16,.t 15]] [0,5,14,15,16,17])
 (.seq (.cond (.t 17) (.skip)
 (.exit 0))
 (.seq (.block 1 (.seq (cR [oA 18 (.idxAddr 1) [.t 14,.t 16],
 oA 19 (.load false 1) [.t 18],
 oM 7 19] [0,5,7,14,15,16])
 (.seq (cR [oM 21 0,
 oA 22 .nilCheck [.t 21],
 oA 23 (.fieldAddr 1) [.t 22],
 oA 24 (.load false 1) [.t 23],
 oM 25 7,
 oA 26 (.lookup none (.slice none 0 0) true) [.t 24,.t 25],
 oM 20 26,
 oA 27 (.extract 0) [.t 20],
 oA 28 (.extract 1) [.t 20],
 oM 8 27,
 oM 9 28] [0,5,7,9,14,15,16])
 (.seq (cR [oM 29 9,
 oA 30 (.un .not) [.t 29]] [0,5,7,14,15,16,30])
 (.cond (.t 30) (cR [oM 31 5,
 oM 32 7,
 oN (.mapSet none) [.t 31,.t 32,.c (.bool true)]] [0,5,14,15,16])
 (.skip))))))
 (cR [oA 33 (.bin .add) [.t 16,.c (.int .i64 (1))],
 oM 16 33] [0,5,14,15,16])))
def f42 : Func := ⟨.seq (cR [oA 4 .move [.c (.bool false)]] [0,1])
 (.seq (.seq (cR [oM 10 0,
 oA 11 .call [.c (.func (.func 73) #[] #[]),.t 10],
 oA 12 (.un .not) [.t 11]] [0,1,12])
 (.cond (.t 12) (.seq (cR [oA 4 .move [.c (.bool false)]] [4])
 (.ret))
 (.skip)))
 (.seq (cR [oA 13 .newMap [],
 oM 5 13] [0,1,5])
 (.seq (.seq (cR [oM 14 1,
 oA 15 .lenS [.t 14],
 oA 16 .move [.c (.int .i64 (0))]] [0,5,14,15,16])
 (.block 0 (.loop [0,5,14,15,16] l42_0)))
 (.seq (cD [⟨[oM 34 0,
 oA 35 .nilCheck [.t 34],
 oA 36 (.fieldAddr 1) [.t 35],
 oA 37 (.load false 1) [.t 36],
 oA 38 .lenM [.t 37],
 oM 39 5,
 oA 40 .lenM [.t 39],
 oA 41 (.bin .add) [.t 38,.t 40],
 oM 42 0,
 oA 43 .nilCheck [.t 42],
 oA 44 (.fieldAddr 0) [.t 43],
 oA 45 (.load false 1) [.t 44],
 oA 46 (.bin .leq) [.t 41,.t 45],
 oM 4 46],none,[],[]⟩] [34,35,36,37,38,39,40,41,42,43,44,45,46,4] [4])
 (.ret))))),
 [.tmp 4], none⟩

def f43 : Func := ⟨.seq (cR [oA 6 .move [.c (.bool false)]] [0,1,2])
 (.seq (.seq (cR [oM 7 2,
 oA 8 .lenS [.t 7],
 oA 9 (.bin .neq) [.t 8,.c (.int .i64 (128))],
 oM 10 9,
 oG (some 11) .move [.t 1] 10 false,
 oG (some 12) (.bin .lss) [.t 11,.c (.int .i64 (0))] 10 false,
 oA 13 .pick [.t 10,.c (.bool true),.t 12],
 oM 14 13,
 oG (some 15) .move [.t 0] 14 false,
 oG (some 16) .move [.t 1] 14 false,
 oG (some 17) (.buildSlice 3 1 1 [(.int .i64 (0))] [(0, 1)]) [.t 16] 14 false,
 oG (some 18) .call [.c (.func (.func 42) #[] #[]),.t 15,.t 17] 14 false,
 oG (some 19) (.un .not) [.t 18] 14 false,
 oA 20 .pick [.t 14,.c (.bool true),.t 19]] [0,1,2,20])
 (.cond (.t 20) (.seq (cR [oA 6 .move [.c (.bool false)]] [6])
 (.ret))
 (.skip)))
 (.seq (cD [⟨[oM 21 0,
 oA 22 .nilCheck [.t 21],
 oA 23 (.fieldAddr 1) [.t 22],
 oA 24 (.load false 1) [.t 23],
 oM 25 1,
 oM 26 2],some (oA 27 .call [.c (.func (.func 74) #[] #[]),.t 26]),[24],[]⟩,
 ⟨[],some (oN (.mapSet none) [.t 24,.t 25,.t 27]),[],[]⟩] [21,22,23,24,25,26,27] [])
 (.seq (cR [oA 6 .move [.c (.bool true)]] [6])
 (.ret)))),
 [.tmp 6], none⟩

def f44 : Func := ⟨.seq (cR [oA 2 .move [.c (.int .i64 (0))]] [0])
 (.seq (.seq (cR [oM 3 0,
 oA 4 (.isNil .ptr false) [.t 3]] [0,4])
 (.cond (.t 4) (.seq (cR [oA 2 .move [.c (.int .i64 (0))]] [2])
 (.ret))
 (.skip)))
 (.seq (cR [oM 5 0,
 oA 6 .nilCheck [.t 5],
 oA 7 (.fieldAddr 1) [.t 6],
 oA 8 (.load false 1) [.t 7],
 oA 9 .lenM [.t 8],
 oM 2 9] [2])
 (.ret))),
 [.tmp 2], none⟩

def f45 : Func := ⟨.seq (cR [oA 4 .move [.c (.slice none 0 0)],
 oA 5 .move [.c (.bool false)]] [0,1])
 (.seq (.seq (cR [oM 8 0,
 oA 9 .call [.c (.func (.func 73) #[] #[]),.t 8],
 oA 10 (.un .not) [.t 9]] [0,1,10])
 (.cond (.t 10) (.seq (cR [oA 4 .move [.c (.slice none 0 0)],
 oA 5 .move [.c (.bool false)]] [4,5])
 (.ret))
 (.skip)))
 (.seq (cR [oM 12 0,
 oA 13 .nilCheck [.t 12],
 oA 14 (.fieldAddr 1) [.t 13],
 oA 15 (.load false 1) [.t 14],
 oM 16 1,
 oA 17 (.lookup none (.slice none 0 0) true) [.t 15,.t 16],
 oM 11 17,
 oA 18 (.extract 0) [.t 11],
 oA 19 (.extract 1) [.t 11],
 oM 6 18,
 oM 7 19] [6,7])
 (.seq (cR [oM 20 6,
 oA 21 .call [.c (.func (.func 74) #[] #[]),.t 20],
 oM 22 7,
 oM 4 21,
 oM 5 22] [4,5])
 (.ret)))),
 [.tmp 4, .tmp 5], none⟩

def f46 : Func := ⟨.seq (cR [oA 4 (.new 112 5 [(.int .i64 (0)), (.int .i64 (0)), (.int .i64 (0)), (.int .i64 (0)), (.int .i64 (0))]) [],
 oA 5 .move [.c (.bool false)],
 oA 6 .move [.c (.int .i64 (0))]] [0,1,4])
 (.seq (.seq (cR [oM 7 0,
 oA 8 .call [.c (.func (.func 55) #[] #[]),.t 7],
 oA 9 (.un .not) [.t 8],
 oM 10 9,
 oG (some 11) .move [.t 1] 10 false,
 oG (some 12) (.bin .lss) [.t 11,.c (.int .i64 (0))] 10 false,
 oA 13 .pick [.t 10,.c (.bool true),.t 12],
 oM 14 13,
 oG (some 15) .move [.t 1] 14 false,
 oG (some 16) .move [.t 0] 14 false,
 oG (some 17) .nilCheck [.t 16] 14 false,
 oG (some 18) (.fieldAddr 1) [.t 17] 14 false,
 oG (some 19) (.fieldAddr 2) [.t 18] 14 false,
 oG (some 20) (.load false 1) [.t 19] 14 false,
 oG (some 21) (.bin .geq) [.t 15,.t 20] 14 false,
 oA 22 .pick [.t 14,.c (.bool true),.t 21]] [0,1,4,22])
 (.cond (.t 22) (.seq (cR [oA 23 (.build [(.int .i64 (0)), (.int .i64 (0)), (.int .i64 (0)), (.int .i64 (0)), (.int .i64 (0))] []) [],
 oN (.store 5) [.t 4,.t 23],
 oA 5 .move [.c (.bool false)],
 oA 6 .move [.c (.int .i64 (1))]] [4,5,6])
 (.ret))
 (.skip)))
 (.seq (cD [⟨[oM 24 0,
 oA 25 .nilCheck [.t 24],
 oA 26 (.fieldAddr 11) [.t 25],
 oA 27 (.load false 1) [.t 26],
 oA 28 (.iface 118) [.t 27],
 oM 29 0,
 oA 30 .nilCheck [.t 29],
 oA 31 (.fieldAddr 1) [.t 30],
 oA 32 (.fieldAddr 4) [.t 31],
 oA 33 (.load true 4) [.t 32],
 oM 34 1],some (oA 35 .call [.c (.func (.func 75) #[] #[]),.t 28,.t 33,.t 34]),[],[]⟩,
 ⟨[oA 36 (.extract 0) [.t 35],
 oA 37 (.extract 1) [.t 35],
 oA 38 (.extract 2) [.t 35]],some (oN (.store 5) [.t 4,.t 36]),[],[]⟩,
 ⟨[oM 5 37,
 oM 6 38],none,[],[]⟩] [24,25,26,27,28,29,30,31,32,33,34,35,36,37,38,5,6] [4,5,6])
 (.ret))),
 [.cell 4 true 5, .tmp 5, .tmp 6], none⟩

def f47 : Func := ⟨.seq (cR [oA 2 .move [.c (.int .i64 (0))]] [0])
 (.seq (.seq (cR [oM 3 0,
 oA 4 (.bin .eql) [.t 3,.c (.int .i64 (6))]] [0,4])
 (.cond (.t 4) (.seq (cR [oM 5 0,
 oM 2 5] [2])
 (.ret))
 (.skip)))
 (.seq (cR [oA 2 .move [.c (.int .i64 (10))]] [2])
 (.ret))),
 [.tmp 2], none⟩

def f48 : Func := ⟨.seq (cR [oA 2 .move [.c (.pointer none)]] [0])
 (.seq (.seq (cR [oM 3 0,
 oA 4 .call [.c (.func (.func 55) #[] #[]),.t 3],
 oA 5 (.un .not) [.t 4]] [0,5])
 (.cond (.t 5) (.seq (cR [oA 2 .move [.c (.pointer none)]] [2])
 (.ret))
 (.skip)))
 (.seq (cR [oM 6 0,
 oA 7 .nilCheck [.t 6],
 oA 8 (.fieldAddr 11) [.t 7],
 oA 9 (.load false 1) [.t 8],
 oM 2 9] [2])
 (.ret))),
 [.tmp 2], none⟩

def f49 : Func := ⟨.seq (cR [oA 4 (.box 110 3) [.t 1],
 oA 6 .move [.c (.slice none 0 0)],
 oA 7 .move [.c (.int .i64 (0))]] [0,2,4])
 (.seq (cR [oM 13 0,
 oA 14 (.fieldAddr 0) [.t 4],
 oA 15 (.load false 1) [.t 14],
 oA 16 (.fieldAddr 1) [.t 4],
 oA 17 (.load false 1) [.t 16],
 oA 18 (.build [(.int .i64 (0)), (.int .i64 (0))] [(0, 1), (1, 1)]) [.t 15,.t 17],
 oA 19 .call [.c (.func (.func 76) #[] #[]),.t 13,.t 18],
 oM 12 19,
 oA 20 (.extract 0) [.t 12],
 oA 21 (.extract 1) [.t 12],
 oM 8 20,
 oM 9 21] [2,8,9])
 (.seq (.seq (cR [oM 22 9,
 oA 23 (.bin .neq) [.t 22,.c (.int .i64 (0))]] [2,8,9,23])
 (.cond (.t 23) (.seq (cR [oM 24 9,
 oA 6 .move [.c (.slice none 0 0)],
 oM 7 24] [6,7])
 (.ret))
 (.skip)))
 (.seq (cR [oM 26 8,
 oA 27 .call [.c (.func (.func 77) #[] #[]),.t 26],
 oM 25 27,
 oA 28 (.extract 0) [.t 25],
 oA 29 (.extract 1) [.t 25],
 oA 30 (.extract 2) [.t 25],
 oM 10 28,
 oM 11 29,
 oM 9 30] [2,9,10,11])
 (.seq (.block 0 (.seq (cR [oM 32 9,
 oA 33 (.bin .neq) [.t 32,.c (.int .i64 (0))],
 oM 31 33] [2,9,10,11,31])
 (.cond (.t 31) (.seq (cR [oM 34 9,
 oA 6 .move [.c (.slice none 0 0)],
 oM 7 34] [6,7])
 (.ret))
 (.seq (cR [oM 36 11,
 oM 37 2,
 oA 38 (.bin .neq) [.t 36,.t 37],
 oM 35 38] [10,35])
 (.cond (.t 35) (.seq (cR [oA 6 .move [.c (.slice none 0 0)],
 oA 7 .move [.c (.int .i64 (5))]] [6,7])
 (.ret))
 (.skip))))))
 (.seq (cR [oM 39 10,
 oM 6 39,
 oA 7 .move [.c (.int .i64 (0))]] [6,7])
 (.ret)))))),
 [.tmp 6, .tmp 7], none⟩

def l50_0 : Code :=
 .seq (cR [oA 29 (.bin .lss) [.t 28,.t 27]] [0,1,7,27,28,29])
 (.seq (.cond (.t 29) (.skip)
 (.exit 0))
 (.seq (.block 1 (.seq (cR [oM 30 28,
 oM 8 30] [0,1,7,8,27,28])
 (cR [oM 31 7,
 oM 32 1,
 oM 33 8,
 oA 34 (.bin .add) [.t 32,.t 33],
 oA 35 (.buildSlice 3 1 1 [(.int .i64 (0))] [(0, 1)]) [.t 34],
 oA 36 (.append 3 1 8) [.t 31,.t 35],
 oM 7 36] [0,1,7,27,28])))
 (cR [oA 37 (.bin .add) [.t 28,.c (.int .i64 (1))],
 oM 28 37] [0,1,7,27,28])))
def l50_1 : Code :=
 .seq (cR [oA 45 (.bin .lss) [.t 44,.t 43]] [0,42,43,44,45])
 (.seq (.cond (.t 45) (.skip)
 (.exit 2))
 (.seq (.block 3 (.seq (cR [oA 46 (.idxAddr 1) [.t 42,.t 44],
 oA 47 (.load false 1) [.t 46],
 oM 10 47] [0,10,42,43,44])
 (cR [oM 48 0,
 oA 49 .nilCheck [.t 48],
 oA 50 (.fieldAddr 1) [.t 49],
 oA 51 (.load false 1) [.t 50],
 oM 52 10,
 oN (.mapSet none) [.t 51,.t 52,.c (.slice none 0 0)]] [0,42,43,44])))
 (cR [oA 53 (.bin .add) [.t 44,.c (.int .i64 (1))],
 oM 44 53] [0,42,43,44])))
def f50 : Func := ⟨.seq (cR [oA 6 .move [.c (.bool false)]] [0,1,2])
 (.seq (.seq (cR [oM 11 2,
 oA 12 (.bin .lss) [.t 11,.c (.int .i64 (0))],
 oM 13 12,
 oG (some 14) .move [.t 1] 13 false,
 oG (some 15) (.bin .lss) [.t 14,.c (.int .i64 (0))] 13 false,
 oA 16 .pick [.t 13,.c (.bool true),.t 15],
 oM 17 16,
 oG (some 18) .move [.t 2] 17 false,
 oG (some 19) (.bin .gtr) [.t 18,.c (.int .i64 (512))] 17 false,
 oA 20 .pick [.t 17,.c (.bool true),.t 19],
 oM 21 20,
 oG (some 22) .move [.t 1] 21 false,
 oG (some 23) .move [.t 2] 21 false,
 oG (some 24) (.bin .sub) [.c (.int .i64 (512)),.t 23] 21 false,
 oG (some 25) (.bin .gtr) [.t 22,.t 24] 21 false,
 oA 26 .pick [.t 21,.c (.bool true),.t 25]] [0,1,2,26])
 (.cond (.t 26) (.seq (cR [oA 6 .move [.c (.bool false)]] [6])
 (.ret))
 (.skip)))
 (.seq (cR [oA 7 .move [.c (.slice none 0 0)]] [0,1,2,7])
 (.seq (.seq (cR [oM 27 2,
 oA 28 .move [.c (.int .i64 (0))]] [0,1,7,27,28])
 (.block 0 (.loop [0,1,7,27,28] l50_0)))
 (.seq (.seq (cR [oM 38 0,
 oM 39 7,
 oA 40 .call [.c (.func (.func 42) #[] #[]),.t 38,.t 39],
 oA 41 (.un .not) [.t 40]] [0,7,41])
 (.cond (.t 41) (.seq (cR [oA 6 .move [.c (.bool false)]] [6])
 (.ret))
 (.skip)))
 (.seq (.seq (cR [oM 42 7,
 oA 43 .lenS [.t 42],
 oA 44 .move [.c (.int .i64 (0))]] [0,42,43,44])
 (.block 2 (.loop [0,42,43,44] l50_1)))
 (.seq (cR [oA 6 .move [.c (.bool true)]] [6])
 (.ret))))))),
 [.tmp 6], none⟩

def f53 : Func := ⟨.seq (cR [oA 1 (.box 34 1) [.t 0],
 oA 2 .move [.c (.pointer none)],
 oA 3 .move [.c (.int .i64 (0))]] [1])
 (.seq (.seq (cR [oA 9 (.load false 1) [.t 1],
 oA 10 .call [.c (.func (.func 79) #[] #[]),.t 9],
 oA 11 (.bin .eql) [.t 10,.c (.int .i64 (0))]] [1,11])
 (.cond (.t 11) (.seq (cR [oA 2 .move [.c (.pointer none)],
 oA 3 .move [.c (.int .i64 (1))]] [2,3])
 (.ret))
 (.skip)))
 (.seq (cR [oA 12 (.load false 1) [.t 1],
 oA 13 (.build [(.pointer none), (.int .i64 (0)), (.int .i64 (0)), (.int .i64 (0)), (.float .f64 0), (.int .i64 (0)), (.int .i64 (0)), (.int .i64 (0)), (.int .i64 (0)), (.pointer none), (.pointer none), (.pointer none), (.bool false)] [(0, 1)]) [.t 12],
 oA 14 (.box 129 13) [.t 13],
 oA 4 (.new 63 1 [(.pointer none)]) [],
 oN (.store 1) [.t 4,.t 14]] [1,4])
 (.seq (cR [oA 5 (.new 40 1 [(.slice none 0 0)]) [],
 oA 6 (.new 40 1 [(.slice none 0 0)]) []] [1,4,5,6])
 (.seq (cR [oA 7 (.new 61 1 [(.slice none 0 0)]) []] [1,4,5,6,7])
 (.seq (cR [oA 15 (.load false 1) [.t 1],
 oA 16 (.func 81 1) [.t 15],
 oA 17 (.func 82 0) [.t 1,.t 5],
 oA 18 (.func 84 0) [.t 1,.t 6],
 oA 19 (.func 85 0) [.t 5,.t 6,.t 4,.t 1],
 oA 20 (.func 87 0) [.t 1,.t 4,.t 7],
 oA 21 (.func 91 0) [.t 7,.t 1,.t 4],
 oA 22 (.buildSlice 87 1 6 [.nilFunc, .nilFunc, .nilFunc, .nilFunc, .nilFunc, .nilFunc] [(0, 1), (1, 1), (2, 1), (3, 1), (4, 1), (5, 1)]) [.t 16,.t 17,.t 18,.t 19,.t 20,.t 21],
 oA 23 .call [.c (.func (.func 80) #[] #[]),.t 22],
 oM 8 23] [1,4,8])
 (.seq (.seq (cR [oM 24 8,
 oA 25 (.bin .neq) [.t 24,.c (.int .i64 (0))]] [1,4,8,25])
 (.cond (.t 25) (.seq (cR [oM 26 8,
 oA 2 .move [.c (.pointer none)],
 oM 3 26] [2,3])
 (.ret))
 (.skip)))
 (.seq (cD [⟨[oA 27 (.load false 1) [.t 4],
 oA 28 (.load false 1) [.t 1],
 oA 29 (.load false 1) [.t 4],
 oA 30 .nilCheck [.t 29],
 oA 31 (.fieldAddr 10) [.t 30],
 oA 32 (.load false 1) [.t 31],
 oA 33 (.load false 1) [.t 4],
 oA 34 .nilCheck [.t 33],
 oA 35 (.fieldAddr 9) [.t 34],
 oA 36 (.load false 1) [.t 35],
 oA 37 (.load false 1) [.t 4],
 oA 38 .nilCheck [.t 37],
 oA 39 (.fieldAddr 1) [.t 38],
 oA 40 (.fieldAddr 0) [.t 39],
 oA 41 (.load false 1) [.t 40],
 oA 42 (.bin .add) [.t 41,.c (.int .i64 (1))]],some (oA 43 .call [.c (.func (.func 89) #[] #[]),.t 28,.t 32,.t 36,.t 42]),[27],[]⟩,
 ⟨[oA 44 .nilCheck [.t 27],
 oA 45 (.fieldAddr 11) [.t 44]],some (oN (.store 1) [.t 45,.t 43]),[],[]⟩] [27,28,29,30,31,32,33,34,35,36,37,38,39,40,41,42,43,44,45] [4])
 (.seq (cR [oA 46 (.load false 1) [.t 4],
 oM 2 46,
 oA 3 .move [.c (.int .i64 (0))]] [2,3])
 (.ret))))))))),
 [.tmp 2, .tmp 3], none⟩

def f54 : Func := ⟨.seq (cR [oA 2 .move [.c (.pointer none)]] [0])
 (.seq (cR [oM 3 0,
 oA 4 .max [.t 3,.c (.int .i64 (0))],
 oA 5 .min [.t 4,.c (.int .i64 (512))],
 oA 6 .newMap [],
 oA 7 (.build [(.int .i64 (0)), (.map none)] [(0, 1), (1, 1)]) [.t 5,.t 6],
 oA 8 (.box 162 2) [.t 7],
 oM 2 8] [2])
 (.ret)),
 [.tmp 2], none⟩

def f55 : Func := ⟨.seq (cR [oA 2 .move [.c (.bool false)]] [0])
 (.seq (cR [oM 3 0,
 oA 4 (.isNil .ptr true) [.t 3],
 oM 5 4,
 oG (some 6) .move [.t 0] 5 true,
 oG (some 7) .nilCheck [.t 6] 5 true,
 oG (some 8) (.fieldAddr 11) [.t 7] 5 true,
 oG (some 9) (.load false 1) [.t 8] 5 true,
 oG (some 10) (.isNil .ptr true) [.t 9] 5 true,
 oA 11 .pick [.t 5,.t 10,.c (.bool false)],
 oM 2 11] [2])
 (.ret)),
 [.tmp 2], none⟩

def l56_0 : Code :=
 .seq (cR [oA 34 (.bin .lss) [.t 33,.t 32]] [0,3,6,31,32,33,34])
 (.seq (.cond (.t 34) (.skip)
 (.exit 0))
 (.seq (.block 1 (.seq (cR [oA 35 (.idxAddr 3) [.t 31,.t 33],
 oA 36 (.load true 3) [.t 35],
 oA 10 (.new 73 3 [(.int .i64 (0)), (.int .i64 (0)), (.int .i64 (0))]) [],
 oN (.store 3) [.t 10,.t 36]] [0,3,6,10,31,32,33])
 (cR [oM 37 6,
 oA 38 (.fieldAddr 0) [.t 10],
 oA 39 (.load false 1) [.t 38],
 oA 40 (.fieldAddr 1) [.t 10],
 oA 41 (.load false 1) [.t 40],
 oA 42 (.build [(.int .i64 (0)), (.int .i64 (0))] [(0, 1), (1, 1)]) [.t 39,.t 41],
 oA 43 (.fieldAddr 2) [.t 10],
 oA 44 (.load false 1) [.t 43],
 oA 45 (.build [(.int .i64 (0)), (.int .i64 (0)), (.int .i64 (0)), (.bool false), (.slice none 0 0)] [(0, 2), (2, 1), (3, 1)]) [.t 42,.t 44,.c (.bool true)],
 oA 46 (.buildSlice 70 5 1 [(.int .i64 (0)), (.int .i64 (0)), (.int .i64 (0)), (.bool false), (.slice none 0 0)] [(0, 5)]) [.t 45],
 oA 47 (.append 70 5 56) [.t 37,.t 46],
 oM 6 47] [0,3,6,31,32,33])))
 (cR [oA 48 (.bin .add) [.t 33,.c (.int .i64 (1))],
 oM 33 48] [0,3,6,31,32,33])))
def l56_1 : Code :=
 .seq (cR [oA 63 (.bin .lss) [.t 62,.t 61]] [6,12,60,61,62,63])
 (.seq (.cond (.t 63) (.skip)
 (.exit 2))
 (.seq (.block 3 (.seq (cR [oA 64 (.idxAddr 5) [.t 60,.t 62],
 oA 65 (.load true 5) [.t 64],
 oA 14 (.new 112 5 [(.int .i64 (0)), (.int .i64 (0)), (.int .i64 (0)), (.int .i64 (0)), (.int .i64 (0))]) [],
 oN (.store 5) [.t 14,.t 65]] [6,12,14,60,61,62])
 (.seq (cR [oA 66 (.fieldAddr 1) [.t 14],
 oA 67 (.fieldAddr 0) [.t 66],
 oA 68 (.load false 1) [.t 67],
 oA 69 (.fieldAddr 1) [.t 14],
 oA 70 (.fieldAddr 1) [.t 69],
 oA 71 (.load false 1) [.t 70],
 oA 72 (.fieldAddr 4) [.t 14],
 oA 73 (.load false 1) [.t 72],
 oA 74 (.build [(.int .i64 (0)), (.int .i64 (0)), (.int .i64 (0))] [(0, 1), (1, 1), (2, 1)]) [.t 68,.t 71,.t 73],
 oA 15 (.new 73 3 [(.int .i64 (0)), (.int .i64 (0)), (.int .i64 (0))]) [],
 oN (.store 3) [.t 15,.t 74]] [6,12,14,15,60,61,62])
 (.seq (.seq (cR [oM 75 12,
 oA 76 (.load true 3) [.t 15],
 oA 77 (.lookup (some 3) (.int .i64 (0)) false) [.t 75,.t 76],
 oA 78 (.bin .eql) [.t 77,.c (.int .i64 (0))]] [6,12,14,15,60,61,62,78])
 (.cond (.t 78) (.seq (cR [oM 79 6,
 oA 80 (.fieldAddr 0) [.t 15],
 oA 81 (.load false 1) [.t 80],
 oA 82 (.fieldAddr 1) [.t 15],
 oA 83 (.load false 1) [.t 82],
 oA 84 (.build [(.int .i64 (0)), (.int .i64 (0))] [(0, 1), (1, 1)]) [.t 81,.t 83],
 oA 85 (.fieldAddr 2) [.t 15],
 oA 86 (.load false 1) [.t 85],
 oA 87 (.build [(.int .i64 (0)), (.int .i64 (0)), (.int .i64 (0)), (.bool false), (.slice none 0 0)] [(0, 2), (2, 1)]) [.t 84,.t 86],
 oA 88 (.buildSlice 70 5 1 [(.int .i64 (0)), (.int .i64 (0)), (.int .i64 (0)), (.bool false), (.slice none 0 0)] [(0, 5)]) [.t 87],
 oA 89 (.append 70 5 56) [.t 79,.t 88],
 oM 6 89] [6,12,14,15,60,61,62])
 (cR [oM 90 12,
 oA 91 (.load true 3) [.t 15],
 oM 92 6,
 oA 93 .lenS [.t 92],
 oN (.mapSet (some 3)) [.t 90,.t 91,.t 93]] [6,12,14,15,60,61,62]))
 (.skip)))
 (.seq (cR [oM 94 6,
 oM 95 12,
 oA 96 (.load true 3) [.t 15],
 oA 97 (.lookup (some 3) (.int .i64 (0)) false) [.t 95,.t 96],
 oA 98 (.bin .sub) [.t 97,.c (.int .i64 (1))],
 oA 99 (.idxAddr 5) [.t 94,.t 98],
 oM 16 99] [6,12,14,16,60,61,62])
 (cD [⟨[oM 100 16,
 oM 101 16,
 oA 102 .nilCheck [.t 101],
 oA 103 (.fieldAddr 4) [.t 102],
 oA 104 (.load false 1) [.t 103],
 oA 105 (.fieldAddr 0) [.t 14],
 oA 106 (.load false 1) [.t 105]],some (oA 107 (.buildSlice 3 1 1 [(.int .i64 (0))] [(0, 1)]) [.t 106]),[104],[]⟩,
 ⟨[],some (oA 108 (.append 3 1 8) [.t 104,.t 107]),[],[]⟩,
 ⟨[oA 109 .nilCheck [.t 100],
 oA 110 (.fieldAddr 4) [.t 109]],some (oN (.store 1) [.t 110,.t 108]),[],[]⟩] [100,101,102,103,104,105,106,107,108,109,110] [6,12,60,61,62]))))))
 (cR [oA 111 (.bin .add) [.t 62,.c (.int .i64 (1))],
 oM 62 111] [6,12,60,61,62])))
def l56_2 : Code :=
 .seq (.seq (cR [oM 114 17,
 oM 115 6,
 oA 116 .lenS [.t 115],
 oA 117 (.bin .lss) [.t 114,.t 116]] [6,17,117])
 (.cond (.t 117) (.skip)
 (.exit 4)))
 (.seq (.block 5 (.seq (cR [oM 120 6,
 oM 121 17,
 oA 122 (.bin .sub) [.t 121,.c (.int .i64 (1))],
 oA 123 (.idxAddr 5) [.t 120,.t 122],
 oA 124 (.fieldAddr 0) [.t 123],
 oA 125 (.load true 2) [.t 124],
 oA 18 (.new 67 2 [(.int .i64 (0)), (.int .i64 (0))]) [],
 oN (.store 2) [.t 18,.t 125]] [6,17,18])
 (.seq (cD [⟨[oA 126 (.fieldAddr 0) [.t 18],
 oA 127 (.load false 1) [.t 126],
 oA 128 (.fieldAddr 1) [.t 18],
 oA 129 (.load false 1) [.t 128],
 oA 130 (.bin .add) [.t 127,.t 129],
 oM 131 6,
 oM 132 17,
 oA 133 (.idxAddr 5) [.t 131,.t 132],
 oA 134 (.fieldAddr 0) [.t 133],
 oA 135 (.fieldAddr 0) [.t 134],
 oA 136 (.load false 1) [.t 135],
 oA 137 (.bin .gtr) [.t 130,.t 136]],none,[],[]⟩] [126,127,128,129,130,131,132,133,134,135,136,137] [6,17,137])
 (.cond (.t 137) (.seq (cR [oA 4 .move [.c (.slice none 0 0)],
 oA 5 .move [.c (.int .i64 (4))]] [4,5])
 (.ret))
 (.skip)))))
 (cR [oM 118 17,
 oA 119 (.bin .add) [.t 118,.c (.int .i64 (1))],
 oM 17 119] [6,17]))
def f56 : Func := ⟨.seq (cR [oA 3 (.box 75 4) [.t 1],
 oA 4 .move [.c (.slice none 0 0)],
 oA 5 .move [.c (.int .i64 (0))]] [0,3])
 (.seq (.seq (cR [oM 19 0,
 oA 20 (.isNil .ptr false) [.t 19]] [0,3,20])
 (.cond (.t 20) (.seq (cR [oA 4 .move [.c (.slice none 0 0)],
 oA 5 .move [.c (.int .i64 (1))]] [4,5])
 (.ret))
 (.skip)))
 (.seq (cR [oA 6 .move [.c (.slice none 0 0)]] [0,3,6])
 (.seq (cR [oM 22 0,
 oA 23 (.iface 118) [.t 22],
 oA 24 (.load true 4) [.t 3],
 oA 25 .call [.c (.func (.func 93) #[] #[]),.t 23,.t 24],
 oM 21 25,
 oA 26 (.extract 0) [.t 21],
 oA 27 (.extract 1) [.t 21],
 oM 7 26,
 oM 8 27] [0,3,6,7,8])
 (.seq (.seq (cR [oM 28 8,
 oA 29 (.bin .neq) [.t 28,.c (.int .i64 (0))]] [0,3,6,7,8,29])
 (.cond (.t 29) (.seq (cR [oM 30 8,
 oA 4 .move [.c (.slice none 0 0)],
 oM 5 30] [4,5])
 (.ret))
 (.skip)))
 (.seq (.seq (cR [oM 31 7,
 oA 32 .lenS [.t 31],
 oA 33 .move [.c (.int .i64 (0))]] [0,3,6,31,32,33])
 (.block 0 (.loop [0,3,6,31,32,33] l56_0)))
 (.seq (cR [oM 50 0,
 oA 51 (.iface 118) [.t 50],
 oA 52 (.load true 4) [.t 3],
 oA 53 .call [.c (.func (.func 94) #[] #[]),.t 51,.t 52],
 oM 49 53,
 oA 54 (.extract 0) [.t 49],
 oA 55 (.extract 1) [.t 49],
 oM 11 54,
 oM 8 55] [6,8,11])
 (.seq (.seq (cR [oM 56 8,
 oA 57 (.bin .neq) [.t 56,.c (.int .i64 (0))]] [6,8,11,57])
 (.cond (.t 57) (.seq (cR [oM 58 8,
 oA 4 .move [.c (.slice none 0 0)],
 oM 5 58] [4,5])
 (.ret))
 (.skip)))
 (.seq (cR [oA 59 .newMap [],
 oM 12 59] [6,11,12])
 (.seq (.seq (cR [oM 60 11,
 oA 61 .lenS [.t 60],
 oA 62 .move [.c (.int .i64 (0))]] [6,12,60,61,62])
 (.block 2 (.loop [6,12,60,61,62] l56_1)))
 (.seq (cR [oM 112 6,
 oA 113 .call [.c (.func (.func 95) #[] #[]),.t 112,.c (.func (.func 96) #[] #[])]] [6])
 (.seq (.seq (cR [oA 17 .move [.c (.int .i64 (1))]] [6,17])
 (.block 4 (.loop [6,17] l56_2)))
 (.seq (cR [oM 138 6,
 oM 4 138,
 oA 5 .move [.c (.int .i64 (0))]] [4,5])
 (.ret))))))))))))),
 [.tmp 4, .tmp 5], none⟩

def f58 : Func := ⟨.seq (cR [oA 2 .move [.c (.bool false)]] [0])
 (.seq (cR [oM 3 0,
 oA 4 .call [.c (.func (.func 55) #[] #[]),.t 3],
 oM 5 4,
 oG (some 6) .move [.t 0] 5 true,
 oG (some 7) .nilCheck [.t 6] 5 true,
 oG (some 8) (.fieldAddr 12) [.t 7] 5 true,
 oG (some 9) (.load false 1) [.t 8] 5 true,
 oA 10 .pick [.t 5,.t 9,.c (.bool false)],
 oM 2 10] [2])
 (.ret)),
 [.tmp 2], none⟩
end Go.Proofs.YtdbbkaeoinalpaaGreat.AM
namespace Go.Proofs.YtdbbkaeoinalpaaGreat.AM
def l60_0 : Code :=
 .seq (cR [oA 26 (.bin .lss) [.t 25,.t 24]] [2,3,5,6,8,23,24,25,26])
 (.seq (.cond (.t 26) (.skip)
 (.exit 0))
 (.seq (.block 1 (.seq (cR [oA 27 (.idxAddr 2) [.t 23,.t 25],
 oA 28 (.load true 2) [.t 27],
 oA 10 (.new 192 2 [(.int .i64 (0)), (.slice none 0 0)]) [],
 oN (.store 2) [.t 10,.t 28]] [2,3,5,6,8,10,23,24,25])
 (.seq (.seq (cR [oA 29 (.fieldAddr 1) [.t 10],
 oA 30 (.load false 1) [.t 29],
 oA 31 (.isNil .slice false) [.t 30]] [2,3,5,6,8,10,23,24,25,31])
 (.cond (.t 31) (.seq (cR [oM 32 3,
 oA 33 (.fieldAddr 0) [.t 10],
 oA 34 (.load false 1) [.t 33],
 oA 35 (.buildSlice 3 1 1 [(.int .i64 (0))] [(0, 1)]) [.t 34],
 oA 36 (.append 3 1 8) [.t 32,.t 35],
 oM 3 36] [2,3,5,6,8,23,24,25])
 (.exit 1))
 (.skip)))
 (.seq (cD [⟨[oA 37 (.load false 1) [.t 5],
 oA 38 (.fieldAddr 0) [.t 10],
 oA 39 (.load false 1) [.t 38],
 oA 42 (.load false 1) [.t 6],
 oA 43 (.fieldAddr 1) [.t 10],
 oA 44 (.load false 1) [.t 43]],some (oA 40 (.buildSlice 3 1 1 [(.int .i64 (0))] [(0, 1)]) [.t 39]),[37,42,44],[oA 45 (.buildSlice 40 1 1 [(.slice none 0 0)] [(0, 1)]) [.t 44]]⟩,
 ⟨[],some (oA 41 (.append 3 1 8) [.t 37,.t 40]),[42,44],[oA 45 (.buildSlice 40 1 1 [(.slice none 0 0)] [(0, 1)]) [.t 44]]⟩,
 ⟨[],some (oA 45 (.buildSlice 40 1 1 [(.slice none 0 0)] [(0, 1)]) [.t 44]),[42],[]⟩,
 ⟨[],some (oA 46 (.append 40 1 24) [.t 42,.t 45]),[],[]⟩,
 ⟨[],some (oN (.store 1) [.t 5,.t 41]),[],[]⟩,
 ⟨[],some (oN (.store 1) [.t 6,.t 46]),[],[]⟩] [37,38,39,40,41,42,43,44,45,46] [2,3,5,6,8,23,24,25])
 (.seq (cR [oA 47 (.load false 1) [.t 6],
 oA 48 .lenS [.t 47],
 oA 49 (.bin .eql) [.t 48,.c (.int .i64 (8))]] [2,3,5,6,8,23,24,25,49])
 (.cond (.t 49) (.seq (cR [oM 50 8,
 oA 51 .call [.t 50],
 oM 11 51] [2,3,5,6,8,11,23,24,25])
 (.seq (cR [oM 52 11,
 oA 53 (.bin .neq) [.t 52,.c (.int .i64 (0))]] [2,3,5,6,8,11,23,24,25,53])
 (.cond (.t 53) (.seq (cR [oM 54 11,
 oN (.store 1) [.t 2,.c (.slice none 0 0)],
 oA 3 .move [.c (.slice none 0 0)],
 oM 4 54] [2,3,4])
 (.ret))
 (.skip))))
 (.skip)))))))
 (cR [oA 55 (.bin .add) [.t 25,.c (.int .i64 (1))],
 oM 25 55] [2,3,5,6,8,23,24,25])))
def f60 : Func := ⟨.seq (cR [oA 1 (.box 35 1) [.t 0],
 oA 2 (.new 138 1 [(.slice none 0 0)]) [],
 oA 3 .move [.c (.slice none 0 0)],
 oA 4 .move [.c (.int .i64 (0))]] [1,2,3])
 (.seq (cR [oA 5 (.new 68 1 [(.slice none 0 0)]) []] [1,2,3,5])
 (.seq (cR [oA 6 (.new 116 1 [(.slice none 0 0)]) []] [1,2,3,5,6])
 (.seq (cR [oA 13 (.load false 1) [.t 1],
 oA 14 .nilCheck [.t 13],
 oA 15 (.fieldAddr 0) [.t 14],
 oA 16 (.load false 1) [.t 15],
 oA 17 .call [.c (.func (.func 24) #[] #[]),.t 16],
 oA 7 (.new 77 8 [(.int .i64 (0)), (.int .i64 (0)), (.int .i64 (0)), (.float .f64 0), (.int .i64 (0)), (.int .i64 (0)), (.int .i64 (0)), (.int .i64 (0))]) [],
 oN (.store 8) [.t 7,.t 17]] [1,2,3,5,6,7])
 (.seq (cR [oA 18 (.func 98 0) [.t 6,.t 7,.t 1,.t 5,.t 2],
 oM 8 18] [1,2,3,5,6,8])
 (.seq (.seq (cR [oA 19 (.load false 1) [.t 1],
 oA 20 .nilCheck [.t 19],
 oA 21 (.fieldAddr 1) [.t 20],
 oA 22 (.load false 1) [.t 21],
 oA 23 .call [.c (.func (.func 101) #[] #[]),.t 22],
 oA 24 .lenS [.t 23],
 oA 25 .move [.c (.int .i64 (0))]] [2,3,5,6,8,23,24,25])
 (.block 0 (.loop [2,3,5,6,8,23,24,25] l60_0)))
 (.seq (cR [oM 56 8,
 oA 57 .call [.t 56],
 oM 12 57] [2,3,12])
 (.seq (cR [oA 58 (.load false 1) [.t 2],
 oM 59 3,
 oM 60 12,
 oN (.store 1) [.t 2,.t 58],
 oM 3 59,
 oM 4 60] [2,3,4])
 (.ret)))))))),
 [.cell 2 false 1, .tmp 3, .tmp 4], none⟩

def f61 : Func := ⟨.seq (cR [oM 2 0,
 oA 3 .call [.c (.func (.func 55) #[] #[]),.t 2]] [0,3])
 (.cond (.t 3) (cR [oM 4 0,
 oA 5 .nilCheck [.t 4],
 oA 6 (.fieldAddr 10) [.t 5],
 oA 7 (.load false 1) [.t 6],
 oA 8 .call [.c (.func (.func 102) #[] #[]),.t 7]] [])
 (.skip)),
 [], none⟩

def f62 : Func := ⟨.seq (cR [oA 3 (.box 63 1) [.t 0],
 oA 4 (.box 138 1) [.t 1],
 oA 5 (.box 68 1) [.t 2],
 oA 6 .move [.c (.int .i64 (0))]] [3,4,5])
 (.seq (.block 0 (.seq (cR [oA 11 (.load false 1) [.t 3],
 oA 12 .call [.c (.func (.func 55) #[] #[]),.t 11],
 oA 13 (.un .not) [.t 12],
 oM 10 13] [3,4,5,10])
 (.cond (.t 10) (.seq (cR [oA 6 .move [.c (.int .i64 (1))]] [6])
 (.ret))
 (.seq (cR [oA 15 (.load false 1) [.t 3],
 oA 16 .nilCheck [.t 15],
 oA 17 (.fieldAddr 12) [.t 16],
 oA 18 (.load false 1) [.t 17],
 oM 19 18,
 oG (some 20) (.load false 1) [.t 3] 19 false,
 oG (some 21) .nilCheck [.t 20] 19 false,
 oG (some 22) (.fieldAddr 1) [.t 21] 19 false,
 oG (some 23) (.fieldAddr 0) [.t 22] 19 false,
 oG (some 24) (.load false 1) [.t 23] 19 false,
 oG (some 25) (.bin .geq) [.t 24,.c (.int .i64 (268435455))] 19 false,
 oA 26 .pick [.t 19,.c (.bool true),.t 25],
 oM 14 26] [3,4,5,14])
 (.cond (.t 14) (.seq (cR [oA 6 .move [.c (.int .i64 (9))]] [6])
 (.ret))
 (.skip))))))
 (.seq (cR [oA 27 (.load false 1) [.t 3],
 oA 28 .nilCheck [.t 27],
 oA 29 (.fieldAddr 1) [.t 28],
 oA 30 (.load true 8) [.t 29],
 oA 7 (.new 77 8 [(.int .i64 (0)), (.int .i64 (0)), (.int .i64 (0)), (.float .f64 0), (.int .i64 (0)), (.int .i64 (0)), (.int .i64 (0)), (.int .i64 (0))]) [],
 oN (.store 8) [.t 7,.t 30]] [3,4,5,7])
 (.seq (cR [oA 31 (.fieldAddr 0) [.t 7],
 oA 32 (.load false 1) [.t 31],
 oA 33 (.bin .add) [.t 32,.c (.int .i64 (1))],
 oA 34 (.fieldAddr 0) [.t 7],
 oN (.store 1) [.t 34,.t 33]] [3,4,5,7])
 (.seq (cD [⟨[oA 35 (.load false 1) [.t 3],
 oA 36 .nilCheck [.t 35],
 oA 37 (.fieldAddr 11) [.t 36],
 oA 38 (.load false 1) [.t 37],
 oA 39 (.fieldAddr 0) [.t 7],
 oA 40 (.load false 1) [.t 39]],some (oA 41 .call [.c (.func (.func 103) #[] #[]),.t 38,.t 40]),[],[]⟩] [35,36,37,38,39,40,41] [3,4,5,7])
 (.seq (cR [oA 8 (.new 61 1 [(.slice none 0 0)]) []] [3,4,5,7,8])
 (.seq (cR [oA 42 (.func 104 0) [.t 3,.t 7,.t 5,.t 4],
 oA 43 (.func 106 0) [.t 3,.t 7,.t 8],
 oA 44 (.load false 1) [.t 3],
 oA 45 .nilCheck [.t 44],
 oA 46 (.fieldAddr 0) [.t 45],
 oA 47 (.load false 1) [.t 46],
 oA 48 (.func 81 1) [.t 47],
 oA 49 (.func 107 0) [.t 3,.t 7],
 oA 50 (.buildSlice 87 1 4 [.nilFunc, .nilFunc, .nilFunc, .nilFunc] [(0, 1), (1, 1), (2, 1), (3, 1)]) [.t 42,.t 43,.t 48,.t 49],
 oA 51 .call [.c (.func (.func 80) #[] #[]),.t 50],
 oM 9 51] [3,7,8,9])
 (.seq (.seq (cR [oM 52 9,
 oA 53 (.bin .neq) [.t 52,.c (.int .i64 (0))]] [3,7,8,9,53])
 (.cond (.t 53) (.seq (cR [oA 54 (.load false 1) [.t 3],
 oA 55 .call [.c (.func (.func 61) #[] #[]),.t 54]] [9])
 (.seq (cR [oM 56 9,
 oM 6 56] [6])
 (.ret)))
 (.skip)))
 (.seq (cR [oA 57 (.load false 1) [.t 3],
 oA 58 .nilCheck [.t 57],
 oA 59 (.fieldAddr 0) [.t 58],
 oA 60 (.load false 1) [.t 59],
 oA 61 .call [.c (.func (.func 81) #[] #[]),.t 60],
 oM 9 61] [3,7,8,9])
 (.seq (cR [oA 62 (.load false 1) [.t 3],
 oM 63 9,
 oA 64 (.bin .neq) [.t 63,.c (.int .i64 (0))],
 oA 65 .nilCheck [.t 62],
 oA 66 (.fieldAddr 12) [.t 65],
 oN (.store 1) [.t 66,.t 64]] [3,7,8,9])
 (.seq (cR [oA 67 (.load false 1) [.t 3],
 oA 68 (.load false 1) [.t 8],
 oA 69 .call [.c (.func (.func 109) #[] #[]),.t 67,.t 68]] [3,7,9])
 (.seq (cR [oA 70 (.load false 1) [.t 3],
 oA 71 .nilCheck [.t 70],
 oA 72 (.fieldAddr 10) [.t 71],
 oA 73 (.load false 1) [.t 72],
 oA 74 .call [.c (.func (.func 110) #[] #[]),.t 73]] [3,7,9])
 (.seq (cR [oA 75 (.load false 1) [.t 3],
 oA 76 (.load true 8) [.t 7],
 oA 77 .nilCheck [.t 75],
 oA 78 (.fieldAddr 1) [.t 77],
 oN (.store 8) [.t 78,.t 76]] [3,7,9])
 (.seq (cD [⟨[oA 79 (.load false 1) [.t 3],
 oA 80 .nilCheck [.t 79],
 oA 81 (.fieldAddr 11) [.t 80],
 oA 82 (.load false 1) [.t 81],
 oA 83 (.fieldAddr 0) [.t 7],
 oA 84 (.load false 1) [.t 83],
 oA 85 (.bin .add) [.t 84,.c (.int .i64 (1))]],some (oA 86 .call [.c (.func (.func 103) #[] #[]),.t 82,.t 85]),[],[]⟩] [79,80,81,82,83,84,85,86] [9])
 (.seq (cR [oM 87 9,
 oM 6 87] [6])
 (.ret))))))))))))))),
 [.tmp 6], none⟩

def f63 : Func := ⟨.seq (cR [oM 2 0,
 oA 3 .call [.c (.func (.func 73) #[] #[]),.t 2]] [0,3])
 (.cond (.t 3) (cR [oM 4 0,
 oA 5 .nilCheck [.t 4],
 oA 6 (.fieldAddr 1) [.t 5],
 oA 7 (.load false 1) [.t 6],
 oN .clearM [.t 7]] [])
 (.skip)),
 [], none⟩

def l65_0 : Code :=
 .seq (cR [oA 12 (.bin .lss) [.t 11,.t 10]] [0,1,9,10,11,12])
 (.seq (.cond (.t 12) (.skip)
 (.exit 0))
 (.seq (.block 1 (.seq (cR [oM 13 11,
 oA 14 (.idxAddr 2) [.t 9,.t 11],
 oA 15 (.load true 2) [.t 14],
 oA 5 (.new 199 2 [(.int .i64 (0)), (.slice none 0 0)]) [],
 oM 4 13,
 oN (.store 2) [.t 5,.t 15]] [0,1,4,5,9,10,11])
 (.seq (cR [oM 16 1,
 oM 17 4,
 oA 18 .call [.t 16,.t 17]] [0,1,5,9,10,11,18])
 (.cond (.t 18) (cD [⟨[oM 19 0,
 oA 20 .nilCheck [.t 19],
 oA 21 (.fieldAddr 0) [.t 20],
 oA 22 (.load false 1) [.t 21],
 oA 23 (.fieldAddr 0) [.t 5],
 oA 24 (.load false 1) [.t 23],
 oA 25 (.fieldAddr 1) [.t 5],
 oA 26 (.load false 1) [.t 25],
 oA 27 (.idxAddr 1) [.t 22,.t 24]],some (oN (.store 1) [.t 27,.t 26]),[],[]⟩] [19,20,21,22,23,24,25,26,27] [0,1,9,10,11])
 (.skip)))))
 (cR [oA 28 (.bin .add) [.t 11,.c (.int .i64 (1))],
 oM 11 28] [0,1,9,10,11])))
def f65 : Func := ⟨.seq (.seq (cR [oM 6 0,
 oA 7 .nilCheck [.t 6],
 oA 8 (.fieldAddr 1) [.t 7],
 oA 9 (.load false 1) [.t 8],
 oA 10 .lenS [.t 9],
 oA 11 .move [.c (.int .i64 (0))]] [0,1,9,10,11])
 (.block 0 (.loop [0,1,9,10,11] l65_0)))
 (cR [oM 29 0,
 oA 30 .nilCheck [.t 29],
 oA 31 (.fieldAddr 1) [.t 30],
 oN (.store 1) [.t 31,.c (.slice none 0 0)]] []),
 [], none⟩

def f71 : Func := ⟨.seq (cR [oA 3 (.box 34 1) [.t 0],
 oA 6 .move [.c (.int .i64 (0))]] [1,2,3])
 (.seq (.seq (cR [oA 11 (.load false 1) [.t 3],
 oA 12 .call [.c (.func (.func 79) #[] #[]),.t 11],
 oA 13 (.bin .eql) [.t 12,.c (.int .i64 (0))],
 oM 14 13,
 oG (some 15) .move [.t 1] 14 false,
 oG (some 16) (.bin .lss) [.t 15,.c (.int .i64 (1))] 14 false,
 oA 17 .pick [.t 14,.c (.bool true),.t 16],
 oM 18 17,
 oG (some 19) .move [.t 1] 18 false,
 oG (some 20) (.bin .gtr) [.t 19,.c (.int .i64 (512))] 18 false,
 oA 21 .pick [.t 18,.c (.bool true),.t 20]] [1,2,3,21])
 (.cond (.t 21) (.seq (cR [oA 6 .move [.c (.int .i64 (1))]] [6])
 (.ret))
 (.skip)))
 (.seq (cR [oA 22 (.load false 1) [.t 3],
 oA 23 .call [.c (.func (.func 79) #[] #[]),.t 22],
 oA 24 .call [.c (.func (.func 88) #[] #[]),.t 23],
 oM 7 24] [1,2,3,7])
 (.seq (cR [oM 25 7,
 oA 26 .call [.c (.func (.func 118) #[] #[]),.t 25,.c (.int .i64 (0)),.c (.int .i64 (2))]] [1,2,3,7])
 (.seq (cD [⟨[oA 27 (.load false 1) [.t 3],
 oM 28 7,
 oM 30 7],some (oA 29 .call [.c (.func (.func 90) #[] #[]),.t 28]),[27],[oA 8 (.new 118 1 [(.pointer none)]) []]⟩,
 ⟨[],some (oA 31 .call [.c (.func (.func 89) #[] #[]),.t 27,.t 29,.t 30,.c (.int .i64 (1))]),[],[oA 8 (.new 118 1 [(.pointer none)]) []]⟩,
 ⟨[],some (oA 8 (.new 118 1 [(.pointer none)]) []),[],[]⟩,
 ⟨[],some (oN (.store 1) [.t 8,.t 31]),[],[]⟩] [27,28,29,30,31,8] [1,2,3,8])
 (.seq (cR [oA 32 (.load false 1) [.t 3],
 oA 33 .call [.c (.func (.func 79) #[] #[]),.t 32],
 oM 34 1,
 oM 35 2,
 oA 36 .call [.c (.func (.func 119) #[] #[]),.t 35],
 oA 37 (.build [(.int .i64 (0)), (.int .i64 (0)), (.int .i64 (0)), (.float .f64 0), (.int .i64 (0)), (.int .i64 (0)), (.int .i64 (0)), (.int .i64 (0))] [(0, 1), (1, 1), (2, 1), (3, 1)]) [.c (.int .i64 (1)),.t 33,.t 34,.t 36],
 oA 9 (.new 77 8 [(.int .i64 (0)), (.int .i64 (0)), (.int .i64 (0)), (.float .f64 0), (.int .i64 (0)), (.int .i64 (0)), (.int .i64 (0)), (.int .i64 (0))]) [],
 oN (.store 8) [.t 9,.t 37]] [3,8,9])
 (.seq (cR [oA 38 (.newSlice 5 1 1 [(.int .u8 (0))]) [.c (.int .i64 (64)),.c (.int .i64 (64))],
 oA 10 (.new 40 1 [(.slice none 0 0)]) [],
 oN (.store 1) [.t 10,.t 38]] [3,8,9,10])
 (.seq (cR [oA 39 (.func 120 0) [.t 3,.t 10],
 oA 40 (.func 122 0) [.t 3,.t 10],
 oA 41 (.load false 1) [.t 3],
 oA 42 (.func 81 1) [.t 41],
 oA 43 (.func 123 0) [.t 8,.t 9],
 oA 44 (.load false 1) [.t 3],
 oA 45 (.func 81 1) [.t 44],
 oA 46 (.func 125 0) [.t 3,.t 9],
 oA 47 (.load false 1) [.t 3],
 oA 48 (.func 81 1) [.t 47],
 oA 49 (.buildSlice 87 1 7 [.nilFunc, .nilFunc, .nilFunc, .nilFunc, .nilFunc, .nilFunc, .nilFunc] [(0, 1), (1, 1), (2, 1), (3, 1), (4, 1), (5, 1), (6, 1)]) [.t 39,.t 40,.t 42,.t 43,.t 45,.t 46,.t 48],
 oA 50 .call [.c (.func (.func 80) #[] #[]),.t 49],
 oM 6 50] [6])
 (.ret)))))))),
 [.tmp 6], none⟩

def f72 : Func := ⟨.seq (cR [oA 2 .move [.c (.pointer none)]] [0])
 (.seq (cR [oM 3 0,
 oA 4 .max [.t 3,.c (.int .i64 (0))],
 oA 5 .min [.t 4,.c (.int .i64 (512))],
 oA 6 (.build [(.int .i64 (0)), (.slice none 0 0)] [(0, 1)]) [.t 5],
 oA 7 (.box 49 2) [.t 6],
 oM 2 7] [2])
 (.ret)),
 [.tmp 2], none⟩

def f73 : Func := ⟨.seq (cR [oA 2 .move [.c (.bool false)]] [0])
 (.seq (cR [oM 3 0,
 oA 4 (.isNil .ptr true) [.t 3],
 oM 5 4,
 oG (some 6) .move [.t 0] 5 true,
 oG (some 7) .nilCheck [.t 6] 5 true,
 oG (some 8) (.fieldAddr 1) [.t 7] 5 true,
 oG (some 9) (.load false 1) [.t 8] 5 true,
 oG (some 10) (.isNil .map true) [.t 9] 5 true,
 oA 11 .pick [.t 5,.t 10,.c (.bool false)],
 oM 2 11] [2])
 (.ret)),
 [.tmp 2], none⟩

def f74 : Func := ⟨.seq (cR [oA 2 .move [.c (.slice none 0 0)]] [0])
 (.seq (.seq (cR [oM 3 0,
 oA 4 (.isNil .slice false) [.t 3]] [0,4])
 (.cond (.t 4) (.seq (cR [oA 2 .move [.c (.slice none 0 0)]] [2])
 (.ret))
 (.skip)))
 (.seq (cR [oA 5 (.buildSlice 5 1 0 [] []) [],
 oM 6 0,
 oA 7 (.append 5 1 1) [.t 5,.t 6],
 oM 2 7] [2])
 (.ret))),
 [.tmp 2], none⟩

def l75_0 : Code :=
 .seq (.block 1 (.seq (cR [oM 32 0,
 oA 33 (.load true 3) [.t 9],
 oM 34 12,
 oM 35 10,
 oM 36 11,
 oA 37 .call [.c (.func (.func 113) #[] #[]),.t 32,.t 33,.t 34,.t 35,.t 36],
 oM 31 37,
 oA 38 (.extract 0) [.t 31],
 oA 39 (.extract 1) [.t 31],
 oA 13 (.new 205 5 [(.int .i64 (0)), (.slice none 0 0), (.slice none 0 0), (.slice none 0 0), (.slice none 0 0)]) [],
 oN (.store 5) [.t 13,.t 38],
 oM 14 39] [0,2,6,9,11,12,13,14])
 (.seq (.seq (cR [oM 40 14,
 oA 41 (.bin .neq) [.t 40,.c (.int .i64 (0))]] [0,2,6,9,11,12,13,14,41])
 (.cond (.t 41) (.seq (cR [oA 42 (.build [(.int .i64 (0)), (.int .i64 (0)), (.int .i64 (0)), (.int .i64 (0)), (.int .i64 (0))] []) [],
 oM 43 14,
 oN (.store 5) [.t 6,.t 42],
 oA 7 .move [.c (.bool false)],
 oM 8 43] [6,7,8])
 (.ret))
 (.skip)))
 (.seq (cR [oA 45 (.load true 5) [.t 13],
 oM 46 2,
 oA 47 .call [.c (.func (.func 127) #[] #[]),.t 45,.t 46],
 oM 44 47,
 oA 48 (.extract 0) [.t 44],
 oA 49 (.extract 1) [.t 44],
 oM 15 48,
 oM 16 49] [0,2,6,9,11,12,13,15,16])
 (.seq (.seq (cR [oA 50 (.fieldAddr 1) [.t 13],
 oA 51 (.load false 1) [.t 50],
 oA 52 .lenS [.t 51],
 oA 53 (.bin .eql) [.t 52,.c (.int .i64 (0))],
 oM 54 53,
 oG (some 55) (.fieldAddr 1) [.t 13] 54 false,
 oG (some 56) (.load false 1) [.t 55] 54 false,
 oG (some 57) .move [.t 15] 54 false,
 oG (some 58) (.idxAddr 1) [.t 56,.t 57] 54 false,
 oG (some 59) (.load false 1) [.t 58] 54 false,
 oG (some 60) .move [.t 2] 54 false,
 oG (some 61) (.bin .gtr) [.t 59,.t 60] 54 false,
 oA 62 .pick [.t 54,.c (.bool true),.t 61],
 oM 63 62,
 oG (some 64) .move [.t 12] 63 false,
 oG (some 65) (.bin .eql) [.t 64,.c (.int .i64 (0))] 63 false,
 oG (some 66) .move [.t 65] 63 false,
 oG (some 67) .move [.t 16] 66 true,
 oG (some 68) (.un .not) [.t 67] 66 true,
 oG (some 69) .pick [.t 66,.t 68,.c (.bool false)] 63 false,
 oA 70 .pick [.t 63,.c (.bool true),.t 69]] [0,2,6,9,11,12,13,15,70])
 (.cond (.t 70) (.seq (cR [oA 71 (.build [(.int .i64 (0)), (.int .i64 (0)), (.int .i64 (0)), (.int .i64 (0)), (.int .i64 (0))] []) [],
 oN (.store 5) [.t 6,.t 71],
 oA 7 .move [.c (.bool false)],
 oA 8 .move [.c (.int .i64 (0))]] [6,7,8])
 (.ret))
 (.skip)))
 (.seq (.seq (cR [oM 72 12,
 oA 73 (.bin .eql) [.t 72,.c (.int .i64 (0))]] [0,2,6,9,11,12,13,15,73])
 (.cond (.t 73) (.seq (cR [oA 74 (.load true 5) [.t 13],
 oM 75 15,
 oA 76 .call [.c (.func (.func 128) #[] #[]),.t 74,.t 75],
 oN (.store 5) [.t 6,.t 76],
 oA 7 .move [.c (.bool true)],
 oA 8 .move [.c (.int .i64 (0))]] [6,7,8])
 (.ret))
 (.skip)))
 (cD [⟨[oA 77 (.fieldAddr 4) [.t 13],
 oA 78 (.load false 1) [.t 77],
 oM 79 15,
 oA 80 (.idxAddr 3) [.t 78,.t 79],
 oA 81 (.load true 3) [.t 80],
 oA 82 (.fieldAddr 1) [.t 13],
 oA 83 (.load false 1) [.t 82],
 oM 84 15,
 oA 85 (.idxAddr 1) [.t 83,.t 84],
 oA 86 (.load false 1) [.t 85],
 oA 87 (.load true 5) [.t 13],
 oM 88 15,
 oM 89 11],some (oA 90 .call [.c (.func (.func 114) #[] #[]),.t 87,.t 88,.t 89]),[78,81,83,86],[]⟩,
 ⟨[],some (oN (.store 3) [.t 9,.t 81]),[83,86],[]⟩,
 ⟨[oM 10 86,
 oM 11 90],none,[],[]⟩] [77,78,79,80,81,82,83,84,85,86,87,88,89,90,10,11] [0,2,6,9,10,11,12])))))))
 (cR [oM 29 12,
 oA 30 (.bin .sub) [.t 29,.c (.int .i64 (1))],
 oM 12 30] [0,2,6,9,10,11,12])
def f75 : Func := ⟨.seq (cR [oA 4 (.box 75 4) [.t 1],
 oA 6 (.new 112 5 [(.int .i64 (0)), (.int .i64 (0)), (.int .i64 (0)), (.int .i64 (0)), (.int .i64 (0))]) [],
 oA 7 .move [.c (.bool false)],
 oA 8 .move [.c (.int .i64 (0))]] [0,2,4,6])
 (.seq (.seq (cR [oM 17 0,
 oA 18 (.isNil .iface false) [.t 17],
 oM 19 18,
 oG (some 20) .move [.t 2] 19 false,
 oG (some 21) .call [.c (.func (.func 126) #[] #[]),.t 20] 19 false,
 oG (some 22) (.un .not) [.t 21] 19 false,
 oA 23 .pick [.t 19,.c (.bool true),.t 22]] [0,2,4,6,23])
 (.cond (.t 23) (.seq (cR [oA 24 (.build [(.int .i64 (0)), (.int .i64 (0)), (.int .i64 (0)), (.int .i64 (0)), (.int .i64 (0))] []) [],
 oN (.store 5) [.t 6,.t 24],
 oA 7 .move [.c (.bool false)],
 oA 8 .move [.c (.int .i64 (1))]] [6,7,8])
 (.ret))
 (.skip)))
 (.seq (cR [oA 25 (.fieldAddr 0) [.t 4],
 oA 26 (.load true 3) [.t 25],
 oA 9 (.new 73 3 [(.int .i64 (0)), (.int .i64 (0)), (.int .i64 (0))]) [],
 oN (.store 3) [.t 9,.t 26],
 oA 10 .move [.c (.int .i64 (0))],
 oA 11 .move [.c (.int .i64 (512))]] [0,2,4,6,9,10,11])
 (.seq (cR [oA 27 (.fieldAddr 3) [.t 4],
 oA 28 (.load false 1) [.t 27],
 oM 12 28] [0,2,6,9,10,11,12])
 (.block 0 (.loop [0,2,6,9,10,11,12] l75_0))))),
 [.cell 6 true 5, .tmp 7, .tmp 8], none⟩

def l76_0 : Code :=
 .seq (cR [oA 49 (.bin .lss) [.t 48,.t 47]] [0,3,6,47,48,49])
 (.seq (.cond (.t 49) (.skip)
 (.exit 0))
 (.seq (.block 1 (.seq (cR [oM 50 48,
 oM 7 50] [0,3,6,7,47,48])
 (.seq (cD [⟨[oM 52 0,
 oA 53 .nilCheck [.t 52],
 oA 54 (.fieldAddr 0) [.t 53],
 oA 55 (.load false 1) [.t 54],
 oA 56 (.fieldAddr 0) [.t 3],
 oA 57 (.load false 1) [.t 56],
 oM 58 7,
 oA 59 (.bin .add) [.t 57,.t 58]],some (oA 60 .call [.c (.func (.func 83) #[] #[]),.t 55,.t 59]),[],[]⟩,
 ⟨[oM 51 60,
 oA 61 (.extract 0) [.t 51],
 oA 62 (.extract 1) [.t 51],
 oM 8 61,
 oM 9 62],none,[],[]⟩] [52,53,54,55,56,57,58,59,60,51,61,62,8,9] [0,3,6,8,9,47,48])
 (.seq (.seq (cR [oM 63 9,
 oA 64 (.bin .neq) [.t 63,.c (.int .i64 (0))]] [0,3,6,8,9,47,48,64])
 (.cond (.t 64) (.seq (cR [oM 65 9,
 oA 4 .move [.c (.slice none 0 0)],
 oM 5 65] [4,5])
 (.ret))
 (.skip)))
 (cR [oM 66 6,
 oM 67 8,
 oA 68 (.append 5 1 1) [.t 66,.t 67],
 oM 6 68] [0,3,6,47,48])))))
 (cR [oA 69 (.bin .add) [.t 48,.c (.int .i64 (1))],
 oM 48 69] [0,3,6,47,48])))
def f76 : Func := ⟨.seq (cR [oA 3 (.box 67 2) [.t 1],
 oA 4 .move [.c (.slice none 0 0)],
 oA 5 .move [.c (.int .i64 (0))]] [0,3])
 (.seq (.seq (cD [⟨[oM 10 0],some (oA 11 .call [.c (.func (.func 129) #[] #[]),.t 10]),[],[]⟩,
 ⟨[oA 12 (.un .not) [.t 11],
 oM 13 12,
 oG (some 14) (.fieldAddr 1) [.t 3] 13 false,
 oG (some 15) (.load false 1) [.t 14] 13 false,
 oG (some 16) (.bin .lss) [.t 15,.c (.int .i64 (1))] 13 false,
 oA 17 .pick [.t 13,.c (.bool true),.t 16],
 oM 18 17,
 oG (some 19) (.fieldAddr 0) [.t 3] 18 false,
 oG (some 20) (.load false 1) [.t 19] 18 false,
 oG (some 21) (.bin .lss) [.t 20,.c (.int .i64 (0))] 18 false,
 oA 22 .pick [.t 18,.c (.bool true),.t 21],
 oM 23 22,
 oG (some 24) (.fieldAddr 1) [.t 3] 23 false,
 oG (some 25) (.load false 1) [.t 24] 23 false,
 oG (some 26) .move [.t 0] 23 false,
 oG (some 27) .nilCheck [.t 26] 23 false,
 oG (some 28) (.fieldAddr 0) [.t 27] 23 false,
 oG (some 29) (.load false 1) [.t 28] 23 false],some (oG (some 30) .call [.c (.func (.func 79) #[] #[]),.t 29] 23 false),[25],[]⟩,
 ⟨[oG (some 31) (.bin .gtr) [.t 25,.t 30] 23 false,
 oA 32 .pick [.t 23,.c (.bool true),.t 31],
 oM 33 32,
 oG (some 34) (.fieldAddr 0) [.t 3] 33 false,
 oG (some 35) (.load false 1) [.t 34] 33 false,
 oG (some 36) .move [.t 0] 33 false,
 oG (some 37) .nilCheck [.t 36] 33 false,
 oG (some 38) (.fieldAddr 0) [.t 37] 33 false,
 oG (some 39) (.load false 1) [.t 38] 33 false,
 oG (some 41) (.fieldAddr 1) [.t 3] 33 false,
 oG (some 42) (.load false 1) [.t 41] 33 false],some (oG (some 40) .call [.c (.func (.func 79) #[] #[]),.t 39] 33 false),[35,42],[]⟩,
 ⟨[oG (some 43) (.bin .sub) [.t 40,.t 42] 33 false,
 oG (some 44) (.bin .gtr) [.t 35,.t 43] 33 false,
 oA 45 .pick [.t 33,.c (.bool true),.t 44]],none,[],[]⟩] [10,11,12,13,14,15,16,17,18,19,20,21,22,23,24,25,26,27,28,29,30,31,32,33,34,35,36,37,38,39,40,41,42,43,44,45] [0,3,45])
 (.cond (.t 45) (.seq (cR [oA 4 .move [.c (.slice none 0 0)],
 oA 5 .move [.c (.int .i64 (1))]] [4,5])
 (.ret))
 (.skip)))
 (.seq (cR [oA 6 .move [.c (.slice none 0 0)]] [0,3,6])
 (.seq (.seq (cR [oA 46 (.fieldAddr 1) [.t 3],
 oA 47 (.load false 1) [.t 46],
 oA 48 .move [.c (.int .i64 (0))]] [0,3,6,47,48])
 (.block 0 (.loop [0,3,6,47,48] l76_0)))
 (.seq (cR [oM 70 6,
 oM 4 70,
 oA 5 .move [.c (.int .i64 (0))]] [4,5])
 (.ret))))),
 [.tmp 4, .tmp 5], none⟩

def l77_0 : Code :=
 .seq (cR [oA 52 (.bin .lss) [.t 51,.t 50]] [5,11,12,50,51,52])
 (.seq (.cond (.t 52) (.skip)
 (.exit 0))
 (.seq (.block 1 (.seq (cR [oM 53 51,
 oM 13 53] [5,11,12,13,50,51])
 (cR [oM 54 12,
 oM 55 11,
 oM 56 13,
 oA 57 (.bin .mul) [.t 56,.c (.int .i64 (128))],
 oM 58 13,
 oA 59 (.bin .add) [.t 58,.c (.int .i64 (1))],
 oA 60 (.bin .mul) [.t 59,.c (.int .i64 (128))],
 oA 61 (.slice 1 true true false) [.t 55,.t 57,.t 60],
 oA 62 .call [.c (.func (.func 74) #[] #[]),.t 61],
 oA 63 (.buildSlice 40 1 1 [(.slice none 0 0)] [(0, 1)]) [.t 62],
 oA 64 (.append 40 1 24) [.t 54,.t 63],
 oM 12 64] [5,11,12,50,51])))
 (cR [oA 65 (.bin .add) [.t 51,.c (.int .i64 (1))],
 oM 51 65] [5,11,12,50,51])))
def f77 : Func := ⟨.seq (cR [oA 2 .move [.c (.slice none 0 0)],
 oA 3 .move [.c (.int .i64 (0))],
 oA 4 .move [.c (.int .i64 (0))]] [0])
 (.seq (cR [oM 15 0,
 oA 16 .call [.c (.func (.func 130) #[] #[]),.t 15,.c (.int .u8 (231))],
 oM 14 16,
 oA 17 (.extract 0) [.t 14],
 oA 18 (.extract 1) [.t 14],
 oA 19 (.extract 2) [.t 14],
 oM 5 17,
 oM 6 18,
 oM 7 19] [5,6,7])
 (.seq (.seq (cR [oM 20 7,
 oA 21 (.bin .neq) [.t 20,.c (.int .i64 (0))]] [5,6,7,21])
 (.cond (.t 21) (.seq (cR [oM 22 7,
 oA 2 .move [.c (.slice none 0 0)],
 oA 3 .move [.c (.int .i64 (0))],
 oM 4 22] [2,3,4])
 (.ret))
 (.skip)))
 (.seq (cR [oA 8 (.new 3 1 [(.int .i64 (0))]) [],
 oA 9 (.new 3 1 [(.int .i64 (0))]) []] [5,6,8,9])
 (.seq (cR [oA 10 (.new 40 1 [(.slice none 0 0)]) []] [5,6,8,9,10])
 (.seq (cR [oM 23 6,
 oA 24 (.func 132 0) [.t 8,.t 9,.t 10],
 oA 25 .call [.c (.func (.func 131) #[] #[]),.t 23,.t 24],
 oM 7 25] [5,7,8,9,10])
 (.seq (.seq (cR [oM 26 7,
 oA 27 (.bin .neq) [.t 26,.c (.int .i64 (0))]] [5,7,8,9,10,27])
 (.cond (.t 27) (.seq (cR [oM 28 7,
 oA 2 .move [.c (.slice none 0 0)],
 oA 3 .move [.c (.int .i64 (0))],
 oM 4 28] [2,3,4])
 (.ret))
 (.skip)))
 (.seq (.seq (cR [oA 29 (.load false 1) [.t 8],
 oA 30 (.bin .lss) [.t 29,.c (.int .i64 (1))],
 oM 31 30,
 oG (some 32) (.load false 1) [.t 8] 31 false,
 oG (some 33) (.bin .gtr) [.t 32,.c (.int .i64 (8))] 31 false,
 oA 34 .pick [.t 31,.c (.bool true),.t 33],
 oM 35 34,
 oG (some 36) (.load false 1) [.t 9] 35 false,
 oG (some 37) (.bin .gtr) [.t 36,.c (.int .i64 (2))] 35 false,
 oA 38 .pick [.t 35,.c (.bool true),.t 37]] [5,8,9,10,38])
 (.cond (.t 38) (.seq (cR [oA 2 .move [.c (.slice none 0 0)],
 oA 3 .move [.c (.int .i64 (0))],
 oA 4 .move [.c (.int .i64 (4))]] [2,3,4])
 (.ret))
 (.skip)))
 (.seq (cR [oA 40 (.load false 1) [.t 9],
 oA 41 (.load false 1) [.t 10],
 oA 42 (.load false 1) [.t 8],
 oA 43 (.bin .mul) [.t 42,.c (.int .i64 (128))],
 oA 44 .call [.c (.func (.func 135) #[] #[]),.t 40,.t 41,.t 43],
 oM 39 44,
 oA 45 (.extract 0) [.t 39],
 oA 46 (.extract 1) [.t 39],
 oM 11 45,
 oM 7 46] [5,7,8,11])
 (.seq (.seq (cR [oM 47 7,
 oA 48 (.bin .neq) [.t 47,.c (.int .i64 (0))]] [5,7,8,11,48])
 (.cond (.t 48) (.seq (cR [oM 49 7,
 oA 2 .move [.c (.slice none 0 0)],
 oA 3 .move [.c (.int .i64 (0))],
 oM 4 49] [2,3,4])
 (.ret))
 (.skip)))
 (.seq (cR [oA 12 .move [.c (.slice none 0 0)]] [5,8,11,12])
 (.seq (.seq (cR [oA 50 (.load false 1) [.t 8],
 oA 51 .move [.c (.int .i64 (0))]] [5,11,12,50,51])
 (.block 0 (.loop [5,11,12,50,51] l77_0)))
 (.seq (cR [oM 66 12,
 oM 67 5,
 oM 2 66,
 oM 3 67,
 oA 4 .move [.c (.int .i64 (0))]] [2,3,4])
 (.ret))))))))))))),
 [.tmp 2, .tmp 3, .tmp 4], none⟩

def f79 : Func := ⟨.seq (cR [oA 2 .move [.c (.int .i64 (0))]] [0])
 (.seq (.seq (cR [oM 3 0,
 oA 4 (.isNil .ptr false) [.t 3]] [0,4])
 (.cond (.t 4) (.seq (cR [oA 2 .move [.c (.int .i64 (0))]] [2])
 (.ret))
 (.skip)))
 (.seq (cR [oM 5 0,
 oA 6 .nilCheck [.t 5],
 oA 7 (.fieldAddr 0) [.t 6],
 oA 8 (.load false 1) [.t 7],
 oA 9 .lenS [.t 8],
 oM 2 9] [2])
 (.ret))),
 [.tmp 2], none⟩

def l80_0 : Code :=
 .seq (cR [oA 9 (.bin .lss) [.t 8,.t 7]] [6,7,8,9])
 (.seq (.cond (.t 9) (.skip)
 (.exit 0))
 (.seq (.block 1 (.seq (cR [oA 10 (.idxAddr 1) [.t 6,.t 8],
 oA 11 (.load false 1) [.t 10],
 oM 4 11] [4,6,7,8])
 (.seq (cR [oM 12 4,
 oA 13 .call [.t 12],
 oM 5 13] [5,6,7,8])
 (.seq (cR [oM 14 5,
 oA 15 (.bin .neq) [.t 14,.c (.int .i64 (0))]] [5,6,7,8,15])
 (.cond (.t 15) (.seq (cR [oM 16 5,
 oM 2 16] [2])
 (.ret))
 (.skip))))))
 (cR [oA 17 (.bin .add) [.t 8,.c (.int .i64 (1))],
 oM 8 17] [6,7,8])))
def f80 : Func := ⟨.seq (cR [oA 2 .move [.c (.int .i64 (0))]] [0])
 (.seq (.seq (cR [oM 6 0,
 oA 7 .lenS [.t 6],
 oA 8 .move [.c (.int .i64 (0))]] [6,7,8])
 (.block 0 (.loop [6,7,8] l80_0)))
 (.seq (cR [oA 2 .move [.c (.int .i64 (0))]] [2])
 (.ret))),
 [.tmp 2], none⟩

def f81 : Func := ⟨.seq (cR [oA 1 (.box 34 1) [.t 0],
 oA 2 .move [.c (.int .i64 (0))]] [1])
 (.seq (cR [oA 3 (.load false 1) [.t 1],
 oA 4 (.func 137 0) [.t 1],
 oA 5 .call [.c (.func (.func 136) #[] #[]),.t 3,.c (.int .i64 (3)),.t 4],
 oM 2 5] [2])
 (.ret)),
 [.tmp 2], none⟩

def f82 : Func := ⟨.seq (cR [oA 2 .move [.c (.int .i64 (0))]] [0,1])
 (.seq (cR [oA 4 (.load false 1) [.t 0],
 oA 5 .call [.c (.func (.func 83) #[] #[]),.t 4,.c (.int .i64 (0))],
 oM 3 5,
 oA 6 (.extract 0) [.t 3],
 oA 7 (.extract 1) [.t 3],
 oN (.store 1) [.t 1,.t 6],
 oM 2 7] [2])
 (.seq (cR [oM 8 2,
 oM 2 8] [2])
 (.ret))),
 [.tmp 2], none⟩

def f83 : Func := ⟨.seq (cR [oA 2 (.box 34 1) [.t 0],
 oA 3 (.box 3 1) [.t 1],
 oA 4 (.new 40 1 [(.slice none 0 0)]) [],
 oA 5 .move [.c (.int .i64 (0))]] [2,3,4])
 (.seq (cR [oA 6 (.load false 1) [.t 2],
 oA 7 (.func 139 0) [.t 2,.t 3,.t 4],
 oA 8 .call [.c (.func (.func 136) #[] #[]),.t 6,.c (.int .i64 (1)),.t 7],
 oM 5 8] [4,5])
 (.seq (cR [oA 9 (.load false 1) [.t 4],
 oM 10 5,
 oN (.store 1) [.t 4,.t 9],
 oM 5 10] [4,5])
 (.ret))),
 [.cell 4 false 1, .tmp 5], none⟩

def f84 : Func := ⟨.seq (cR [oA 2 .move [.c (.int .i64 (0))]] [0,1])
 (.seq (cR [oA 4 (.load false 1) [.t 0],
 oA 5 .call [.c (.func (.func 83) #[] #[]),.t 4,.c (.int .i64 (1))],
 oM 3 5,
 oA 6 (.extract 0) [.t 3],
 oA 7 (.extract 1) [.t 3],
 oN (.store 1) [.t 1,.t 6],
 oM 2 7] [2])
 (.seq (cR [oM 8 2,
 oM 2 8] [2])
 (.ret))),
 [.tmp 2], none⟩

def f85 : Func := ⟨.seq (cR [oA 4 .move [.c (.int .i64 (0))]] [0,1,2,3])
 (.seq (cD [⟨[oA 6 (.load false 1) [.t 2],
 oA 7 (.load false 1) [.t 0],
 oA 8 (.load false 1) [.t 1]],some (oA 9 .call [.c (.func (.func 86) #[] #[]),.t 7,.t 8]),[6],[]⟩,
 ⟨[oM 5 9,
 oA 10 (.extract 0) [.t 5],
 oA 11 (.extract 1) [.t 5],
 oA 12 (.extract 2) [.t 5],
 oA 13 .nilCheck [.t 6],
 oA 14 (.fieldAddr 1) [.t 13]],some (oN (.store 8) [.t 14,.t 10]),[],[]⟩,
 ⟨[oM 4 12],none,[],[]⟩] [6,7,8,9,5,10,11,12,13,14,4] [2,3,4])
 (.seq (.seq (cD [⟨[oM 15 4,
 oA 16 (.bin .eql) [.t 15,.c (.int .i64 (0))],
 oM 17 16,
 oG (some 18) (.load false 1) [.t 2] 17 true,
 oG (some 19) .nilCheck [.t 18] 17 true,
 oG (some 20) (.fieldAddr 1) [.t 19] 17 true,
 oG (some 21) (.fieldAddr 1) [.t 20] 17 true,
 oG (some 22) (.load false 1) [.t 21] 17 true,
 oG (some 23) (.load false 1) [.t 3] 17 true],some (oG (some 24) .call [.c (.func (.func 79) #[] #[]),.t 23] 17 true),[18,22],[]⟩,
 ⟨[oG (some 25) (.bin .neq) [.t 22,.t 24] 17 true,
 oA 26 .pick [.t 17,.t 25,.c (.bool false)]],none,[],[]⟩] [15,16,17,18,19,20,21,22,23,24,25,26] [4,26])
 (.cond (.t 26) (cR [oA 4 .move [.c (.int .i64 (4))]] [4])
 (.skip)))
 (.seq (cR [oM 27 4,
 oM 4 27] [4])
 (.ret)))),
 [.tmp 4], none⟩

def f86 : Func := ⟨.seq (cR [oA 4 (.new 77 8 [(.int .i64 (0)), (.int .i64 (0)), (.int .i64 (0)), (.float .f64 0), (.int .i64 (0)), (.int .i64 (0)), (.int .i64 (0)), (.int .i64 (0))]) [],
 oA 5 .move [.c (.int .i64 (0))],
 oA 6 .move [.c (.int .i64 (0))]] [0,1,4])
 (.seq (.block 0 (.seq (cR [oM 12 0,
 oA 13 .call [.c (.func (.func 117) #[] #[]),.t 12],
 oM 14 13,
 oG (some 15) .move [.t 1] 14 true,
 oG (some 16) .call [.c (.func (.func 117) #[] #[]),.t 15] 14 true,
 oA 17 .pick [.t 14,.t 16,.c (.bool false)],
 oM 11 17] [0,1,4,11])
 (.cond (.t 11) (.seq (cR [oA 18 (.build [(.int .i64 (0)), (.int .i64 (0)), (.int .i64 (0)), (.float .f64 0), (.int .i64 (0)), (.int .i64 (0)), (.int .i64 (0)), (.int .i64 (0))] []) [],
 oN (.store 8) [.t 4,.t 18],
 oA 5 .move [.c (.int .i64 (0))],
 oA 6 .move [.c (.int .i64 (8))]] [4,5,6])
 (.ret))
 (.seq (cR [oM 20 0,
 oA 21 .call [.c (.func (.func 117) #[] #[]),.t 20],
 oM 19 21] [0,1,4,19])
 (.cond (.t 19) (.seq (cR [oM 22 1,
 oA 23 .call [.c (.func (.func 141) #[] #[]),.t 22,.c (.int .i64 (1))],
 oA 24 (.extract 0) [.t 23],
 oA 25 (.extract 1) [.t 23],
 oA 26 (.extract 2) [.t 23],
 oN (.store 8) [.t 4,.t 24],
 oM 5 25,
 oM 6 26] [4,5,6])
 (.ret))
 (.seq (cR [oM 28 1,
 oA 29 .call [.c (.func (.func 117) #[] #[]),.t 28],
 oM 27 29] [0,1,4,27])
 (.cond (.t 27) (.seq (cR [oM 30 0,
 oA 31 .call [.c (.func (.func 141) #[] #[]),.t 30,.c (.int .i64 (0))],
 oA 32 (.extract 0) [.t 31],
 oA 33 (.extract 1) [.t 31],
 oA 34 (.extract 2) [.t 31],
 oN (.store 8) [.t 4,.t 32],
 oM 5 33,
 oM 6 34] [4,5,6])
 (.ret))
 (.skip))))))))
 (.seq (cR [oM 36 0,
 oA 37 .call [.c (.func (.func 116) #[] #[]),.t 36],
 oM 35 37,
 oA 38 (.extract 0) [.t 35],
 oA 39 (.extract 1) [.t 35],
 oA 7 (.new 77 8 [(.int .i64 (0)), (.int .i64 (0)), (.int .i64 (0)), (.float .f64 0), (.int .i64 (0)), (.int .i64 (0)), (.int .i64 (0)), (.int .i64 (0))]) [],
 oN (.store 8) [.t 7,.t 38],
 oM 8 39] [1,4,7,8])
 (.seq (cR [oM 41 1,
 oA 42 .call [.c (.func (.func 116) #[] #[]),.t 41],
 oM 40 42,
 oA 43 (.extract 0) [.t 40],
 oA 44 (.extract 1) [.t 40],
 oA 9 (.new 77 8 [(.int .i64 (0)), (.int .i64 (0)), (.int .i64 (0)), (.float .f64 0), (.int .i64 (0)), (.int .i64 (0)), (.int .i64 (0)), (.int .i64 (0))]) [],
 oN (.store 8) [.t 9,.t 43],
 oM 10 44] [4,7,8,9,10])
 (.seq (.block 1 (.seq (cR [oM 46 8,
 oA 47 (.bin .neq) [.t 46,.c (.int .i64 (0))],
 oM 48 47,
 oG (some 49) .move [.t 10] 48 false,
 oG (some 50) (.bin .neq) [.t 49,.c (.int .i64 (0))] 48 false,
 oA 51 .pick [.t 48,.c (.bool true),.t 50],
 oM 45 51] [4,7,9,45])
 (.cond (.t 45) (.seq (cR [oA 52 (.build [(.int .i64 (0)), (.int .i64 (0)), (.int .i64 (0)), (.float .f64 0), (.int .i64 (0)), (.int .i64 (0)), (.int .i64 (0)), (.int .i64 (0))] []) [],
 oN (.store 8) [.t 4,.t 52],
 oA 5 .move [.c (.int .i64 (0))],
 oA 6 .move [.c (.int .i64 (5))]] [4,5,6])
 (.ret))
 (.seq (cR [oA 54 (.fieldAddr 0) [.t 7],
 oA 55 (.load false 1) [.t 54],
 oA 56 (.fieldAddr 0) [.t 9],
 oA 57 (.load false 1) [.t 56],
 oA 58 (.bin .eql) [.t 55,.t 57],
 oM 53 58] [4,7,9,53])
 (.cond (.t 53) (.seq (cR [oA 59 (.build [(.int .i64 (0)), (.int .i64 (0)), (.int .i64 (0)), (.float .f64 0), (.int .i64 (0)), (.int .i64 (0)), (.int .i64 (0)), (.int .i64 (0))] []) [],
 oN (.store 8) [.t 4,.t 59],
 oA 5 .move [.c (.int .i64 (0))],
 oA 6 .move [.c (.int .i64 (4))]] [4,5,6])
 (.ret))
 (.seq (cR [oA 61 (.fieldAddr 0) [.t 7],
 oA 62 (.load false 1) [.t 61],
 oA 63 (.fieldAddr 0) [.t 9],
 oA 64 (.load false 1) [.t 63],
 oA 65 (.bin .gtr) [.t 62,.t 64],
 oM 60 65] [4,7,9,60])
 (.cond (.t 60) (.seq (cR [oA 66 (.load true 8) [.t 7],
 oN (.store 8) [.t 4,.t 66],
 oA 5 .move [.c (.int .i64 (0))],
 oA 6 .move [.c (.int .i64 (0))]] [4,5,6])
 (.ret))
 (.skip))))))))
 (.seq (cR [oA 67 (.load true 8) [.t 9],
 oN (.store 8) [.t 4,.t 67],
 oA 5 .move [.c (.int .i64 (1))],
 oA 6 .move [.c (.int .i64 (0))]] [4,5,6])
 (.ret)))))),
 [.cell 4 true 8, .tmp 5, .tmp 6], none⟩

def f87 : Func := ⟨.seq (cR [oA 3 .move [.c (.int .i64 (0))]] [0,1,2])
 (.seq (cR [oA 5 .call [.c (.func (.func 88) #[] #[]),.c (.int .i64 (0))],
 oM 4 5] [0,1,2,4])
 (.seq (cD [⟨[oA 7 (.load false 1) [.t 0],
 oM 8 4,
 oM 10 4,
 oA 12 (.load false 1) [.t 1],
 oA 13 .nilCheck [.t 12],
 oA 14 (.fieldAddr 1) [.t 13],
 oA 15 (.fieldAddr 4) [.t 14],
 oA 16 (.load true 4) [.t 15]],some (oA 9 .call [.c (.func (.func 90) #[] #[]),.t 8]),[7,12,16],[]⟩,
 ⟨[],some (oA 11 .call [.c (.func (.func 89) #[] #[]),.t 7,.t 9,.t 10,.c (.int .i64 (0))]),[12,16],[]⟩,
 ⟨[],some (oA 17 .call [.c (.func (.func 56) #[] #[]),.t 11,.t 16]),[],[]⟩,
 ⟨[oM 6 17,
 oA 18 (.extract 0) [.t 6],
 oA 19 (.extract 1) [.t 6]],some (oN (.store 1) [.t 2,.t 18]),[],[]⟩,
 ⟨[oM 3 19],none,[],[]⟩] [7,8,9,10,11,12,13,14,15,16,17,6,18,19,3] [3])
 (.seq (cR [oM 20 3,
 oM 3 20] [3])
 (.ret)))),
 [.tmp 3], none⟩

def f88 : Func := ⟨.seq (cR [oA 2 .move [.c (.pointer none)]] [0])
 (.seq (.seq (cR [oM 3 0,
 oA 4 (.bin .lss) [.t 3,.c (.int .i64 (1))],
 oM 5 4,
 oG (some 6) .move [.t 0] 5 false,
 oG (some 7) (.bin .gtr) [.t 6,.c (.int .i64 (8192))] 5 false,
 oA 8 .pick [.t 5,.c (.bool true),.t 7]] [0,8])
 (.cond (.t 8) (.seq (cR [oA 9 (.build [(.int .i64 (0)), (.slice none 0 0)] []) [],
 oA 10 (.box 232 2) [.t 9],
 oM 2 10] [2])
 (.ret))
 (.skip)))
 (.seq (cR [oM 11 0,
 oM 12 0,
 oA 13 (.build [(.int .i64 (0)), (.int .i64 (0))] [(0, 1), (1, 1)]) [.c (.int .i64 (0)),.t 12],
 oA 14 (.buildSlice 67 2 1 [(.int .i64 (0)), (.int .i64 (0))] [(0, 2)]) [.t 13],
 oA 15 (.build [(.int .i64 (0)), (.slice none 0 0)] [(0, 1), (1, 1)]) [.t 11,.t 14],
 oA 16 (.box 232 2) [.t 15],
 oM 2 16] [2])
 (.ret))),
 [.tmp 2], none⟩

def f89 : Func := ⟨.seq (cR [oA 8 .move [.c (.pointer none)]] [0,1,2,3])
 (.seq (.seq (cR [oM 9 0,
 oA 10 (.isNil .ptr false) [.t 9],
 oM 11 10,
 oG (some 12) .move [.t 1] 11 false,
 oG (some 13) (.isNil .ptr false) [.t 12] 11 false,
 oA 14 .pick [.t 11,.c (.bool true),.t 13],
 oM 15 14,
 oG (some 16) .move [.t 2] 15 false,
 oG (some 17) (.isNil .ptr false) [.t 16] 15 false,
 oA 18 .pick [.t 15,.c (.bool true),.t 17]] [0,1,2,3,18])
 (.cond (.t 18) (.seq (cR [oA 8 .move [.c (.pointer none)]] [8])
 (.ret))
 (.skip)))
 (.seq (cR [oM 19 0,
 oM 20 1,
 oM 21 2,
 oM 22 3,
 oA 23 (.build [(.pointer none), (.pointer none), (.pointer none), (.int .i64 (0))] [(0, 1), (1, 1), (2, 1), (3, 1)]) [.t 19,.t 20,.t 21,.t 22],
 oA 24 (.box 220 4) [.t 23],
 oM 8 24] [8])
 (.ret))),
 [.tmp 8], none⟩

def f90 : Func := ⟨.seq (cR [oA 2 .move [.c (.pointer none)]] [0])
 (.seq (.seq (cR [oM 3 0,
 oA 4 (.isNil .ptr false) [.t 3]] [0,4])
 (.cond (.t 4) (.seq (cR [oA 2 .move [.c (.pointer none)]] [2])
 (.ret))
 (.skip)))
 (.seq (cR [oM 5 0,
 oA 6 .newMap [],
 oA 7 .newMap [],
 oA 8 .newMap [],
 oA 9 (.build [(.pointer none), (.map none), (.map none), (.map none), (.slice none 0 0)] [(0, 1), (1, 1), (2, 1), (3, 1)]) [.t 5,.t 6,.t 7,.t 8],
 oA 10 (.box 235 5) [.t 9],
 oM 2 10] [2])
 (.ret))),
 [.tmp 2], none⟩

def f91 : Func := ⟨.seq (cR [oA 3 .move [.c (.int .i64 (0))]] [0,1,2])
 (.seq (cD [⟨[oA 5 (.load false 1) [.t 2],
 oA 6 (.load false 1) [.t 2],
 oA 7 (.load false 1) [.t 0],
 oA 8 (.load false 1) [.t 1]],some (oA 9 .call [.c (.func (.func 79) #[] #[]),.t 8]),[5,6,7],[]⟩,
 ⟨[],some (oA 10 .call [.c (.func (.func 92) #[] #[]),.t 7,.t 9]),[5,6],[]⟩,
 ⟨[oM 4 10,
 oA 11 (.extract 0) [.t 4],
 oA 12 (.extract 1) [.t 4],
 oA 13 (.extract 2) [.t 4],
 oA 14 .nilCheck [.t 5],
 oA 15 (.fieldAddr 9) [.t 14]],some (oN (.store 1) [.t 15,.t 11]),[6],[]⟩,
 ⟨[oA 16 .nilCheck [.t 6],
 oA 17 (.fieldAddr 10) [.t 16]],some (oN (.store 1) [.t 17,.t 12]),[],[]⟩,
 ⟨[oM 3 13],none,[],[]⟩] [5,6,7,8,9,10,4,11,12,13,14,15,16,17,3] [3])
 (.seq (cR [oM 18 3,
 oM 3 18] [3])
 (.ret))),
 [.tmp 3], none⟩

def l92_0 : Code :=
 .seq (.seq (cR [oM 38 11,
 oA 39 (.fieldAddr 4) [.t 10],
 oA 40 (.load false 1) [.t 39],
 oA 41 .lenS [.t 40],
 oA 42 (.bin .lss) [.t 38,.t 41],
 oM 43 42,
 oG (some 44) (.fieldAddr 3) [.t 10] 43 true,
 oG (some 45) (.load false 1) [.t 44] 43 true,
 oG (some 46) (.un .not) [.t 45] 43 true,
 oA 47 .pick [.t 43,.t 46,.c (.bool false)]] [7,8,10,11,19,20,21,47])
 (.cond (.t 47) (.skip)
 (.exit 2)))
 (.seq (.block 3 (cR [oM 50 8,
 oA 51 (.fieldAddr 0) [.t 10],
 oA 52 (.fieldAddr 0) [.t 51],
 oA 53 (.load false 1) [.t 52],
 oA 54 .call [.c (.func (.func 143) #[] #[]),.t 50,.t 53]] [7,8,10,11,19,20,21]))
 (cR [oM 48 11,
 oA 49 (.bin .add) [.t 48,.c (.int .i64 (1))],
 oM 11 49] [7,8,10,11,19,20,21]))
def l92_1 : Code :=
 .seq (cR [oA 22 (.bin .lss) [.t 21,.t 20]] [7,8,19,20,21,22])
 (.seq (.cond (.t 22) (.skip)
 (.exit 0))
 (.seq (.block 1 (.seq (cR [oA 23 (.idxAddr 5) [.t 19,.t 21],
 oA 24 (.load true 5) [.t 23],
 oA 10 (.new 70 5 [(.int .i64 (0)), (.int .i64 (0)), (.int .i64 (0)), (.bool false), (.slice none 0 0)]) [],
 oN (.store 5) [.t 10,.t 24]] [7,8,10,19,20,21])
 (.seq (.seq (cR [oM 25 7,
 oA 26 (.fieldAddr 0) [.t 10],
 oA 27 (.fieldAddr 0) [.t 26],
 oA 28 (.load false 1) [.t 27],
 oA 29 (.fieldAddr 0) [.t 10],
 oA 30 (.fieldAddr 1) [.t 29],
 oA 31 (.load false 1) [.t 30],
 oA 32 .call [.c (.func (.func 118) #[] #[]),.t 25,.t 28,.t 31],
 oA 33 (.un .not) [.t 32]] [7,8,10,19,20,21,33])
 (.cond (.t 33) (.seq (cR [oA 4 .move [.c (.pointer none)],
 oA 5 .move [.c (.pointer none)],
 oA 6 .move [.c (.int .i64 (4))]] [4,5,6])
 (.ret))
 (.skip)))
 (.seq (cR [oM 34 8,
 oA 35 (.fieldAddr 0) [.t 10],
 oA 36 (.load true 2) [.t 35],
 oA 37 .call [.c (.func (.func 142) #[] #[]),.t 34,.t 36]] [7,8,10,19,20,21])
 (.seq (cR [oA 11 .move [.c (.int .i64 (1))]] [7,8,10,11,19,20,21])
 (.block 2 (.loop [7,8,10,11,19,20,21] l92_0)))))))
 (cR [oA 55 (.bin .add) [.t 21,.c (.int .i64 (1))],
 oM 21 55] [7,8,19,20,21])))
def f92 : Func := ⟨.seq (cR [oA 4 .move [.c (.pointer none)],
 oA 5 .move [.c (.pointer none)],
 oA 6 .move [.c (.int .i64 (0))]] [0,1])
 (.seq (cR [oM 12 1,
 oA 13 .call [.c (.func (.func 88) #[] #[]),.t 12],
 oM 7 13] [0,7])
 (.seq (cR [oM 14 7,
 oA 15 .call [.c (.func (.func 90) #[] #[]),.t 14],
 oM 8 15] [0,7,8])
 (.seq (.seq (cR [oM 16 7,
 oA 17 .call [.c (.func (.func 118) #[] #[]),.t 16,.c (.int .i64 (0)),.c (.int .i64 (2))],
 oA 18 (.un .not) [.t 17]] [0,7,8,18])
 (.cond (.t 18) (.seq (cR [oA 4 .move [.c (.pointer none)],
 oA 5 .move [.c (.pointer none)],
 oA 6 .move [.c (.int .i64 (4))]] [4,5,6])
 (.ret))
 (.skip)))
 (.seq (.seq (cR [oM 19 0,
 oA 20 .lenS [.t 19],
 oA 21 .move [.c (.int .i64 (0))]] [7,8,19,20,21])
 (.block 0 (.loop [7,8,19,20,21] l92_1)))
 (.seq (cR [oM 56 8,
 oA 57 .call [.c (.func (.func 110) #[] #[]),.t 56]] [7,8])
 (.seq (cR [oM 58 7,
 oM 59 8,
 oM 4 58,
 oM 5 59,
 oA 6 .move [.c (.int .i64 (0))]] [4,5,6])
 (.ret))))))),
 [.tmp 4, .tmp 5, .tmp 6], none⟩

def f93 : Func := ⟨.seq (cR [oA 3 (.box 75 4) [.t 1],
 oA 4 .move [.c (.slice none 0 0)],
 oA 5 .move [.c (.int .i64 (0))]] [0,3])
 (.seq (cR [oA 6 (.new 177 1 [(.slice none 0 0)]) []] [0,3,6])
 (.seq (cR [oM 8 0,
 oA 9 (.load true 4) [.t 3],
 oA 10 (.func 145 0) [.t 6],
 oA 11 .call [.c (.func (.func 144) #[] #[]),.t 8,.t 9,.t 10],
 oM 7 11] [6,7])
 (.seq (.seq (cR [oM 12 7,
 oA 13 (.bin .neq) [.t 12,.c (.int .i64 (0))]] [6,7,13])
 (.cond (.t 13) (.seq (cR [oM 14 7,
 oA 4 .move [.c (.slice none 0 0)],
 oM 5 14] [4,5])
 (.ret))
 (.skip)))
 (.seq (cR [oA 15 (.load false 1) [.t 6],
 oM 4 15,
 oA 5 .move [.c (.int .i64 (0))]] [4,5])
 (.ret))))),
 [.tmp 4, .tmp 5], none⟩

def f94 : Func := ⟨.seq (cR [oA 3 (.box 75 4) [.t 1],
 oA 4 .move [.c (.slice none 0 0)],
 oA 5 .move [.c (.int .i64 (0))]] [0,3])
 (.seq (cR [oA 6 (.new 138 1 [(.slice none 0 0)]) []] [0,3,6])
 (.seq (cR [oM 8 0,
 oA 9 (.load true 4) [.t 3],
 oA 10 (.func 146 0) [.t 6],
 oA 11 .call [.c (.func (.func 144) #[] #[]),.t 8,.t 9,.t 10],
 oM 7 11] [6,7])
 (.seq (.seq (cR [oM 12 7,
 oA 13 (.bin .neq) [.t 12,.c (.int .i64 (0))]] [6,7,13])
 (.cond (.t 13) (.seq (cR [oM 14 7,
 oA 4 .move [.c (.slice none 0 0)],
 oM 5 14] [4,5])
 (.ret))
 (.skip)))
 (.seq (cR [oA 15 (.load false 1) [.t 6],
 oM 4 15,
 oA 5 .move [.c (.int .i64 (0))]] [4,5])
 (.ret))))),
 [.tmp 4, .tmp 5], none⟩

def f95 : Func := ⟨cR [oM 4 0,
 oM 5 0,
 oA 6 .lenS [.t 5],
 oM 7 1,
 oA 8 .call [.c (.func (.func 147) #[] #[]),.t 4,.t 6,.t 7]] [],
 [], none⟩

def f96 : Func := ⟨.seq (cR [oA 2 (.box 70 5) [.t 0],
 oA 3 (.box 70 5) [.t 1],
 oA 4 .move [.c (.int .i64 (0))]] [2,3])
 (.seq (cR [oA 5 (.fieldAddr 0) [.t 2],
 oA 6 (.fieldAddr 0) [.t 5],
 oA 7 (.load false 1) [.t 6],
 oA 8 (.fieldAddr 0) [.t 3],
 oA 9 (.fieldAddr 0) [.t 8],
 oA 10 (.load false 1) [.t 9],
 oA 11 .call [.c (.func (.func 97) #[] #[]),.t 7,.t 10],
 oM 4 11] [4])
 (.ret)),
 [.tmp 4], none⟩

def f97 : Func := ⟨.seq (cR [oA 4 .move [.c (.int .i64 (0))]] [0,1])
 (.seq (cR [oM 7 0,
 oA 8 .call [.c (.func (.func 148) #[] #[]),.t 7],
 oM 5 8] [0,1,5])
 (.seq (cR [oM 9 1,
 oA 10 .call [.c (.func (.func 148) #[] #[]),.t 9],
 oM 6 10] [0,1,5,6])
 (.seq (.seq (cR [oM 11 5] [0,1,6,11])
 (.cond (.t 11) (.seq (.seq (cR [oM 12 6] [12])
 (.cond (.t 12) (.seq (cR [oA 4 .move [.c (.int .i64 (0))]] [4])
 (.ret))
 (.skip)))
 (.seq (cR [oA 4 .move [.c (.int .i64 (-1))]] [4])
 (.ret)))
 (.skip)))
 (.seq (.seq (cR [oM 13 6] [0,1,13])
 (.cond (.t 13) (.seq (cR [oA 4 .move [.c (.int .i64 (1))]] [4])
 (.ret))
 (.skip)))
 (.seq (.seq (cR [oM 14 0,
 oM 15 1,
 oA 16 (.bin .lss) [.t 14,.t 15]] [0,1,16])
 (.cond (.t 16) (.seq (cR [oA 4 .move [.c (.int .i64 (-1))]] [4])
 (.ret))
 (.skip)))
 (.seq (.seq (cR [oM 17 0,
 oM 18 1,
 oA 19 (.bin .gtr) [.t 17,.t 18]] [19])
 (.cond (.t 19) (.seq (cR [oA 4 .move [.c (.int .i64 (1))]] [4])
 (.ret))
 (.skip)))
 (.seq (cR [oA 4 .move [.c (.int .i64 (0))]] [4])
 (.ret)))))))),
 [.tmp 4], none⟩

def l98_0 : Code :=
 .seq (cR [oA 43 (.bin .lss) [.t 42,.t 41]] [0,1,3,4,8,40,41,42,43])
 (.seq (.cond (.t 43) (.skip)
 (.exit 0))
 (.seq (.block 1 (.seq (cR [oM 44 42,
 oA 45 (.idxAddr 1) [.t 40,.t 42],
 oA 46 (.load false 1) [.t 45],
 oM 9 44,
 oM 10 46] [0,1,3,4,8,9,10,40,41,42])
 (cR [oA 47 (.load false 1) [.t 4],
 oM 48 10,
 oA 49 (.fieldAddr 0) [.t 8],
 oA 50 (.load false 1) [.t 49],
 oA 51 (.fieldAddr 1) [.t 8],
 oA 52 (.load false 1) [.t 51],
 oM 53 9,
 oA 54 (.build [(.int .i64 (0)), (.int .i64 (0)), (.int .i64 (0))] [(0, 1), (1, 1), (2, 1)]) [.t 50,.t 52,.t 53],
 oA 55 (.fieldAddr 0) [.t 1],
 oA 56 (.load false 1) [.t 55],
 oA 57 (.bin .add) [.t 56,.c (.int .i64 (1))],
 oA 58 (.build [(.int .i64 (0)), (.int .i64 (0)), (.int .i64 (0)), (.int .i64 (0)), (.int .i64 (0))] [(0, 1), (1, 3), (4, 1)]) [.t 48,.t 54,.t 57],
 oA 59 (.buildSlice 112 5 1 [(.int .i64 (0)), (.int .i64 (0)), (.int .i64 (0)), (.int .i64 (0)), (.int .i64 (0))] [(0, 5)]) [.t 58],
 oA 60 (.append 112 5 40) [.t 47,.t 59],
 oN (.store 1) [.t 4,.t 60]] [0,1,3,4,8,40,41,42])))
 (cR [oA 61 (.bin .add) [.t 42,.c (.int .i64 (1))],
 oM 42 61] [0,1,3,4,8,40,41,42])))
def f98 : Func := ⟨.seq (cR [oA 5 .move [.c (.int .i64 (0))]] [0,1,2,3,4])
 (.seq (.seq (cR [oA 11 (.load false 1) [.t 0],
 oA 12 .lenS [.t 11],
 oA 13 (.bin .eql) [.t 12,.c (.int .i64 (0))]] [0,1,2,3,4,13])
 (.cond (.t 13) (.seq (cR [oA 5 .move [.c (.int .i64 (0))]] [5])
 (.ret))
 (.skip)))
 (.seq (cR [oA 15 (.load false 1) [.t 0],
 oA 16 (.fieldAddr 0) [.t 1],
 oA 17 (.load false 1) [.t 16],
 oA 18 (.bin .add) [.t 17,.c (.int .i64 (1))],
 oA 19 (.fieldAddr 3) [.t 1],
 oA 20 (.load false 1) [.t 19],
 oA 21 .call [.c (.func (.func 99) #[] #[]),.t 15,.t 18,.t 20],
 oM 14 21,
 oA 22 (.extract 0) [.t 14],
 oA 23 (.extract 1) [.t 14],
 oM 6 22,
 oM 7 23] [0,1,2,3,4,6,7])
 (.seq (.seq (cR [oM 24 7,
 oA 25 (.bin .neq) [.t 24,.c (.int .i64 (0))]] [0,1,2,3,4,6,7,25])
 (.cond (.t 25) (.seq (cR [oM 26 7,
 oM 5 26] [5])
 (.ret))
 (.skip)))
 (.seq (cR [oA 28 (.load false 1) [.t 2],
 oA 29 .nilCheck [.t 28],
 oA 30 (.fieldAddr 0) [.t 29],
 oA 31 (.load false 1) [.t 30],
 oA 32 .call [.c (.func (.func 48) #[] #[]),.t 31],
 oM 33 6,
 oA 34 .call [.c (.func (.func 100) #[] #[]),.t 32,.t 33],
 oM 27 34,
 oA 35 (.extract 0) [.t 27],
 oA 36 (.extract 1) [.t 27],
 oA 8 (.new 67 2 [(.int .i64 (0)), (.int .i64 (0))]) [],
 oN (.store 2) [.t 8,.t 35],
 oM 7 36] [0,1,3,4,7,8])
 (.seq (.seq (cR [oM 37 7,
 oA 38 (.bin .neq) [.t 37,.c (.int .i64 (0))]] [0,1,3,4,7,8,38])
 (.cond (.t 38) (.seq (cR [oM 39 7,
 oM 5 39] [5])
 (.ret))
 (.skip)))
 (.seq (.seq (cR [oA 40 (.load false 1) [.t 3],
 oA 41 .lenS [.t 40],
 oA 42 .move [.c (.int .i64 (0))]] [0,1,3,4,8,40,41,42])
 (.block 0 (.loop [0,1,3,4,8,40,41,42] l98_0)))
 (.seq (cR [oN (.store 1) [.t 3,.c (.slice none 0 0)],
 oN (.store 1) [.t 0,.c (.slice none 0 0)]] [])
 (.seq (cR [oA 5 .move [.c (.int .i64 (0))]] [5])
 (.ret))))))))),
 [.tmp 5], none⟩

def l99_0 : Code :=
 .seq (cR [oA 24 (.bin .lss) [.t 23,.t 22]] [0,1,2,21,22,23,24])
 (.seq (.cond (.t 24) (.skip)
 (.exit 0))
 (.seq (.block 1 (.seq (cR [oA 25 (.idxAddr 1) [.t 21,.t 23],
 oA 26 (.load false 1) [.t 25],
 oM 9 26] [0,1,2,9,21,22,23])
 (.seq (cR [oM 27 9,
 oA 28 .lenS [.t 27],
 oA 29 (.bin .neq) [.t 28,.c (.int .i64 (128))]] [0,1,2,21,22,23,29])
 (.cond (.t 29) (.seq (cR [oA 6 .move [.c (.slice none 0 0)],
 oA 7 .move [.c (.int .i64 (1))]] [6,7])
 (.ret))
 (.skip)))))
 (cR [oA 30 (.bin .add) [.t 23,.c (.int .i64 (1))],
 oM 23 30] [0,1,2,21,22,23])))
def f99 : Func := ⟨.seq (cR [oA 6 .move [.c (.slice none 0 0)],
 oA 7 .move [.c (.int .i64 (0))]] [0,1,2])
 (.seq (.seq (cR [oM 13 0,
 oA 14 .lenS [.t 13],
 oA 15 (.bin .lss) [.t 14,.c (.int .i64 (1))],
 oM 16 15,
 oG (some 17) .move [.t 0] 16 false,
 oG (some 18) .lenS [.t 17] 16 false,
 oG (some 19) (.bin .gtr) [.t 18,.c (.int .i64 (8))] 16 false,
 oA 20 .pick [.t 16,.c (.bool true),.t 19]] [0,1,2,20])
 (.cond (.t 20) (.seq (cR [oA 6 .move [.c (.slice none 0 0)],
 oA 7 .move [.c (.int .i64 (1))]] [6,7])
 (.ret))
 (.skip)))
 (.seq (.seq (cR [oM 21 0,
 oA 22 .lenS [.t 21],
 oA 23 .move [.c (.int .i64 (0))]] [0,1,2,21,22,23])
 (.block 0 (.loop [0,1,2,21,22,23] l99_0)))
 (.seq (cR [oM 32 0,
 oA 33 .call [.c (.func (.func 150) #[] #[]),.t 32,.c (.slice none 0 0)],
 oM 34 2,
 oA 35 .call [.c (.func (.func 149) #[] #[]),.t 33,.t 34],
 oM 31 35,
 oA 36 (.extract 0) [.t 31],
 oA 37 (.extract 1) [.t 31],
 oM 10 36,
 oM 11 37] [0,1,10,11])
 (.seq (cR [oA 38 (.build [(.slice none 0 0)] []) [],
 oA 39 (.box 245 1) [.t 38],
 oM 12 39] [0,1,10,11,12])
 (.seq (cR [oM 40 12,
 oM 41 0,
 oA 42 .lenS [.t 41],
 oA 43 .call [.c (.func (.func 151) #[] #[]),.t 40,.t 42]] [1,10,11,12])
 (.seq (cR [oM 44 12,
 oM 45 10,
 oA 46 .call [.c (.func (.func 151) #[] #[]),.t 44,.t 45]] [1,11,12])
 (.seq (cR [oM 47 12,
 oM 48 11,
 oA 49 .call [.c (.func (.func 152) #[] #[]),.t 47,.t 48]] [1,12])
 (.seq (cR [oM 50 1,
 oM 51 12,
 oA 52 .call [.c (.func (.func 154) #[] #[]),.t 51],
 oA 53 .call [.c (.func (.func 153) #[] #[]),.c (.int .u8 (231)),.t 50,.t 52],
 oA 54 (.extract 0) [.t 53],
 oA 55 (.extract 1) [.t 53],
 oM 6 54,
 oM 7 55] [6,7])
 (.ret))))))))),
 [.tmp 6, .tmp 7], none⟩

def l100_0 : Code :=
 .seq (cR [oA 53 (.bin .lss) [.t 52,.t 51]] [0,1,4,7,9,51,52,53])
 (.seq (.cond (.t 53) (.skip)
 (.exit 0))
 (.seq (.block 1 (.seq (cR [oM 54 52,
 oM 10 54] [0,1,4,7,9,10,51,52])
 (.seq (cD [⟨[oM 55 0,
 oA 56 .nilCheck [.t 55],
 oA 57 (.fieldAddr 0) [.t 56],
 oA 58 (.load false 1) [.t 57],
 oM 59 7,
 oM 60 10,
 oA 61 (.bin .add) [.t 59,.t 60],
 oM 62 1,
 oM 63 10,
 oA 64 (.bin .mul) [.t 63,.c (.int .i64 (64))],
 oM 65 10,
 oA 66 (.bin .add) [.t 65,.c (.int .i64 (1))],
 oA 67 (.bin .mul) [.t 66,.c (.int .i64 (64))],
 oA 68 (.slice 1 true true false) [.t 62,.t 64,.t 67]],some (oA 69 .call [.c (.func (.func 121) #[] #[]),.t 58,.t 61,.t 68]),[],[]⟩,
 ⟨[oM 11 69],none,[],[]⟩] [55,56,57,58,59,60,61,62,63,64,65,66,67,68,69,11] [0,1,4,7,9,11,51,52])
 (.seq (cR [oM 70 11,
 oA 71 (.bin .neq) [.t 70,.c (.int .i64 (0))]] [0,1,4,7,9,11,51,52,71])
 (.cond (.t 71) (.seq (cR [oA 72 (.build [(.int .i64 (0)), (.int .i64 (0))] []) [],
 oM 73 11,
 oN (.store 2) [.t 4,.t 72],
 oM 5 73] [4,5])
 (.ret))
 (.skip))))))
 (cR [oA 74 (.bin .add) [.t 52,.c (.int .i64 (1))],
 oM 52 74] [0,1,4,7,9,51,52])))
def f100 : Func := ⟨.seq (cR [oA 4 (.new 67 2 [(.int .i64 (0)), (.int .i64 (0))]) [],
 oA 5 .move [.c (.int .i64 (0))]] [0,1,4])
 (.seq (.seq (cR [oM 12 0,
 oA 13 .call [.c (.func (.func 129) #[] #[]),.t 12],
 oA 14 (.un .not) [.t 13],
 oM 15 14,
 oG (some 16) .move [.t 1] 15 false,
 oG (some 17) .lenS [.t 16] 15 false,
 oG (some 18) (.bin .eql) [.t 17,.c (.int .i64 (0))] 15 false,
 oA 19 .pick [.t 15,.c (.bool true),.t 18],
 oM 20 19,
 oG (some 21) .move [.t 1] 20 false,
 oG (some 22) .lenS [.t 21] 20 false,
 oG (some 23) (.bin .rem) [.t 22,.c (.int .i64 (64))] 20 false,
 oG (some 24) (.bin .neq) [.t 23,.c (.int .i64 (0))] 20 false,
 oA 25 .pick [.t 20,.c (.bool true),.t 24]] [0,1,4,25])
 (.cond (.t 25) (.seq (cR [oA 26 (.build [(.int .i64 (0)), (.int .i64 (0))] []) [],
 oN (.store 2) [.t 4,.t 26],
 oA 5 .move [.c (.int .i64 (1))]] [4,5])
 (.ret))
 (.skip)))
 (.seq (cR [oM 27 1,
 oA 28 .lenS [.t 27],
 oA 29 (.bin .quo) [.t 28,.c (.int .i64 (64))],
 oM 6 29] [0,1,4,6])
 (.seq (cR [oM 31 0,
 oA 32 .nilCheck [.t 31],
 oA 33 (.fieldAddr 2) [.t 32],
 oA 34 (.load false 1) [.t 33],
 oM 35 6,
 oA 36 .call [.c (.func (.func 155) #[] #[]),.t 34,.t 35],
 oM 30 36,
 oA 37 (.extract 0) [.t 30],
 oA 38 (.extract 1) [.t 30],
 oM 7 37,
 oM 8 38] [0,1,4,6,7,8])
 (.seq (.seq (cR [oM 39 8,
 oA 40 (.un .not) [.t 39]] [0,1,4,6,7,40])
 (.cond (.t 40) (.seq (cR [oA 41 (.build [(.int .i64 (0)), (.int .i64 (0))] []) [],
 oN (.store 2) [.t 4,.t 41],
 oA 5 .move [.c (.int .i64 (7))]] [4,5])
 (.ret))
 (.skip)))
 (.seq (cR [oM 42 7,
 oM 43 6,
 oA 44 (.build [(.int .i64 (0)), (.int .i64 (0))] [(0, 1), (1, 1)]) [.t 42,.t 43],
 oA 9 (.new 67 2 [(.int .i64 (0)), (.int .i64 (0))]) [],
 oN (.store 2) [.t 9,.t 44]] [0,1,4,6,7,9])
 (.seq (cD [⟨[oM 45 0,
 oA 46 .nilCheck [.t 45],
 oA 47 (.fieldAddr 1) [.t 46],
 oA 48 (.load false 1) [.t 47],
 oA 49 (.load true 2) [.t 9]],some (oA 50 .call [.c (.func (.func 142) #[] #[]),.t 48,.t 49]),[],[]⟩] [45,46,47,48,49,50] [0,1,4,6,7,9])
 (.seq (.seq (cR [oM 51 6,
 oA 52 .move [.c (.int .i64 (0))]] [0,1,4,7,9,51,52])
 (.block 0 (.loop [0,1,4,7,9,51,52] l100_0)))
 (.seq (cR [oA 75 (.load true 2) [.t 9],
 oN (.store 2) [.t 4,.t 75],
 oA 5 .move [.c (.int .i64 (0))]] [4,5])
 (.ret))))))))),
 [.cell 4 true 2, .tmp 5], none⟩

def l101_0 : Code :=
 .seq (cR [oA 17 (.bin .lss) [.t 16,.t 15]] [0,3,14,15,16,17])
 (.seq (.cond (.t 17) (.skip)
 (.exit 0))
 (.seq (.block 1 (.seq (cR [oA 18 (.idxAddr 1) [.t 14,.t 16],
 oA 19 (.load false 1) [.t 18],
 oM 5 19] [0,3,5,14,15,16])
 (cR [oM 20 3,
 oM 21 5,
 oM 22 0,
 oA 23 .nilCheck [.t 22],
 oA 24 (.fieldAddr 1) [.t 23],
 oA 25 (.load false 1) [.t 24],
 oM 26 5,
 oA 27 (.lookup none (.slice none 0 0) false) [.t 25,.t 26],
 oA 28 .call [.c (.func (.func 74) #[] #[]),.t 27],
 oA 29 (.build [(.int .i64 (0)), (.slice none 0 0)] [(0, 1), (1, 1)]) [.t 21,.t 28],
 oA 30 (.buildSlice 192 2 1 [(.int .i64 (0)), (.slice none 0 0)] [(0, 2)]) [.t 29],
 oA 31 (.append 192 2 32) [.t 20,.t 30],
 oM 3 31] [0,3,14,15,16])))
 (cR [oA 32 (.bin .add) [.t 16,.c (.int .i64 (1))],
 oM 16 32] [0,3,14,15,16])))
def f101 : Func := ⟨.seq (cR [oA 2 .move [.c (.slice none 0 0)]] [0])
 (.seq (.seq (cR [oM 6 0,
 oA 7 .call [.c (.func (.func 73) #[] #[]),.t 6],
 oA 8 (.un .not) [.t 7]] [0,8])
 (.cond (.t 8) (.seq (cR [oA 2 .move [.c (.slice none 0 0)]] [2])
 (.ret))
 (.skip)))
 (.seq (cR [oA 3 .move [.c (.slice none 0 0)]] [0,3])
 (.seq (.seq (cR [oM 9 0,
 oA 10 .nilCheck [.t 9],
 oA 11 (.fieldAddr 1) [.t 10],
 oA 12 (.load false 1) [.t 11],
 oA 13 .call [.c (.func (.func 157) #[] #[]),.t 12],
 oA 14 .call [.c (.func (.func 156) #[] #[]),.t 13],
 oA 15 .lenS [.t 14],
 oA 16 .move [.c (.int .i64 (0))]] [0,3,14,15,16])
 (.block 0 (.loop [0,3,14,15,16] l101_0)))
 (.seq (cR [oM 33 3,
 oM 2 33] [2])
 (.ret))))),
 [.tmp 2], none⟩

def l102_0 : Code :=
 .seq (cR [oA 13 (.bin .lss) [.t 12,.t 11]] [0,10,11,12,13])
 (.seq (.cond (.t 13) (.skip)
 (.exit 0))
 (.seq (.block 1 (.seq (cR [oA 14 (.idxAddr 2) [.t 10,.t 12],
 oA 15 (.load true 2) [.t 14],
 oA 3 (.new 67 2 [(.int .i64 (0)), (.int .i64 (0))]) [],
 oN (.store 2) [.t 3,.t 15]] [0,3,10,11,12])
 (cD [⟨[oM 16 0,
 oA 17 .nilCheck [.t 16],
 oA 18 (.fieldAddr 0) [.t 17],
 oA 19 (.load false 1) [.t 18],
 oA 20 (.fieldAddr 0) [.t 3],
 oA 21 (.load false 1) [.t 20],
 oA 22 (.fieldAddr 1) [.t 3],
 oA 23 (.load false 1) [.t 22]],some (oA 24 .call [.c (.func (.func 159) #[] #[]),.t 19,.t 21,.t 23]),[],[]⟩] [16,17,18,19,20,21,22,23,24] [0,10,11,12])))
 (cR [oA 25 (.bin .add) [.t 12,.c (.int .i64 (1))],
 oM 12 25] [0,10,11,12])))
def f102 : Func := ⟨.seq (.seq (cR [oM 4 0,
 oA 5 .call [.c (.func (.func 158) #[] #[]),.t 4],
 oA 6 (.un .not) [.t 5]] [0,6])
 (.cond (.t 6) (.ret)
 (.skip)))
 (.seq (.seq (cR [oM 7 0,
 oA 8 .nilCheck [.t 7],
 oA 9 (.fieldAddr 4) [.t 8],
 oA 10 (.load false 1) [.t 9],
 oA 11 .lenS [.t 10],
 oA 12 .move [.c (.int .i64 (0))]] [0,10,11,12])
 (.block 0 (.loop [0,10,11,12] l102_0)))
 (cR [oM 26 0,
 oM 27 0,
 oM 28 0,
 oM 29 0,
 oA 30 .nilCheck [.t 29],
 oA 31 (.fieldAddr 3) [.t 30],
 oA 32 (.load false 1) [.t 31],
 oA 33 .call [.c (.func (.func 160) #[] #[]),.t 32],
 oA 34 .newMap [],
 oA 35 .nilCheck [.t 26],
 oA 36 (.fieldAddr 1) [.t 35],
 oN (.store 1) [.t 36,.t 33],
 oA 37 .nilCheck [.t 27],
 oA 38 (.fieldAddr 2) [.t 37],
 oN (.store 1) [.t 38,.t 34],
 oA 39 .nilCheck [.t 28],
 oA 40 (.fieldAddr 4) [.t 39],
 oN (.store 1) [.t 40,.c (.slice none 0 0)]] [])),
 [], none⟩

def f103 : Func := ⟨.seq (cR [oM 4 0,
 oA 5 .call [.c (.func (.func 129) #[] #[]),.t 4]] [0,1,5])
 (.cond (.t 5) (cR [oM 6 0,
 oM 7 1,
 oA 8 .nilCheck [.t 6],
 oA 9 (.fieldAddr 3) [.t 8],
 oN (.store 1) [.t 9,.t 7]] [])
 (.skip)),
 [], none⟩

def f104 : Func := ⟨.seq (cR [oA 4 .move [.c (.int .i64 (0))]] [0,1,2,3])
 (.seq (cD [⟨[oA 6 (.load false 1) [.t 0],
 oA 7 .nilCheck [.t 6],
 oA 8 (.fieldAddr 11) [.t 7],
 oA 9 (.load false 1) [.t 8],
 oA 10 (.iface 118) [.t 9],
 oA 11 (.fieldAddr 4) [.t 1],
 oA 12 (.load true 4) [.t 11],
 oA 13 (.load false 1) [.t 2],
 oA 14 (.load false 1) [.t 3]],some (oA 15 .call [.c (.func (.func 105) #[] #[]),.t 10,.t 12,.t 13,.t 14]),[],[]⟩,
 ⟨[oM 5 15,
 oA 16 (.extract 0) [.t 5],
 oA 17 (.extract 1) [.t 5],
 oA 18 (.fieldAddr 4) [.t 1]],some (oN (.store 4) [.t 18,.t 16]),[],[]⟩,
 ⟨[oM 4 17],none,[],[]⟩] [6,7,8,9,10,11,12,13,14,15,5,16,17,18,4] [4])
 (.seq (cR [oM 19 4,
 oM 4 19] [4])
 (.ret))),
 [.tmp 4], none⟩

def f105 : Func := ⟨.seq (cR [oA 4 (.box 216 1) [.t 0],
 oA 5 (.box 75 4) [.t 1],
 oA 6 (.box 68 1) [.t 2],
 oA 7 (.box 138 1) [.t 3],
 oA 8 (.new 75 4 [(.int .i64 (0)), (.int .i64 (0)), (.int .i64 (0)), (.int .i64 (0))]) [],
 oA 9 .move [.c (.int .i64 (0))]] [4,5,6,7,8])
 (.seq (cR [oA 10 .move [.c (.func (.func 161) #[] #[])]] [4,5,6,7,8,10])
 (.seq (.seq (cR [oA 13 (.load false 1) [.t 4],
 oA 14 (.isNil .iface false) [.t 13],
 oM 15 14,
 oG (some 16) (.load false 1) [.t 7] 15 false,
 oG (some 17) .move [.t 10] 15 false,
 oG (some 18) .call [.c (.func (.func 163) #[] #[]),.t 16,.t 17] 15 false,
 oA 19 .pick [.t 15,.c (.bool true),.t 18],
 oM 20 19,
 oG (some 21) (.load false 1) [.t 6] 20 false,
 oG (some 22) .call [.c (.func (.func 164) #[] #[]),.t 21,.c (.func (.func 165) #[] #[])] 20 false,
 oA 23 .pick [.t 20,.c (.bool true),.t 22]] [4,5,6,7,8,23])
 (.cond (.t 23) (.seq (cR [oA 24 (.build [(.int .i64 (0)), (.int .i64 (0)), (.int .i64 (0)), (.int .i64 (0))] []) [],
 oN (.store 4) [.t 8,.t 24],
 oA 9 .move [.c (.int .i64 (1))]] [8,9])
 (.ret))
 (.skip)))
 (.seq (cR [oA 25 (.load true 4) [.t 5],
 oA 11 (.new 75 4 [(.int .i64 (0)), (.int .i64 (0)), (.int .i64 (0)), (.int .i64 (0))]) [],
 oN (.store 4) [.t 11,.t 25]] [4,5,6,7,8,11])
 (.seq (cR [oA 26 (.func 167 0) [.t 4,.t 5,.t 6,.t 7,.t 11],
 oA 27 .call [.c (.func (.func 166) #[] #[]),.t 26],
 oM 12 27] [8,11,12])
 (.seq (.seq (cR [oM 28 12,
 oA 29 (.bin .neq) [.t 28,.c (.int .i64 (0))]] [8,11,12,29])
 (.cond (.t 29) (.seq (cR [oA 30 (.build [(.int .i64 (0)), (.int .i64 (0)), (.int .i64 (0)), (.int .i64 (0))] []) [],
 oM 31 12,
 oN (.store 4) [.t 8,.t 30],
 oM 9 31] [8,9])
 (.ret))
 (.skip)))
 (.seq (cR [oA 32 (.load true 4) [.t 11],
 oN (.store 4) [.t 8,.t 32],
 oA 9 .move [.c (.int .i64 (0))]] [8,9])
 (.ret))))))),
 [.cell 8 true 4, .tmp 9], none⟩

def f106 : Func := ⟨.seq (cR [oA 3 .move [.c (.int .i64 (0))]] [0,1,2])
 (.seq (cD [⟨[oA 5 (.load false 1) [.t 0],
 oA 6 .nilCheck [.t 5],
 oA 7 (.fieldAddr 11) [.t 6],
 oA 8 (.load false 1) [.t 7],
 oA 9 (.fieldAddr 4) [.t 1],
 oA 10 (.load true 4) [.t 9]],some (oA 11 .call [.c (.func (.func 56) #[] #[]),.t 8,.t 10]),[],[]⟩,
 ⟨[oM 4 11,
 oA 12 (.extract 0) [.t 4],
 oA 13 (.extract 1) [.t 4]],some (oN (.store 1) [.t 2,.t 12]),[],[]⟩,
 ⟨[oM 3 13],none,[],[]⟩] [5,6,7,8,9,10,11,4,12,13,3] [3])
 (.seq (cR [oM 14 3,
 oM 3 14] [3])
 (.ret))),
 [.tmp 3], none⟩

def f107 : Func := ⟨.seq (cR [oA 2 .move [.c (.int .i64 (0))]] [0,1])
 (.seq (cD [⟨[oA 3 (.load false 1) [.t 0],
 oA 4 .nilCheck [.t 3],
 oA 5 (.fieldAddr 0) [.t 4],
 oA 6 (.load false 1) [.t 5],
 oA 7 (.load true 8) [.t 1]],some (oA 8 .call [.c (.func (.func 108) #[] #[]),.t 6,.t 7]),[],[]⟩,
 ⟨[oM 2 8],none,[],[]⟩] [3,4,5,6,7,8,2] [2])
 (.ret)),
 [.tmp 2], none⟩

def f108 : Func := ⟨.seq (cR [oA 3 (.box 77 8) [.t 1],
 oA 4 .move [.c (.int .i64 (0))]] [0,3])
 (.seq (cR [oA 8 (.load true 8) [.t 3],
 oA 9 .call [.c (.func (.func 174) #[] #[]),.t 8],
 oM 7 9,
 oA 10 (.extract 0) [.t 7],
 oA 11 (.extract 1) [.t 7],
 oM 5 10,
 oM 6 11] [0,3,5,6])
 (.seq (.seq (cR [oM 12 6,
 oA 13 (.bin .neq) [.t 12,.c (.int .i64 (0))]] [0,3,5,6,13])
 (.cond (.t 13) (.seq (cR [oM 14 6,
 oM 4 14] [4])
 (.ret))
 (.skip)))
 (.seq (cR [oM 15 0,
 oA 16 (.load true 8) [.t 3],
 oA 17 .call [.c (.func (.func 175) #[] #[]),.t 16],
 oM 18 5,
 oA 19 .call [.c (.func (.func 121) #[] #[]),.t 15,.t 17,.t 18],
 oM 4 19] [4])
 (.ret)))),
 [.tmp 4], none⟩

def l109_0 : Code :=
 .seq (cR [oA 14 (.bin .lss) [.t 13,.t 12]] [0,4,11,12,13,14])
 (.seq (.cond (.t 14) (.skip)
 (.exit 0))
 (.seq (.block 1 (.seq (cR [oA 15 (.idxAddr 5) [.t 11,.t 13],
 oA 16 (.load true 5) [.t 15],
 oA 6 (.new 70 5 [(.int .i64 (0)), (.int .i64 (0)), (.int .i64 (0)), (.bool false), (.slice none 0 0)]) [],
 oN (.store 5) [.t 6,.t 16]] [0,4,6,11,12,13])
 (cR [oM 17 4,
 oA 18 (.fieldAddr 0) [.t 6],
 oA 19 (.fieldAddr 0) [.t 18],
 oA 20 (.load false 1) [.t 19],
 oA 21 (.fieldAddr 4) [.t 6],
 oA 22 (.load false 1) [.t 21],
 oA 23 .lenS [.t 22],
 oA 24 .max [.t 23,.c (.int .i64 (1))],
 oN (.mapSet none) [.t 17,.t 20,.t 24]] [0,4,11,12,13])))
 (cR [oA 25 (.bin .add) [.t 13,.c (.int .i64 (1))],
 oM 13 25] [0,4,11,12,13])))
def l109_1 : Code :=
 .seq (.seq (cD [⟨[oM 40 0,
 oA 41 .nilCheck [.t 40],
 oA 42 (.fieldAddr 10) [.t 41],
 oA 43 (.load false 1) [.t 42],
 oA 44 (.fieldAddr 0) [.t 8],
 oA 45 (.load false 1) [.t 44],
 oM 47 9],some (oA 46 .call [.c (.func (.func 177) #[] #[]),.t 43,.t 45]),[],[]⟩,
 ⟨[oA 48 (.bin .lss) [.t 46,.t 47]],none,[],[]⟩] [40,41,42,43,44,45,46,47,48] [0,4,8,9,30,31,32,48])
 (.cond (.t 48) (.skip)
 (.exit 4)))
 (.block 5 (cD [⟨[oM 49 0,
 oA 50 .nilCheck [.t 49],
 oA 51 (.fieldAddr 10) [.t 50],
 oA 52 (.load false 1) [.t 51],
 oA 53 (.fieldAddr 0) [.t 8],
 oA 54 (.load false 1) [.t 53]],some (oA 55 .call [.c (.func (.func 143) #[] #[]),.t 52,.t 54]),[],[]⟩] [49,50,51,52,53,54,55] [0,4,8,9,30,31,32]))
def l109_2 : Code :=
 .seq (.seq (cD [⟨[oM 56 0,
 oA 57 .nilCheck [.t 56],
 oA 58 (.fieldAddr 10) [.t 57],
 oA 59 (.load false 1) [.t 58],
 oA 60 (.fieldAddr 0) [.t 8],
 oA 61 (.load false 1) [.t 60],
 oM 63 9],some (oA 62 .call [.c (.func (.func 177) #[] #[]),.t 59,.t 61]),[],[]⟩,
 ⟨[oA 64 (.bin .gtr) [.t 62,.t 63]],none,[],[]⟩] [56,57,58,59,60,61,62,63,64] [0,4,8,9,30,31,32,64])
 (.cond (.t 64) (.skip)
 (.exit 6)))
 (.block 7 (cD [⟨[oM 65 0,
 oA 66 .nilCheck [.t 65],
 oA 67 (.fieldAddr 10) [.t 66],
 oA 68 (.load false 1) [.t 67],
 oA 69 (.fieldAddr 0) [.t 8],
 oA 70 (.load false 1) [.t 69]],some (oA 71 .call [.c (.func (.func 178) #[] #[]),.t 68,.t 70]),[],[]⟩] [65,66,67,68,69,70,71] [0,4,8,9,30,31,32]))
def l109_3 : Code :=
 .seq (cR [oA 33 (.bin .lss) [.t 32,.t 31]] [0,4,30,31,32,33])
 (.seq (.cond (.t 33) (.skip)
 (.exit 2))
 (.seq (.block 3 (.seq (cR [oA 34 (.idxAddr 2) [.t 30,.t 32],
 oA 35 (.load true 2) [.t 34],
 oA 8 (.new 67 2 [(.int .i64 (0)), (.int .i64 (0))]) [],
 oN (.store 2) [.t 8,.t 35]] [0,4,8,30,31,32])
 (.seq (cR [oM 36 4,
 oA 37 (.fieldAddr 0) [.t 8],
 oA 38 (.load false 1) [.t 37],
 oA 39 (.lookup none (.int .i64 (0)) false) [.t 36,.t 38],
 oM 9 39] [0,4,8,9,30,31,32])
 (.seq (.block 4 (.loop [0,4,8,9,30,31,32] l109_1))
 (.block 6 (.loop [0,4,8,9,30,31,32] l109_2))))))
 (cR [oA 72 (.bin .add) [.t 32,.c (.int .i64 (1))],
 oM 32 72] [0,4,30,31,32])))
def f109 : Func := ⟨.seq (cR [oA 10 .newMap [],
 oM 4 10] [0,1,4])
 (.seq (.seq (cR [oM 11 1,
 oA 12 .lenS [.t 11],
 oA 13 .move [.c (.int .i64 (0))]] [0,4,11,12,13])
 (.block 0 (.loop [0,4,11,12,13] l109_0)))
 (.seq (cR [oM 26 0,
 oA 27 .nilCheck [.t 26],
 oA 28 (.fieldAddr 10) [.t 27],
 oA 29 (.load false 1) [.t 28],
 oA 30 .call [.c (.func (.func 176) #[] #[]),.t 29],
 oA 31 .lenS [.t 30],
 oA 32 .move [.c (.int .i64 (0))]] [0,4,30,31,32])
 (.block 2 (.loop [0,4,30,31,32] l109_3)))),
 [], none⟩

def l110_0 : Code :=
 .seq (cR [oA 10 (.bin .lss) [.t 9,.t 8]] [0,3,7,8,9,10])
 (.seq (.cond (.t 10) (.skip)
 (.exit 0))
 (.seq (.block 1 (.seq (cR [oA 11 (.idxAddr 2) [.t 7,.t 9],
 oA 12 (.load true 2) [.t 11],
 oA 5 (.new 67 2 [(.int .i64 (0)), (.int .i64 (0))]) [],
 oN (.store 2) [.t 5,.t 12]] [0,3,5,7,8,9])
 (.seq (cD [⟨[oM 13 0,
 oA 14 .nilCheck [.t 13],
 oA 15 (.fieldAddr 0) [.t 14],
 oA 16 (.load false 1) [.t 15],
 oA 17 (.fieldAddr 0) [.t 5],
 oA 18 (.load false 1) [.t 17],
 oA 19 (.fieldAddr 1) [.t 5],
 oA 20 (.load false 1) [.t 19]],some (oA 21 .call [.c (.func (.func 159) #[] #[]),.t 16,.t 18,.t 20]),[],[]⟩] [13,14,15,16,17,18,19,20,21] [0,3,5,7,8,9])
 (cR [oM 22 3,
 oA 23 (.fieldAddr 1) [.t 5],
 oA 24 (.load false 1) [.t 23],
 oA 25 (.bin .add) [.t 22,.t 24],
 oM 3 25] [0,3,7,8,9]))))
 (cR [oA 26 (.bin .add) [.t 9,.c (.int .i64 (1))],
 oM 9 26] [0,3,7,8,9])))
def f110 : Func := ⟨.seq (cR [oA 2 .move [.c (.int .i64 (0))]] [0])
 (.seq (cR [oA 3 .move [.c (.int .i64 (0))]] [0,3])
 (.seq (.seq (cR [oM 6 0,
 oA 7 .call [.c (.func (.func 179) #[] #[]),.t 6],
 oA 8 .lenS [.t 7],
 oA 9 .move [.c (.int .i64 (0))]] [0,3,7,8,9])
 (.block 0 (.loop [0,3,7,8,9] l110_0)))
 (.seq (.seq (cR [oM 27 0,
 oA 28 .call [.c (.func (.func 158) #[] #[]),.t 27]] [0,3,28])
 (.cond (.t 28) (cR [oM 29 0,
 oM 30 0,
 oM 31 0,
 oA 32 .newMap [],
 oM 33 0,
 oA 34 .nilCheck [.t 33],
 oA 35 (.fieldAddr 1) [.t 34],
 oA 36 (.load false 1) [.t 35],
 oA 37 .call [.c (.func (.func 160) #[] #[]),.t 36],
 oA 38 .nilCheck [.t 29],
 oA 39 (.fieldAddr 2) [.t 38],
 oN (.store 1) [.t 39,.t 32],
 oA 40 .nilCheck [.t 30],
 oA 41 (.fieldAddr 3) [.t 40],
 oN (.store 1) [.t 41,.t 37],
 oA 42 .nilCheck [.t 31],
 oA 43 (.fieldAddr 4) [.t 42],
 oN (.store 1) [.t 43,.c (.slice none 0 0)]] [3])
 (.skip)))
 (.seq (cR [oM 44 3,
 oM 2 44] [2])
 (.ret))))),
 [.tmp 2], none⟩

def f113 : Func := ⟨.seq (cR [oA 6 (.box 73 3) [.t 1],
 oA 10 (.new 205 5 [(.int .i64 (0)), (.slice none 0 0), (.slice none 0 0), (.slice none 0 0), (.slice none 0 0)]) [],
 oA 11 .move [.c (.int .i64 (0))]] [0,2,3,4,6,10])
 (.seq (cR [oM 16 0,
 oA 17 (.load true 3) [.t 6],
 oA 18 (.invoke "Load") [.t 16,.t 17],
 oM 15 18,
 oA 19 (.extract 0) [.t 15],
 oA 20 (.extract 1) [.t 15],
 oA 12 (.new 205 5 [(.int .i64 (0)), (.slice none 0 0), (.slice none 0 0), (.slice none 0 0), (.slice none 0 0)]) [],
 oN (.store 5) [.t 12,.t 19],
 oM 13 20] [2,3,4,10,12,13])
 (.seq (.seq (cR [oM 21 13,
 oA 22 (.bin .neq) [.t 21,.c (.int .i64 (0))]] [2,3,4,10,12,13,22])
 (.cond (.t 22) (.seq (cR [oA 23 (.build [(.int .i64 (0)), (.slice none 0 0), (.slice none 0 0), (.slice none 0 0), (.slice none 0 0)] []) [],
 oM 24 13,
 oN (.store 5) [.t 10,.t 23],
 oM 11 24] [10,11])
 (.ret))
 (.skip)))
 (.seq (.seq (cR [oA 25 (.load true 5) [.t 12],
 oA 26 .call [.c (.func (.func 183) #[] #[]),.t 25],
 oA 27 (.un .not) [.t 26],
 oM 28 27,
 oG (some 29) (.fieldAddr 0) [.t 12] 28 false,
 oG (some 30) (.load false 1) [.t 29] 28 false,
 oG (some 31) .move [.t 2] 28 false,
 oG (some 32) (.bin .neq) [.t 30,.t 31] 28 false,
 oA 33 .pick [.t 28,.c (.bool true),.t 32]] [3,4,10,12,33])
 (.cond (.t 33) (.seq (cR [oA 34 (.build [(.int .i64 (0)), (.slice none 0 0), (.slice none 0 0), (.slice none 0 0), (.slice none 0 0)] []) [],
 oN (.store 5) [.t 10,.t 34],
 oA 11 .move [.c (.int .i64 (4))]] [10,11])
 (.ret))
 (.skip)))
 (.seq (.seq (cR [oA 35 (.fieldAddr 1) [.t 12],
 oA 36 (.load false 1) [.t 35],
 oA 37 .lenS [.t 36],
 oA 38 (.bin .sub) [.t 37,.c (.int .i64 (1))],
 oM 14 38] [3,4,10,12,14])
 (.seq (cR [oM 39 14,
 oA 40 (.bin .geq) [.t 39,.c (.int .i64 (0))],
 oM 41 40,
 oG (some 42) (.fieldAddr 1) [.t 12] 41 true,
 oG (some 43) (.load false 1) [.t 42] 41 true,
 oG (some 44) (.idxAddr 1) [.t 43,.c (.int .i64 (0))] 41 true,
 oG (some 45) (.load false 1) [.t 44] 41 true,
 oG (some 46) .move [.t 3] 41 true,
 oG (some 47) (.bin .lss) [.t 45,.t 46] 41 true,
 oG (some 48) .move [.t 47] 41 true,
 oG (some 49) (.fieldAddr 1) [.t 12] 48 false,
 oG (some 50) (.load false 1) [.t 49] 48 false,
 oG (some 51) .move [.t 14] 48 false,
 oG (some 52) (.idxAddr 1) [.t 50,.t 51] 48 false,
 oG (some 53) (.load false 1) [.t 52] 48 false,
 oG (some 54) .move [.t 4] 48 false,
 oG (some 55) (.bin .geq) [.t 53,.t 54] 48 false,
 oG (some 56) .pick [.t 48,.c (.bool true),.t 55] 41 true,
 oA 57 .pick [.t 41,.t 56,.c (.bool false)]] [10,12,57])
 (.cond (.t 57) (.seq (cR [oA 58 (.build [(.int .i64 (0)), (.slice none 0 0), (.slice none 0 0), (.slice none 0 0), (.slice none 0 0)] []) [],
 oN (.store 5) [.t 10,.t 58],
 oA 11 .move [.c (.int .i64 (4))]] [10,11])
 (.ret))
 (.skip))))
 (.seq (cR [oA 59 (.load true 5) [.t 12],
 oN (.store 5) [.t 10,.t 59],
 oA 11 .move [.c (.int .i64 (0))]] [10,11])
 (.ret)))))),
 [.cell 10 true 5, .tmp 11], none⟩

def f114 : Func := ⟨.seq (cR [oA 3 (.box 205 5) [.t 0],
 oA 6 .move [.c (.int .i64 (0))]] [1,2,3])
 (.seq (.seq (cR [oM 7 1,
 oA 8 (.bin .add) [.t 7,.c (.int .i64 (1))],
 oA 9 (.fieldAddr 1) [.t 3],
 oA 10 (.load false 1) [.t 9],
 oA 11 .lenS [.t 10],
 oA 12 (.bin .lss) [.t 8,.t 11]] [1,2,3,12])
 (.cond (.t 12) (.seq (cR [oA 13 (.fieldAddr 1) [.t 3],
 oA 14 (.load false 1) [.t 13],
 oM 15 1,
 oA 16 (.bin .add) [.t 15,.c (.int .i64 (1))],
 oA 17 (.idxAddr 1) [.t 14,.t 16],
 oA 18 (.load false 1) [.t 17],
 oM 6 18] [6])
 (.ret))
 (.skip)))
 (.seq (cR [oM 19 2,
 oM 6 19] [6])
 (.ret))),
 [.tmp 6], none⟩

def l116_0 : Code :=
 .seq (cR [oA 25 (.bin .lss) [.t 24,.c (.int .i64 (7))]] [0,2,4,24,25])
 (.seq (.cond (.t 25) (.skip)
 (.exit 1))
 (.seq (.block 2 (.seq (cR [oM 26 24,
 oM 5 26] [0,2,4,5,24])
 (.seq (cR [oM 27 5,
 oA 28 (.bin .mul) [.t 27,.c (.int .i64 (4))],
 oA 29 (.bin .add) [.c (.int .i64 (2)),.t 28],
 oM 6 29] [0,2,4,5,6,24])
 (cR [oM 30 5,
 oM 31 0,
 oM 32 6,
 oM 33 6,
 oA 34 (.bin .add) [.t 33,.c (.int .i64 (4))],
 oA 35 (.slice 1 true true false) [.t 31,.t 32,.t 34],
 oA 36 .call [.c (.func (.func 184) #[] #[]),.t 35],
 oA 37 (.toInt .i64) [.t 36],
 oA 38 (.idxAddrA 7 1) [.t 4,.t 30],
 oN (.store 1) [.t 38,.t 37]] [0,2,4,24]))))
 (cR [oA 39 (.bin .add) [.t 24,.c (.int .i64 (1))],
 oM 24 39] [0,2,4,24])))
def f116 : Func := ⟨.seq (cR [oA 2 (.new 77 8 [(.int .i64 (0)), (.int .i64 (0)), (.int .i64 (0)), (.float .f64 0), (.int .i64 (0)), (.int .i64 (0)), (.int .i64 (0)), (.int .i64 (0))]) [],
 oA 3 .move [.c (.int .i64 (0))]] [0,2])
 (.seq (.block 0 (.seq (cR [oM 10 0,
 oA 11 .lenS [.t 10],
 oA 12 (.bin .neq) [.t 11,.c (.int .i64 (64))],
 oM 9 12] [0,2,9])
 (.cond (.t 9) (.seq (cR [oA 13 (.build [(.int .i64 (0)), (.int .i64 (0)), (.int .i64 (0)), (.float .f64 0), (.int .i64 (0)), (.int .i64 (0)), (.int .i64 (0)), (.int .i64 (0))] []) [],
 oN (.store 8) [.t 2,.t 13],
 oA 3 .move [.c (.int .i64 (1))]] [2,3])
 (.ret))
 (.seq (cD [⟨[oM 15 0,
 oA 16 (.slice 1 true false false) [.t 15,.c (.int .i64 (60))],
 oM 18 0,
 oA 19 (.slice 1 false true false) [.t 18,.c (.int .i64 (60))]],some (oA 17 .call [.c (.func (.func 184) #[] #[]),.t 16]),[],[]⟩,
 ⟨[],some (oA 20 .call [.c (.func (.func 185) #[] #[]),.t 19]),[],[]⟩,
 ⟨[oA 21 (.toInt .u64) [.t 20],
 oA 22 (.bin .neq) [.t 17,.t 21],
 oM 14 22],none,[],[]⟩] [15,16,17,18,19,20,21,22,14] [0,2,14])
 (.cond (.t 14) (.seq (cR [oA 23 (.build [(.int .i64 (0)), (.int .i64 (0)), (.int .i64 (0)), (.float .f64 0), (.int .i64 (0)), (.int .i64 (0)), (.int .i64 (0)), (.int .i64 (0))] []) [],
 oN (.store 8) [.t 2,.t 23],
 oA 3 .move [.c (.int .i64 (5))]] [2,3])
 (.ret))
 (.skip))))))
 (.seq (cR [oA 4 (.new 284 7 [(.int .i64 (0)), (.int .i64 (0)), (.int .i64 (0)), (.int .i64 (0)), (.int .i64 (0)), (.int .i64 (0)), (.int .i64 (0))]) []] [0,2,4])
 (.seq (.seq (cR [oA 24 .move [.c (.int .i64 (0))]] [0,2,4,24])
 (.block 1 (.loop [0,2,4,24] l116_0)))
 (.seq (cD [⟨[oA 40 (.idxAddrA 7 1) [.t 4,.c (.int .i64 (0))],
 oA 41 (.load false 1) [.t 40],
 oA 42 (.idxAddrA 7 1) [.t 4,.c (.int .i64 (1))],
 oA 43 (.load false 1) [.t 42],
 oA 44 (.idxAddrA 7 1) [.t 4,.c (.int .i64 (2))],
 oA 45 (.load false 1) [.t 44],
 oM 46 0,
 oA 47 (.slice 1 true true false) [.t 46,.c (.int .i64 (30)),.c (.int .i64 (38))]],some (oA 48 .call [.c (.func (.func 184) #[] #[]),.t 47]),[41,43,45],[oA 7 (.new 77 8 [(.int .i64 (0)), (.int .i64 (0)), (.int .i64 (0)), (.float .f64 0), (.int .i64 (0)), (.int .i64 (0)), (.int .i64 (0)), (.int .i64 (0))]) []]⟩,
 ⟨[],some (oA 49 .f64from [.t 48]),[41,43,45],[oA 7 (.new 77 8 [(.int .i64 (0)), (.int .i64 (0)), (.int .i64 (0)), (.float .f64 0), (.int .i64 (0)), (.int .i64 (0)), (.int .i64 (0)), (.int .i64 (0))]) []]⟩,
 ⟨[oA 50 (.build [(.int .i64 (0)), (.int .i64 (0)), (.int .i64 (0)), (.float .f64 0), (.int .i64 (0)), (.int .i64 (0)), (.int .i64 (0)), (.int .i64 (0))] [(0, 1), (1, 1), (2, 1), (3, 1)]) [.t 41,.t 43,.t 45,.t 49]],some (oA 7 (.new 77 8 [(.int .i64 (0)), (.int .i64 (0)), (.int .i64 (0)), (.float .f64 0), (.int .i64 (0)), (.int .i64 (0)), (.int .i64 (0)), (.int .i64 (0))]) []),[41,43,45],[]⟩,
 ⟨[],some (oN (.store 8) [.t 7,.t 50]),[],[]⟩] [40,41,42,43,44,45,46,47,48,49,50,7] [0,2,4,7])
 (.seq (cR [oA 51 (.idxAddrA 7 1) [.t 4,.c (.int .i64 (3))],
 oA 52 (.load false 1) [.t 51],
 oA 53 (.idxAddrA 7 1) [.t 4,.c (.int .i64 (4))],
 oA 54 (.load false 1) [.t 53],
 oA 55 (.idxAddrA 7 1) [.t 4,.c (.int .i64 (5))],
 oA 56 (.load false 1) [.t 55],
 oA 57 (.build [(.int .i64 (0)), (.int .i64 (0)), (.int .i64 (0))] [(0, 1), (1, 1), (2, 1)]) [.t 52,.t 54,.t 56],
 oA 58 (.idxAddrA 7 1) [.t 4,.c (.int .i64 (6))],
 oA 59 (.load false 1) [.t 58],
 oA 60 (.build [(.int .i64 (0)), (.int .i64 (0)), (.int .i64 (0)), (.int .i64 (0))] [(0, 3), (3, 1)]) [.t 57,.t 59],
 oA 61 (.fieldAddr 4) [.t 7],
 oN (.store 4) [.t 61,.t 60]] [0,2,7])
 (.seq (cR [oM 62 0,
 oA 63 (.slice 1 true true false) [.t 62,.c (.int .i64 (38)),.c (.int .i64 (60))],
 oM 8 63] [0,2,7,8])
 (.seq (.seq (cR [oM 64 0,
 oA 65 (.idxAddr 1) [.t 64,.c (.int .i64 (0))],
 oA 66 (.load false 1) [.t 65],
 oA 67 (.bin .neq) [.t 66,.c (.int .u8 (192))],
 oM 68 67,
 oG (some 69) .move [.t 0] 68 false,
 oG (some 70) (.idxAddr 1) [.t 69,.c (.int .i64 (1))] 68 false,
 oG (some 71) (.load false 1) [.t 70] 68 false,
 oG (some 72) (.bin .neq) [.t 71,.c (.int .u8 (158))] 68 false,
 oA 73 .pick [.t 68,.c (.bool true),.t 72],
 oM 74 73,
 oG (some 75) (.load true 8) [.t 7] 74 false,
 oG (some 76) .call [.c (.func (.func 187) #[] #[]),.t 75] 74 false,
 oG (some 77) (.un .not) [.t 76] 74 false,
 oA 78 .pick [.t 74,.c (.bool true),.t 77],
 oM 79 78,
 oG (some 80) .move [.t 8] 79 false,
 oG (some 81) .move [.t 8] 79 false,
 oG (some 82) .lenS [.t 81] 79 false,
 oG (some 83) (.newSlice 5 1 1 [(.int .u8 (0))]) [.t 82,.t 82] 79 false,
 oG (some 84) .call [.c (.func (.func 188) #[] #[]),.t 80,.t 83] 79 false,
 oG (some 85) (.un .not) [.t 84] 79 false,
 oA 86 .pick [.t 79,.c (.bool true),.t 85]] [2,7,86])
 (.cond (.t 86) (.seq (cR [oA 87 (.build [(.int .i64 (0)), (.int .i64 (0)), (.int .i64 (0)), (.float .f64 0), (.int .i64 (0)), (.int .i64 (0)), (.int .i64 (0)), (.int .i64 (0))] []) [],
 oN (.store 8) [.t 2,.t 87],
 oA 3 .move [.c (.int .i64 (4))]] [2,3])
 (.ret))
 (.skip)))
 (.seq (cR [oA 88 (.load true 8) [.t 7],
 oN (.store 8) [.t 2,.t 88],
 oA 3 .move [.c (.int .i64 (0))]] [2,3])
 (.ret))))))))),
 [.cell 2 true 8, .tmp 3], none⟩

def f117 : Func := ⟨.seq (cR [oA 2 .move [.c (.bool false)]] [0])
 (.seq (cR [oM 3 0,
 oA 4 (.newSlice 5 1 1 [(.int .u8 (0))]) [.c (.int .i64 (64)),.c (.int .i64 (64))],
 oA 5 .call [.c (.func (.func 188) #[] #[]),.t 3,.t 4],
 oM 2 5] [2])
 (.ret)),
 [.tmp 2], none⟩

def l118_0 : Code :=
 .seq (cR [oA 20 (.bin .lss) [.t 19,.t 18]] [0,1,2,17,18,19,20])
 (.seq (.cond (.t 20) (.skip)
 (.exit 0))
 (.seq (.block 1 (.seq (cR [oM 21 19,
 oA 22 (.idxAddr 2) [.t 17,.t 19],
 oA 23 (.load true 2) [.t 22],
 oA 8 (.new 67 2 [(.int .i64 (0)), (.int .i64 (0))]) [],
 oM 7 21,
 oN (.store 2) [.t 8,.t 23]] [0,1,2,7,8,17,18,19])
 (.seq (cR [oA 24 (.fieldAddr 0) [.t 8],
 oA 25 (.load false 1) [.t 24],
 oM 26 1,
 oA 27 (.bin .leq) [.t 25,.t 26],
 oM 28 27,
 oG (some 29) .move [.t 1] 28 true,
 oG (some 30) .move [.t 2] 28 true,
 oG (some 31) (.bin .add) [.t 29,.t 30] 28 true,
 oG (some 32) (.fieldAddr 0) [.t 8] 28 true,
 oG (some 33) (.load false 1) [.t 32] 28 true,
 oG (some 34) (.fieldAddr 1) [.t 8] 28 true,
 oG (some 35) (.load false 1) [.t 34] 28 true,
 oG (some 36) (.bin .add) [.t 33,.t 35] 28 true,
 oG (some 37) (.bin .leq) [.t 31,.t 36] 28 true,
 oA 38 .pick [.t 28,.t 37,.c (.bool false)]] [0,1,2,7,8,17,18,19,38])
 (.cond (.t 38) (.seq (cR [oM 39 0,
 oM 40 7,
 oA 41 (.fieldAddr 0) [.t 8],
 oA 42 (.load false 1) [.t 41],
 oM 43 1,
 oA 44 (.fieldAddr 0) [.t 8],
 oA 45 (.load false 1) [.t 44],
 oA 46 (.bin .sub) [.t 43,.t 45],
 oA 47 (.build [(.int .i64 (0)), (.int .i64 (0))] [(0, 1), (1, 1)]) [.t 42,.t 46],
 oM 48 1,
 oM 49 2,
 oA 50 (.bin .add) [.t 48,.t 49],
 oA 51 (.fieldAddr 0) [.t 8],
 oA 52 (.load false 1) [.t 51],
 oA 53 (.fieldAddr 1) [.t 8],
 oA 54 (.load false 1) [.t 53],
 oA 55 (.bin .add) [.t 52,.t 54],
 oM 56 1,
 oA 57 (.bin .sub) [.t 55,.t 56],
 oM 58 2,
 oA 59 (.bin .sub) [.t 57,.t 58],
 oA 60 (.build [(.int .i64 (0)), (.int .i64 (0))] [(0, 1), (1, 1)]) [.t 50,.t 59],
 oA 61 (.buildSlice 67 2 2 [(.int .i64 (0)), (.int .i64 (0)), (.int .i64 (0)), (.int .i64 (0))] [(0, 2), (2, 2)]) [.t 47,.t 60],
 oA 62 .call [.c (.func (.func 190) #[] #[]),.t 39,.t 40,.t 61]] [])
 (.seq (cR [oA 6 .move [.c (.bool true)]] [6])
 (.ret)))
 (.skip)))))
 (cR [oA 63 (.bin .add) [.t 19,.c (.int .i64 (1))],
 oM 19 63] [0,1,2,17,18,19])))
def f118 : Func := ⟨.seq (cR [oA 6 .move [.c (.bool false)]] [0,1,2])
 (.seq (.seq (cR [oM 9 0,
 oM 10 1,
 oM 11 2,
 oA 12 .call [.c (.func (.func 189) #[] #[]),.t 9,.t 10,.t 11],
 oA 13 (.un .not) [.t 12]] [0,1,2,13])
 (.cond (.t 13) (.seq (cR [oA 6 .move [.c (.bool false)]] [6])
 (.ret))
 (.skip)))
 (.seq (.seq (cR [oM 14 0,
 oA 15 .nilCheck [.t 14],
 oA 16 (.fieldAddr 1) [.t 15],
 oA 17 (.load false 1) [.t 16],
 oA 18 .lenS [.t 17],
 oA 19 .move [.c (.int .i64 (0))]] [0,1,2,17,18,19])
 (.block 0 (.loop [0,1,2,17,18,19] l118_0)))
 (.seq (cR [oA 6 .move [.c (.bool false)]] [6])
 (.ret)))),
 [.tmp 6], none⟩

def f119 : Func := ⟨.seq (cR [oA 2 .move [.c (.float .f64 0)]] [0])
 (.seq (.block 0 (.seq (cR [oM 4 0,
 oA 5 .call [.c (.func (.func 191) #[] #[]),.t 4],
 oM 6 5,
 oG (some 7) .move [.t 0] 6 false,
 oG (some 8) (.bin .gtr) [.t 7,.c (.float .f64 4607182418800017408)] 6 false,
 oA 9 .pick [.t 6,.c (.bool true),.t 8],
 oM 3 9] [0,3])
 (.cond (.t 3) (.seq (cR [oA 2 .move [.c (.float .f64 4607182418800017408)]] [2])
 (.ret))
 (.seq (cR [oM 11 0,
 oA 12 (.bin .leq) [.t 11,.c (.float .f64 0)],
 oM 10 12] [0,10])
 (.cond (.t 10) (.seq (cR [oA 2 .move [.c (.float .f64 0)]] [2])
 (.ret))
 (.skip))))))
 (.seq (cR [oM 13 0,
 oM 2 13] [2])
 (.ret))),
 [.tmp 2], none⟩

def f120 : Func := ⟨.seq (cR [oA 2 .move [.c (.int .i64 (0))]] [0,1])
 (.seq (cR [oA 3 (.load false 1) [.t 0],
 oA 4 (.load false 1) [.t 1],
 oA 5 .call [.c (.func (.func 121) #[] #[]),.t 3,.c (.int .i64 (0)),.t 4],
 oM 2 5] [2])
 (.ret)),
 [.tmp 2], none⟩

def f121 : Func := ⟨.seq (cR [oA 3 (.box 34 1) [.t 0],
 oA 4 (.box 3 1) [.t 1],
 oA 5 (.box 40 1) [.t 2],
 oA 6 .move [.c (.int .i64 (0))]] [3,4,5])
 (.seq (cR [oA 7 (.load false 1) [.t 3],
 oA 8 (.func 192 0) [.t 3,.t 4,.t 5],
 oA 9 .call [.c (.func (.func 136) #[] #[]),.t 7,.c (.int .i64 (2)),.t 8],
 oM 6 9] [6])
 (.ret)),
 [.tmp 6], none⟩

def f122 : Func := ⟨.seq (cR [oA 2 .move [.c (.int .i64 (0))]] [0,1])
 (.seq (cR [oA 3 (.load false 1) [.t 0],
 oA 4 (.load false 1) [.t 1],
 oA 5 .call [.c (.func (.func 121) #[] #[]),.t 3,.c (.int .i64 (1)),.t 4],
 oM 2 5] [2])
 (.ret)),
 [.tmp 2], none⟩

def f123 : Func := ⟨.seq (cR [oA 2 .move [.c (.int .i64 (0))]] [0,1])
 (.seq (cR [oA 4 (.load false 1) [.t 0],
 oA 5 (.iface 118) [.t 4],
 oA 6 .call [.c (.func (.func 124) #[] #[]),.t 5],
 oM 3 6,
 oA 7 (.extract 0) [.t 3],
 oA 8 (.extract 1) [.t 3],
 oA 9 (.fieldAddr 4) [.t 1],
 oN (.store 4) [.t 9,.t 7],
 oM 2 8] [2])
 (.seq (cR [oM 10 2,
 oM 2 10] [2])
 (.ret))),
 [.tmp 2], none⟩

def f124 : Func := ⟨.seq (cR [oA 2 (.new 75 4 [(.int .i64 (0)), (.int .i64 (0)), (.int .i64 (0)), (.int .i64 (0))]) [],
 oA 3 .move [.c (.int .i64 (0))]] [0,2])
 (.seq (.seq (cR [oM 6 0,
 oA 7 (.isNil .iface false) [.t 6]] [0,2,7])
 (.cond (.t 7) (.seq (cR [oA 8 (.build [(.int .i64 (0)), (.int .i64 (0)), (.int .i64 (0)), (.int .i64 (0))] []) [],
 oN (.store 4) [.t 2,.t 8],
 oA 3 .move [.c (.int .i64 (1))]] [2,3])
 (.ret))
 (.skip)))
 (.seq (cR [oM 10 0,
 oA 11 (.build [(.int .i64 (0)), (.slice none 0 0), (.slice none 0 0), (.slice none 0 0), (.slice none 0 0)] []) [],
 oA 12 (.invoke "Save") [.t 10,.t 11],
 oM 9 12,
 oA 13 (.extract 0) [.t 9],
 oA 14 (.extract 1) [.t 9],
 oA 4 (.new 73 3 [(.int .i64 (0)), (.int .i64 (0)), (.int .i64 (0))]) [],
 oN (.store 3) [.t 4,.t 13],
 oM 5 14] [2,4,5])
 (.seq (.seq (cR [oM 15 5,
 oA 16 (.bin .neq) [.t 15,.c (.int .i64 (0))]] [2,4,5,16])
 (.cond (.t 16) (.seq (cR [oA 17 (.build [(.int .i64 (0)), (.int .i64 (0)), (.int .i64 (0)), (.int .i64 (0))] []) [],
 oM 18 5,
 oN (.store 4) [.t 2,.t 17],
 oM 3 18] [2,3])
 (.ret))
 (.skip)))
 (.seq (cR [oA 19 (.load true 3) [.t 4],
 oA 20 (.build [(.int .i64 (0)), (.int .i64 (0)), (.int .i64 (0)), (.int .i64 (0))] [(0, 3)]) [.t 19],
 oN (.store 4) [.t 2,.t 20],
 oA 3 .move [.c (.int .i64 (0))]] [2,3])
 (.ret))))),
 [.cell 2 true 4, .tmp 3], none⟩

def f125 : Func := ⟨.seq (cR [oA 2 .move [.c (.int .i64 (0))]] [0,1])
 (.seq (cR [oA 3 (.load false 1) [.t 0],
 oA 4 (.load true 8) [.t 1],
 oA 5 .call [.c (.func (.func 108) #[] #[]),.t 3,.t 4],
 oM 2 5] [2])
 (.ret)),
 [.tmp 2], none⟩

def f126 : Func := ⟨.seq (cR [oA 2 .move [.c (.bool false)]] [0])
 (.seq (cR [oM 3 0,
 oA 4 (.bin .geq) [.t 3,.c (.int .i64 (0))],
 oM 5 4,
 oG (some 6) .move [.t 0] 5 true,
 oG (some 7) (.bin .lss) [.t 6,.c (.int .i64 (512))] 5 true,
 oA 8 .pick [.t 5,.t 7,.c (.bool false)],
 oM 2 8] [2])
 (.ret)),
 [.tmp 2], none⟩

def l127_0 : Code :=
 .seq (cR [oA 13 (.bin .lss) [.t 12,.t 11]] [1,2,6,10,11,12,13])
 (.seq (.cond (.t 13) (.skip)
 (.exit 0))
 (.seq (.block 1 (.seq (cR [oM 14 12,
 oA 15 (.idxAddr 1) [.t 10,.t 12],
 oA 16 (.load false 1) [.t 15],
 oM 7 14,
 oM 8 16] [1,2,6,7,8,10,11,12])
 (.seq (cR [oM 17 8,
 oM 18 1,
 oA 19 (.bin .leq) [.t 17,.t 18]] [1,2,6,7,10,11,12,19])
 (.cond (.t 19) (cR [oM 20 7,
 oM 6 20] [1,2,6,10,11,12])
 (.skip)))))
 (cR [oA 21 (.bin .add) [.t 12,.c (.int .i64 (1))],
 oM 12 21] [1,2,6,10,11,12])))
def f127 : Func := ⟨.seq (cR [oA 2 (.box 205 5) [.t 0],
 oA 4 .move [.c (.int .i64 (0))],
 oA 5 .move [.c (.bool false)]] [1,2])
 (.seq (cR [oA 6 .move [.c (.int .i64 (0))]] [1,2,6])
 (.seq (.seq (cR [oA 9 (.fieldAddr 1) [.t 2],
 oA 10 (.load false 1) [.t 9],
 oA 11 .lenS [.t 10],
 oA 12 .move [.c (.int .i64 (0))]] [1,2,6,10,11,12])
 (.block 0 (.loop [1,2,6,10,11,12] l127_0)))
 (.seq (cD [⟨[oM 22 6,
 oA 23 (.fieldAddr 1) [.t 2],
 oA 24 (.load false 1) [.t 23],
 oA 25 .lenS [.t 24],
 oA 26 (.bin .gtr) [.t 25,.c (.int .i64 (0))],
 oM 27 26,
 oG (some 28) (.fieldAddr 1) [.t 2] 27 true,
 oG (some 29) (.load false 1) [.t 28] 27 true,
 oG (some 30) .move [.t 6] 27 true,
 oG (some 31) (.idxAddr 1) [.t 29,.t 30] 27 true,
 oG (some 32) (.load false 1) [.t 31] 27 true,
 oG (some 33) .move [.t 1] 27 true,
 oG (some 34) (.bin .eql) [.t 32,.t 33] 27 true,
 oA 35 .pick [.t 27,.t 34,.c (.bool false)],
 oM 4 22,
 oM 5 35],none,[],[]⟩] [22,23,24,25,26,27,28,29,30,31,32,33,34,35,4,5] [4,5])
 (.ret)))),
 [.tmp 4, .tmp 5], none⟩

def f128 : Func := ⟨.seq (cR [oA 2 (.box 205 5) [.t 0],
 oA 4 (.new 112 5 [(.int .i64 (0)), (.int .i64 (0)), (.int .i64 (0)), (.int .i64 (0)), (.int .i64 (0))]) []] [1,2,4])
 (.seq (cD [⟨[oA 5 (.fieldAddr 1) [.t 2],
 oA 6 (.load false 1) [.t 5],
 oM 7 1,
 oA 8 (.idxAddr 1) [.t 6,.t 7],
 oA 9 (.load false 1) [.t 8],
 oA 10 (.fieldAddr 2) [.t 2],
 oA 11 (.load false 1) [.t 10],
 oM 12 1,
 oA 13 (.idxAddr 3) [.t 11,.t 12],
 oA 14 (.load true 3) [.t 13],
 oA 15 (.fieldAddr 3) [.t 2],
 oA 16 (.load false 1) [.t 15],
 oM 17 1,
 oA 18 (.idxAddr 1) [.t 16,.t 17],
 oA 19 (.load false 1) [.t 18],
 oA 20 (.build [(.int .i64 (0)), (.int .i64 (0)), (.int .i64 (0)), (.int .i64 (0)), (.int .i64 (0))] [(0, 1), (1, 3), (4, 1)]) [.t 9,.t 14,.t 19]],some (oN (.store 5) [.t 4,.t 20]),[],[]⟩] [5,6,7,8,9,10,11,12,13,14,15,16,17,18,19,20] [4])
 (.ret)),
 [.cell 4 true 5], none⟩

def f129 : Func := ⟨.seq (cR [oA 2 .move [.c (.bool false)]] [0])
 (.seq (cR [oM 3 0,
 oA 4 (.isNil .ptr true) [.t 3],
 oM 5 4,
 oG (some 6) .move [.t 0] 5 true,
 oG (some 7) .nilCheck [.t 6] 5 true,
 oG (some 8) (.fieldAddr 0) [.t 7] 5 true,
 oG (some 9) (.load false 1) [.t 8] 5 true,
 oG (some 10) (.isNil .ptr true) [.t 9] 5 true,
 oA 11 .pick [.t 5,.t 10,.c (.bool false)],
 oM 2 11] [2])
 (.ret)),
 [.tmp 2], none⟩

def f130 : Func := ⟨.seq (cR [oA 4 .move [.c (.int .i64 (0))],
 oA 5 .move [.c (.slice none 0 0)],
 oA 6 .move [.c (.int .i64 (0))]] [0,1])
 (.seq (cR [oM 13 0,
 oA 14 .call [.c (.func (.func 193) #[] #[]),.t 13],
 oM 12 14,
 oA 15 (.extract 0) [.t 12],
 oA 16 (.extract 1) [.t 12],
 oM 7 15,
 oM 8 16] [0,1,7,8])
 (.seq (.seq (cR [oM 17 8,
 oA 18 (.bin .neq) [.t 17,.c (.int .i64 (0))]] [0,1,7,8,18])
 (.cond (.t 18) (.seq (cR [oM 19 8,
 oA 4 .move [.c (.int .i64 (0))],
 oA 5 .move [.c (.slice none 0 0)],
 oM 6 19] [4,5,6])
 (.ret))
 (.skip)))
 (.seq (cR [oM 20 7,
 oA 21 .call [.c (.func (.func 194) #[] #[]),.t 20],
 oA 22 (.bin .mul) [.c (.int .i64 (64)),.t 21],
 oM 9 22] [0,1,7,9])
 (.seq (.block 0 (.seq (cR [oM 24 0,
 oA 25 .lenS [.t 24],
 oM 26 9,
 oA 27 (.bin .gtr) [.t 25,.t 26],
 oM 23 27] [0,1,7,9,23])
 (.cond (.t 23) (.seq (cR [oA 4 .move [.c (.int .i64 (0))],
 oA 5 .move [.c (.slice none 0 0)],
 oA 6 .move [.c (.int .i64 (3))]] [4,5,6])
 (.ret))
 (.seq (cR [oM 29 0,
 oA 30 .lenS [.t 29],
 oM 31 9,
 oA 32 (.bin .lss) [.t 30,.t 31],
 oM 28 32] [0,1,7,28])
 (.cond (.t 28) (.seq (cR [oA 4 .move [.c (.int .i64 (0))],
 oA 5 .move [.c (.slice none 0 0)],
 oA 6 .move [.c (.int .i64 (2))]] [4,5,6])
 (.ret))
 (.skip))))))
 (.seq (cD [⟨[oM 33 0,
 oM 34 7,
 oA 35 (.bin .add) [.c (.int .i64 (16)),.t 34],
 oA 36 (.slice 1 true true false) [.t 33,.c (.int .i64 (16)),.t 35],
 oM 37 0,
 oM 38 7,
 oA 39 (.bin .add) [.c (.int .i64 (16)),.t 38],
 oA 40 (.slice 1 true false false) [.t 37,.t 39],
 oM 10 36,
 oM 11 40],none,[],[]⟩] [33,34,35,36,37,38,39,40,10,11] [0,1,10,11])
 (.seq (.block 1 (.seq (cR [oM 42 0,
 oA 43 (.slice 1 true false false) [.t 42,.c (.int .i64 (12))],
 oA 44 .call [.c (.func (.func 195) #[] #[]),.t 43],
 oM 45 0,
 oM 46 10,
 oA 47 .call [.c (.func (.func 196) #[] #[]),.t 45,.t 46],
 oA 48 (.bin .neq) [.t 44,.t 47],
 oM 49 48,
 oG (some 50) .move [.t 11] 49 false,
 oG (some 51) .move [.t 11] 49 false,
 oG (some 52) .lenS [.t 51] 49 false,
 oG (some 53) (.newSlice 5 1 1 [(.int .u8 (0))]) [.t 52,.t 52] 49 false,
 oG (some 54) .call [.c (.func (.func 188) #[] #[]),.t 50,.t 53] 49 false,
 oG (some 55) (.un .not) [.t 54] 49 false,
 oA 56 .pick [.t 49,.c (.bool true),.t 55],
 oM 41 56] [0,1,10,41])
 (.cond (.t 41) (.seq (cR [oA 4 .move [.c (.int .i64 (0))],
 oA 5 .move [.c (.slice none 0 0)],
 oA 6 .move [.c (.int .i64 (5))]] [4,5,6])
 (.ret))
 (.seq (cR [oM 58 0,
 oA 59 (.idxAddr 1) [.t 58,.c (.int .i64 (2))],
 oA 60 (.load false 1) [.t 59],
 oM 61 1,
 oA 62 (.bin .neq) [.t 60,.t 61],
 oM 57 62] [0,10,57])
 (.cond (.t 57) (.seq (cR [oA 4 .move [.c (.int .i64 (0))],
 oA 5 .move [.c (.slice none 0 0)],
 oA 6 .move [.c (.int .i64 (4))]] [4,5,6])
 (.ret))
 (.skip))))))
 (.seq (cR [oM 63 0,
 oA 64 (.slice 1 true false false) [.t 63,.c (.int .i64 (4))],
 oA 65 .call [.c (.func (.func 195) #[] #[]),.t 64],
 oA 66 (.toInt .i64) [.t 65],
 oM 67 10,
 oA 68 .call [.c (.func (.func 74) #[] #[]),.t 67],
 oM 4 66,
 oM 5 68,
 oA 6 .move [.c (.int .i64 (0))]] [4,5,6])
 (.ret)))))))),
 [.tmp 4, .tmp 5, .tmp 6], none⟩

def f131 : Func := ⟨.seq (cR [oA 4 (.new 41 1 [(.int .i64 (0))]) []] [0,1,4])
 (.seq (.seq (cR [oM 6 1,
 oA 7 (.isNil .func false) [.t 6]] [0,1,4,7])
 (.cond (.t 7) (.seq (cR [oN (.store 1) [.t 4,.c (.int .i64 (1))]] [4])
 (.ret))
 (.skip)))
 (.seq (cR [oA 8 (.func 197 0) [.t 4],
 oN .defer [.t 8]] [0,1,4])
 (.seq (cR [oM 9 0,
 oA 10 .call [.c (.func (.func 74) #[] #[]),.t 9],
 oA 11 (.build [(.slice none 0 0)] [(0, 1)]) [.t 10],
 oA 12 (.box 298 1) [.t 11],
 oM 5 12] [1,4,5])
 (.seq (cR [oM 13 1,
 oM 14 5,
 oA 15 .call [.t 13,.t 14]] [4,5])
 (.seq (cR [oM 16 5,
 oA 17 .nilCheck [.t 16],
 oA 18 (.fieldAddr 0) [.t 17],
 oA 19 (.load false 1) [.t 18],
 oA 20 .lenS [.t 19],
 oA 21 (.bin .eql) [.t 20,.c (.int .i64 (0))],
 oA 22 .call [.c (.func (.func 198) #[] #[]),.t 21,.c (.int .i64 (3))]] [4])
 (.seq (cR [oN (.store 1) [.t 4,.c (.int .i64 (0))]] [4])
 (.ret))))))),
 [.cell 4 false 1], none⟩

def f132 : Func := ⟨.seq (cR [oM 5 0,
 oA 6 .call [.c (.func (.func 133) #[] #[]),.t 5],
 oN (.store 1) [.t 1,.t 6]] [0,2,3])
 (.seq (cR [oM 7 0,
 oA 8 .call [.c (.func (.func 133) #[] #[]),.t 7],
 oN (.store 1) [.t 2,.t 8]] [0,3])
 (cR [oM 9 0,
 oA 10 .call [.c (.func (.func 134) #[] #[]),.t 9,.c (.int .i64 (4096))],
 oN (.store 1) [.t 3,.t 10]] [])),
 [], none⟩

def l133_0 : Code :=
 .seq (cR [oA 9 (.bin .lss) [.t 8,.c (.int .i64 (4))]] [0,2,3,8,9])
 (.seq (.cond (.t 9) (.skip)
 (.exit 0))
 (.seq (.block 1 (.seq (cR [oM 10 8,
 oM 4 10] [0,2,3,4,8])
 (.seq (cR [oM 11 4,
 oM 12 0,
 oA 13 .nilCheck [.t 12],
 oA 14 (.fieldAddr 0) [.t 13],
 oA 15 (.load false 1) [.t 14],
 oA 16 .lenS [.t 15],
 oA 17 (.bin .lss) [.t 11,.t 16],
 oA 18 .call [.c (.func (.func 198) #[] #[]),.t 17,.c (.int .i64 (2))]] [0,2,3,4,8])
 (.seq (cR [oM 19 0,
 oA 20 .nilCheck [.t 19],
 oA 21 (.fieldAddr 0) [.t 20],
 oA 22 (.load false 1) [.t 21],
 oM 23 4,
 oA 24 (.idxAddr 1) [.t 22,.t 23],
 oA 25 (.load false 1) [.t 24],
 oM 5 25] [0,2,3,4,5,8])
 (.seq (cR [oM 26 3,
 oM 27 5,
 oA 28 (.bin .and) [.t 27,.c (.int .u8 (127))],
 oA 29 (.toInt .i64) [.t 28],
 oM 30 4,
 oA 31 (.bin .mul) [.c (.int .i64 (7)),.t 30],
 oA 32 (.bin .shl) [.t 29,.t 31],
 oA 33 (.bin .or) [.t 26,.t 32],
 oM 3 33] [0,2,3,4,5,8])
 (.seq (cR [oM 34 5,
 oA 35 (.bin .lss) [.t 34,.c (.int .u8 (128))]] [0,2,3,4,5,8,35])
 (.cond (.t 35) (.seq (cR [oM 36 5,
 oA 37 (.bin .gtr) [.t 36,.c (.int .u8 (0))],
 oM 38 37,
 oG (some 39) .move [.t 4] 38 false,
 oG (some 40) (.bin .eql) [.t 39,.c (.int .i64 (0))] 38 false,
 oA 41 .pick [.t 38,.c (.bool true),.t 40],
 oA 42 .call [.c (.func (.func 198) #[] #[]),.t 41,.c (.int .i64 (4))]] [0,3,4])
 (.seq (cR [oM 43 0,
 oM 44 0,
 oA 45 .nilCheck [.t 44],
 oA 46 (.fieldAddr 0) [.t 45],
 oA 47 (.load false 1) [.t 46],
 oM 48 4,
 oA 49 (.bin .add) [.t 48,.c (.int .i64 (1))],
 oA 50 (.slice 1 true false false) [.t 47,.t 49],
 oA 51 .nilCheck [.t 43],
 oA 52 (.fieldAddr 0) [.t 51],
 oN (.store 1) [.t 52,.t 50]] [3])
 (.seq (cR [oM 53 3,
 oM 2 53] [2])
 (.ret))))
 (.skip))))))))
 (cR [oA 54 (.bin .add) [.t 8,.c (.int .i64 (1))],
 oM 8 54] [0,2,3,8])))
def f133 : Func := ⟨.seq (cR [oA 2 .move [.c (.int .i64 (0))]] [0,2])
 (.seq (.seq (cR [oM 6 0,
 oA 7 (.isNil .ptr false) [.t 6]] [0,2,7])
 (.cond (.t 7) (.seq (cR [oA 2 .move [.c (.int .i64 (0))]] [2])
 (.ret))
 (.skip)))
 (.seq (cR [oA 3 .move [.c (.int .i64 (0))]] [0,2,3])
 (.seq (.seq (cR [oA 8 .move [.c (.int .i64 (0))]] [0,2,3,8])
 (.block 0 (.loop [0,2,3,8] l133_0)))
 (cR [oA 55 (.build [(.int .i64 (0))] [(0, 1)]) [.c (.int .i64 (4))],
 oA 56 (.iface 296) [.t 55],
 oN .panic [.t 56]] [2])))),
 [.tmp 2], none⟩

def f134 : Func := ⟨.seq (cR [oA 4 .move [.c (.slice none 0 0)]] [0,1])
 (.seq (.seq (cR [oM 7 0,
 oA 8 (.isNil .ptr false) [.t 7]] [0,1,8])
 (.cond (.t 8) (.seq (cR [oA 4 .move [.c (.slice none 0 0)]] [4])
 (.ret))
 (.skip)))
 (.seq (cR [oM 9 0,
 oA 10 .call [.c (.func (.func 133) #[] #[]),.t 9],
 oM 5 10] [0,1,5])
 (.seq (cR [oM 11 5,
 oM 12 1,
 oA 13 (.bin .leq) [.t 11,.t 12],
 oA 14 .call [.c (.func (.func 198) #[] #[]),.t 13,.c (.int .i64 (3))]] [0,5])
 (.seq (cR [oM 15 5,
 oM 16 0,
 oA 17 .nilCheck [.t 16],
 oA 18 (.fieldAddr 0) [.t 17],
 oA 19 (.load false 1) [.t 18],
 oA 20 .lenS [.t 19],
 oA 21 (.bin .leq) [.t 15,.t 20],
 oA 22 .call [.c (.func (.func 198) #[] #[]),.t 21,.c (.int .i64 (2))]] [0,5])
 (.seq (cR [oM 23 0,
 oA 24 .nilCheck [.t 23],
 oA 25 (.fieldAddr 0) [.t 24],
 oA 26 (.load false 1) [.t 25],
 oM 27 5,
 oA 28 (.slice 1 false true false) [.t 26,.t 27],
 oA 29 .call [.c (.func (.func 74) #[] #[]),.t 28],
 oM 6 29] [0,5,6])
 (.seq (cR [oM 30 0,
 oM 31 0,
 oA 32 .nilCheck [.t 31],
 oA 33 (.fieldAddr 0) [.t 32],
 oA 34 (.load false 1) [.t 33],
 oM 35 5,
 oA 36 (.slice 1 true false false) [.t 34,.t 35],
 oA 37 .nilCheck [.t 30],
 oA 38 (.fieldAddr 0) [.t 37],
 oN (.store 1) [.t 38,.t 36]] [6])
 (.seq (cR [oM 39 6,
 oM 4 39] [4])
 (.ret)))))))),
 [.tmp 4], none⟩

def f135 : Func := ⟨.seq (cR [oA 6 .move [.c (.slice none 0 0)],
 oA 7 .move [.c (.int .i64 (0))]] [0,1,2])
 (.seq (.seq (cR [oM 8 2,
 oA 9 (.bin .lss) [.t 8,.c (.int .i64 (0))],
 oM 10 9,
 oG (some 11) .move [.t 2] 10 false,
 oG (some 12) (.bin .gtr) [.t 11,.c (.int .i64 (4096))] 10 false,
 oA 13 .pick [.t 10,.c (.bool true),.t 12]] [0,1,2,13])
 (.cond (.t 13) (.seq (cR [oA 6 .move [.c (.slice none 0 0)],
 oA 7 .move [.c (.int .i64 (1))]] [6,7])
 (.ret))
 (.skip)))
 (.seq (.seq (cR [oM 14 0] [1,2,14])
 (.block 0 (.seq (cR [oA 16 (.bin .eql) [.t 14,.c (.int .i64 (0))],
 oM 15 16] [1,2,14,15])
 (.cond (.t 15) (.seq (cR [oM 17 1,
 oM 18 2,
 oA 19 .call [.c (.func (.func 199) #[] #[]),.t 17,.t 18],
 oA 20 (.extract 0) [.t 19],
 oA 21 (.extract 1) [.t 19],
 oM 6 20,
 oM 7 21] [6,7])
 (.ret))
 (.seq (cR [oA 23 (.bin .eql) [.t 14,.c (.int .i64 (1))],
 oM 22 23] [1,2,14,22])
 (.cond (.t 22) (.seq (cR [oM 24 1,
 oM 25 2,
 oA 26 .call [.c (.func (.func 200) #[] #[]),.t 24,.t 25],
 oA 27 (.extract 0) [.t 26],
 oA 28 (.extract 1) [.t 26],
 oM 6 27,
 oM 7 28] [6,7])
 (.ret))
 (.seq (cR [oA 30 (.bin .eql) [.t 14,.c (.int .i64 (2))],
 oM 29 30] [1,2,29])
 (.cond (.t 29) (.seq (cR [oM 31 1,
 oM 32 2,
 oA 33 .call [.c (.func (.func 201) #[] #[]),.t 31,.t 32],
 oA 34 (.extract 0) [.t 33],
 oA 35 (.extract 1) [.t 33],
 oM 6 34,
 oM 7 35] [6,7])
 (.ret))
 (.skip)))))))))
 (.seq (cR [oA 6 .move [.c (.slice none 0 0)],
 oA 7 .move [.c (.int .i64 (1))]] [6,7])
 (.ret)))),
 [.tmp 6, .tmp 7], none⟩

def f136 : Func := ⟨.seq (cR [oA 6 (.new 41 1 [(.int .i64 (0))]) []] [0,1,2,6])
 (.seq (.seq (cR [oM 7 0,
 oA 8 .call [.c (.func (.func 79) #[] #[]),.t 7],
 oA 9 (.bin .eql) [.t 8,.c (.int .i64 (0))]] [0,1,2,6,9])
 (.cond (.t 9) (.seq (cR [oN (.store 1) [.t 6,.c (.int .i64 (1))]] [6])
 (.ret))
 (.skip)))
 (.seq (cR [oA 10 (.func 202 0) [.t 6],
 oN .defer [.t 10]] [0,1,2,6])
 (.seq (cR [oM 11 0,
 oM 12 1,
 oA 13 .call [.c (.func (.func 203) #[] #[]),.t 11,.t 12]] [2,6])
 (.seq (cR [oM 14 2,
 oA 15 .call [.t 14],
 oN (.store 1) [.t 6,.t 15]] [6])
 (.ret))))),
 [.cell 6 false 1], none⟩

def f137 : Func := ⟨.seq (cR [oA 1 .move [.c (.int .i64 (0))]] [0])
 (.seq (cR [oA 2 (.load false 1) [.t 0],
 oA 3 .call [.c (.func (.func 65) #[] #[]),.t 2,.c (.func (.func 138) #[] #[])]] [])
 (.seq (cR [oA 1 .move [.c (.int .i64 (0))]] [1])
 (.ret))),
 [.tmp 1], none⟩

def f138 : Func := ⟨.seq (cR [oA 2 .move [.c (.bool false)]] [])
 (.seq (cR [oA 2 .move [.c (.bool true)]] [2])
 (.ret)),
 [.tmp 2], none⟩

def l139_0 : Code :=
 .seq (cR [oA 23 (.bin .lss) [.t 22,.t 21]] [1,2,20,21,22,23])
 (.seq (.cond (.t 23) (.skip)
 (.exit 0))
 (.seq (.block 1 (.seq (cR [oA 24 (.idxAddr 2) [.t 20,.t 22],
 oA 25 (.load true 2) [.t 24],
 oA 5 (.new 199 2 [(.int .i64 (0)), (.slice none 0 0)]) [],
 oN (.store 2) [.t 5,.t 25]] [1,2,5,20,21,22])
 (.seq (cR [oA 26 (.fieldAddr 0) [.t 5],
 oA 27 (.load false 1) [.t 26],
 oA 28 (.load false 1) [.t 1],
 oA 29 (.bin .eql) [.t 27,.t 28]] [1,2,5,20,21,22,29])
 (.cond (.t 29) (cR [oA 30 (.fieldAddr 1) [.t 5],
 oA 31 (.load false 1) [.t 30],
 oN (.store 1) [.t 2,.t 31]] [1,2,20,21,22])
 (.skip)))))
 (cR [oA 32 (.bin .add) [.t 22,.c (.int .i64 (1))],
 oM 22 32] [1,2,20,21,22])))
def f139 : Func := ⟨.seq (cR [oA 3 .move [.c (.int .i64 (0))]] [0,1,2])
 (.seq (.seq (cR [oA 6 (.load false 1) [.t 0],
 oA 7 (.load false 1) [.t 1],
 oA 8 .call [.c (.func (.func 140) #[] #[]),.t 6,.t 7],
 oA 9 (.un .not) [.t 8]] [0,1,2,9])
 (.cond (.t 9) (.seq (cR [oA 3 .move [.c (.int .i64 (1))]] [3])
 (.ret))
 (.skip)))
 (.seq (cD [⟨[oA 10 (.load false 1) [.t 0],
 oA 11 .nilCheck [.t 10],
 oA 12 (.fieldAddr 0) [.t 11],
 oA 13 (.load false 1) [.t 12],
 oA 14 (.load false 1) [.t 1],
 oA 15 (.idxAddr 1) [.t 13,.t 14],
 oA 16 (.load false 1) [.t 15]],some (oN (.store 1) [.t 2,.t 16]),[],[]⟩] [10,11,12,13,14,15,16] [0,1,2])
 (.seq (.seq (cR [oA 17 (.load false 1) [.t 0],
 oA 18 .nilCheck [.t 17],
 oA 19 (.fieldAddr 1) [.t 18],
 oA 20 (.load false 1) [.t 19],
 oA 21 .lenS [.t 20],
 oA 22 .move [.c (.int .i64 (0))]] [1,2,20,21,22])
 (.block 0 (.loop [1,2,20,21,22] l139_0)))
 (.seq (cR [oA 33 (.load false 1) [.t 2],
 oA 34 .call [.c (.func (.func 74) #[] #[]),.t 33],
 oN (.store 1) [.t 2,.t 34]] [])
 (.seq (cR [oA 3 .move [.c (.int .i64 (0))]] [3])
 (.ret)))))),
 [.tmp 3], none⟩

def f140 : Func := ⟨.seq (cR [oA 4 .move [.c (.bool false)]] [0,1])
 (.seq (cR [oM 5 1,
 oA 6 (.bin .geq) [.t 5,.c (.int .i64 (0))],
 oM 7 6,
 oG (some 8) .move [.t 1] 7 true,
 oG (some 9) .move [.t 0] 7 true,
 oG (some 10) .nilCheck [.t 9] 7 true,
 oG (some 11) (.fieldAddr 0) [.t 10] 7 true,
 oG (some 12) (.load false 1) [.t 11] 7 true,
 oG (some 13) .lenS [.t 12] 7 true,
 oG (some 14) (.bin .lss) [.t 8,.t 13] 7 true,
 oA 15 .pick [.t 7,.t 14,.c (.bool false)],
 oM 4 15] [4])
 (.ret)),
 [.tmp 4], none⟩

def f141 : Func := ⟨.seq (cR [oA 4 (.new 77 8 [(.int .i64 (0)), (.int .i64 (0)), (.int .i64 (0)), (.float .f64 0), (.int .i64 (0)), (.int .i64 (0)), (.int .i64 (0)), (.int .i64 (0))]) [],
 oA 5 .move [.c (.int .i64 (0))],
 oA 6 .move [.c (.int .i64 (0))]] [0,1,4])
 (.seq (cR [oM 10 0,
 oA 11 .call [.c (.func (.func 116) #[] #[]),.t 10],
 oM 9 11,
 oA 12 (.extract 0) [.t 9],
 oA 13 (.extract 1) [.t 9],
 oA 7 (.new 77 8 [(.int .i64 (0)), (.int .i64 (0)), (.int .i64 (0)), (.float .f64 0), (.int .i64 (0)), (.int .i64 (0)), (.int .i64 (0)), (.int .i64 (0))]) [],
 oN (.store 8) [.t 7,.t 12],
 oM 8 13] [1,4,7,8])
 (.seq (.seq (cR [oM 14 8,
 oA 15 (.bin .neq) [.t 14,.c (.int .i64 (0))],
 oM 16 15,
 oG (some 17) (.fieldAddr 0) [.t 7] 16 false,
 oG (some 18) (.load false 1) [.t 17] 16 false,
 oG (some 19) (.bin .neq) [.t 18,.c (.int .i64 (1))] 16 false,
 oA 20 .pick [.t 16,.c (.bool true),.t 19]] [1,4,7,20])
 (.cond (.t 20) (.seq (cR [oA 21 (.build [(.int .i64 (0)), (.int .i64 (0)), (.int .i64 (0)), (.float .f64 0), (.int .i64 (0)), (.int .i64 (0)), (.int .i64 (0)), (.int .i64 (0))] []) [],
 oN (.store 8) [.t 4,.t 21],
 oA 5 .move [.c (.int .i64 (0))],
 oA 6 .move [.c (.int .i64 (5))]] [4,5,6])
 (.ret))
 (.skip)))
 (.seq (cR [oA 22 (.load true 8) [.t 7],
 oM 23 1,
 oN (.store 8) [.t 4,.t 22],
 oM 5 23,
 oA 6 .move [.c (.int .i64 (0))]] [4,5,6])
 (.ret)))),
 [.cell 4 true 8, .tmp 5, .tmp 6], none⟩

def f142 : Func := ⟨.seq (cR [oA 3 (.box 67 2) [.t 1],
 oA 4 .move [.c (.bool false)]] [0,3])
 (.seq (.seq (cD [⟨[oM 5 0],some (oA 6 .call [.c (.func (.func 158) #[] #[]),.t 5]),[],[]⟩,
 ⟨[oA 7 (.un .not) [.t 6],
 oM 8 7,
 oG (some 9) (.fieldAddr 1) [.t 3] 8 false,
 oG (some 10) (.load false 1) [.t 9] 8 false,
 oG (some 11) (.bin .lss) [.t 10,.c (.int .i64 (1))] 8 false,
 oA 12 .pick [.t 8,.c (.bool true),.t 11],
 oM 13 12,
 oG (some 14) (.fieldAddr 0) [.t 3] 13 false,
 oG (some 15) (.load false 1) [.t 14] 13 false,
 oG (some 16) (.bin .lss) [.t 15,.c (.int .i64 (0))] 13 false,
 oA 17 .pick [.t 13,.c (.bool true),.t 16],
 oM 18 17,
 oG (some 19) .move [.t 0] 18 false,
 oG (some 20) .nilCheck [.t 19] 18 false,
 oG (some 21) (.fieldAddr 2) [.t 20] 18 false,
 oG (some 22) (.load false 1) [.t 21] 18 false,
 oG (some 23) (.fieldAddr 0) [.t 3] 18 false,
 oG (some 24) (.load false 1) [.t 23] 18 false,
 oG (some 25) (.lookup none (.agg #[(.int .i64 (0)), (.int .i64 (0)), (.int .i64 (0))]) false) [.t 22,.t 24] 18 false,
 oG (some 26) (.field 2 false 1) [.t 25] 18 false,
 oG (some 27) (.bin .gtr) [.t 26,.c (.int .i64 (0))] 18 false,
 oA 28 .pick [.t 18,.c (.bool true),.t 27],
 oM 29 28,
 oG (some 30) .move [.t 0] 29 false,
 oG (some 31) .nilCheck [.t 30] 29 false,
 oG (some 32) (.fieldAddr 1) [.t 31] 29 false,
 oG (some 33) (.load false 1) [.t 32] 29 false,
 oG (some 34) (.fieldAddr 0) [.t 3] 29 false,
 oG (some 35) (.load false 1) [.t 34] 29 false,
 oG (some 36) (.lookup none (.agg #[(.int .i64 (0)), (.int .i64 (0)), (.int .i64 (0))]) false) [.t 33,.t 35] 29 false,
 oG (some 37) (.field 2 false 1) [.t 36] 29 false,
 oG (some 38) (.bin .gtr) [.t 37,.c (.int .i64 (0))] 29 false,
 oA 39 .pick [.t 29,.c (.bool true),.t 38]],none,[],[]⟩] [5,6,7,8,9,10,11,12,13,14,15,16,17,18,19,20,21,22,23,24,25,26,27,28,29,30,31,32,33,34,35,36,37,38,39] [0,3,39])
 (.cond (.t 39) (.seq (cR [oA 4 .move [.c (.bool false)]] [4])
 (.ret))
 (.skip)))
 (.seq (cD [⟨[oM 40 0,
 oA 41 .nilCheck [.t 40],
 oA 42 (.fieldAddr 1) [.t 41],
 oA 43 (.load false 1) [.t 42],
 oA 44 (.fieldAddr 0) [.t 3],
 oA 45 (.load false 1) [.t 44],
 oA 46 (.load true 2) [.t 3],
 oA 47 (.build [(.int .i64 (0)), (.int .i64 (0)), (.int .i64 (0))] [(0, 2), (2, 1)]) [.t 46,.c (.int .i64 (1))]],some (oN (.mapSet none) [.t 43,.t 45,.t 47]),[],[]⟩] [40,41,42,43,44,45,46,47] [0,3])
 (.seq (cD [⟨[oM 48 0,
 oM 49 0,
 oA 50 .nilCheck [.t 49],
 oA 51 (.fieldAddr 4) [.t 50],
 oA 52 (.load false 1) [.t 51],
 oA 53 (.load true 2) [.t 3]],some (oA 54 (.buildSlice 67 2 1 [(.int .i64 (0)), (.int .i64 (0))] [(0, 2)]) [.t 53]),[52],[]⟩,
 ⟨[],some (oA 55 (.append 67 2 16) [.t 52,.t 54]),[],[]⟩,
 ⟨[oA 56 .nilCheck [.t 48],
 oA 57 (.fieldAddr 4) [.t 56]],some (oN (.store 1) [.t 57,.t 55]),[],[]⟩] [48,49,50,51,52,53,54,55,56,57] [])
 (.seq (cR [oA 4 .move [.c (.bool true)]] [4])
 (.ret))))),
 [.tmp 4], none⟩

def f143 : Func := ⟨.seq (cR [oA 4 .move [.c (.bool false)]] [0,1])
 (.seq (.seq (cR [oM 6 0,
 oM 7 1,
 oA 8 .call [.c (.func (.func 177) #[] #[]),.t 6,.t 7],
 oA 9 (.bin .eql) [.t 8,.c (.int .i64 (0))]] [0,1,9])
 (.cond (.t 9) (.seq (cR [oA 4 .move [.c (.bool false)]] [4])
 (.ret))
 (.skip)))
 (.seq (cR [oM 10 0,
 oA 11 .nilCheck [.t 10],
 oA 12 (.fieldAddr 1) [.t 11],
 oA 13 (.load false 1) [.t 12],
 oM 14 1,
 oA 15 (.lookup none (.agg #[(.int .i64 (0)), (.int .i64 (0)), (.int .i64 (0))]) false) [.t 13,.t 14],
 oA 5 (.new 254 3 [(.int .i64 (0)), (.int .i64 (0)), (.int .i64 (0))]) [],
 oN (.store 3) [.t 5,.t 15]] [0,1,5])
 (.seq (cR [oA 16 (.fieldAddr 2) [.t 5],
 oA 17 (.load false 1) [.t 16],
 oA 18 (.bin .add) [.t 17,.c (.int .i64 (1))],
 oA 19 (.fieldAddr 2) [.t 5],
 oN (.store 1) [.t 19,.t 18]] [0,1,5])
 (.seq (cD [⟨[oM 20 0,
 oA 21 .nilCheck [.t 20],
 oA 22 (.fieldAddr 1) [.t 21],
 oA 23 (.load false 1) [.t 22],
 oM 24 1,
 oA 25 (.load true 3) [.t 5]],some (oN (.mapSet none) [.t 23,.t 24,.t 25]),[],[]⟩] [20,21,22,23,24,25] [])
 (.seq (cR [oA 4 .move [.c (.bool true)]] [4])
 (.ret)))))),
 [.tmp 4], none⟩

def f144 : Func := ⟨.seq (cR [oA 3 (.box 216 1) [.t 0],
 oA 4 (.box 75 4) [.t 1],
 oA 5 (.box 238 1) [.t 2],
 oA 6 .move [.c (.int .i64 (0))]] [3,4,5])
 (.seq (.seq (cR [oA 7 (.load false 1) [.t 3],
 oA 8 (.isNil .iface false) [.t 7]] [3,4,5,8])
 (.cond (.t 8) (.seq (cR [oA 6 .move [.c (.int .i64 (1))]] [6])
 (.ret))
 (.skip)))
 (.seq (cR [oA 9 (.func 204 0) [.t 3,.t 4,.t 5],
 oA 10 .call [.c (.func (.func 166) #[] #[]),.t 9],
 oM 6 10] [6])
 (.ret))),
 [.tmp 6], none⟩

def f145 : Func := ⟨.seq (cR [oA 3 (.box 73 3) [.t 0],
 oA 4 (.box 205 5) [.t 1]] [2,3])
 (cR [oA 5 (.load false 1) [.t 2],
 oA 6 (.load true 3) [.t 3],
 oA 7 (.buildSlice 73 3 1 [(.int .i64 (0)), (.int .i64 (0)), (.int .i64 (0))] [(0, 3)]) [.t 6],
 oA 8 (.append 73 3 24) [.t 5,.t 7],
 oN (.store 1) [.t 2,.t 8]] []),
 [], none⟩
end Go.Proofs.YtdbbkaeoinalpaaGreat.AM
