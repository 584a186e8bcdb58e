/- The program as the abstract machine reads it (printed by gen_ir.py), part 0. -/
import Derived.Test.YtdbbkaeoinalpaaGreatAm
namespace Go.Proofs.YtdbbkaeoinalpaaGreat.AM
def l3_0 : Code :=
 .seq (.seq (cR [oM 15 7,
 oM 16 0,
 oA 17 .lenS [.t 16],
 oA 18 (.bin .lss) [.t 15,.t 17]] [0,1,5,6,7,18])
 (.cond (.t 18) (.skip)
 (.exit 0)))
 (.seq (.block 1 (.seq (cD [⟨[oM 21 0,
 oM 22 7,
 oA 23 (.idxAddr 2) [.t 21,.t 22],
 oA 24 (.idxAddrA 2 1) [.t 23,.c (.int .i64 (0))],
 oA 25 (.load false 1) [.t 24],
 oA 26 (.bin .rem) [.t 25,.c (.int .u16 (600))],
 oA 27 (.toInt .i64) [.t 26],
 oM 28 0,
 oM 29 7,
 oA 30 (.idxAddr 2) [.t 28,.t 29],
 oA 31 (.idxAddrA 2 1) [.t 30,.c (.int .i64 (1))],
 oA 32 (.load false 1) [.t 31],
 oA 33 (.bin .rem) [.t 32,.c (.int .u16 (600))],
 oA 34 (.toInt .i64) [.t 33],
 oM 8 27,
 oM 9 34],none,[],[]⟩] [21,22,23,24,25,26,27,28,29,30,31,32,33,34,8,9] [0,1,5,6,7,8,9])
 (.seq (cR [oA 35 (.fieldAddr 0) [.t 5],
 oA 36 (.load false 1) [.t 35],
 oM 37 8,
 oM 38 9,
 oA 39 (.build [(.int .i64 (0)), (.int .i64 (0))] [(0, 1), (1, 1)]) [.t 37,.t 38],
 oA 40 (.buildSlice 31 2 1 [(.int .i64 (0)), (.int .i64 (0))] [(0, 2)]) [.t 39],
 oA 41 (.append 31 2 16) [.t 36,.t 40],
 oA 42 (.fieldAddr 0) [.t 5],
 oN (.store 1) [.t 42,.t 41]] [0,1,5,6,7,8,9])
 (cR [oM 43 6,
 oM 44 43,
 oG (some 45) .move [.t 8] 44 false,
 oG (some 46) .move [.t 1] 44 false,
 oG (some 47) (.bin .leq) [.t 45,.t 46] 44 false,
 oG (some 48) .move [.t 47] 44 false,
 oG (some 49) .move [.t 1] 48 true,
 oG (some 50) .move [.t 9] 48 true,
 oG (some 51) (.bin .lss) [.t 49,.t 50] 48 true,
 oG (some 52) .pick [.t 48,.t 51,.c (.bool false)] 44 false,
 oA 53 .pick [.t 44,.c (.bool true),.t 52],
 oM 6 53] [0,1,5,6,7]))))
 (cR [oM 19 7,
 oA 20 (.bin .add) [.t 19,.c (.int .i64 (1))],
 oM 7 20] [0,1,5,6,7]))
def f3 : Func := ⟨.seq (cR [oA 4 .move [.c (.bool false)]] [0,1])
 (.seq (.seq (cR [oA 10 .call [.c (.func (.func 11) #[] #[])],
 oA 11 (.un .not) [.t 10]] [0,1,11])
 (.cond (.t 11) (.seq (cR [oA 4 .move [.c (.bool false)]] [4])
 (.ret))
 (.skip)))
 (.seq (.seq (cR [oM 12 0,
 oA 13 .lenS [.t 12],
 oA 14 (.bin .gtr) [.t 13,.c (.int .i64 (100))]] [0,1,14])
 (.cond (.t 14) (.seq (cR [oA 4 .move [.c (.bool true)]] [4])
 (.ret))
 (.skip)))
 (.seq (cR [oA 5 (.new 27 5 [(.slice none 0 0), (.int .i64 (0)), (.int .i64 (0)), (.bool false), (.bool false)]) []] [0,1,5])
 (.seq (cR [oA 6 .move [.c (.bool false)]] [0,1,5,6])
 (.seq (.seq (cR [oA 7 .move [.c (.int .i64 (0))]] [0,1,5,6,7])
 (.block 0 (.loop [0,1,5,6,7] l3_0)))
 (.seq (cR [oA 54 (.load true 5) [.t 5],
 oM 55 1,
 oA 56 .call [.c (.func (.func 12) #[] #[]),.t 54,.t 55],
 oM 57 6,
 oA 58 (.un .not) [.t 57],
 oA 59 (.eqBool false) [.t 56,.t 58],
 oM 4 59] [4])
 (.ret))))))),
 [.tmp 4], none⟩

def f4 : Func := ⟨.seq (cR [oA 6 .move [.c (.bool false)]] [0,1,2])
 (.seq (.seq (cR [oA 18 .call [.c (.func (.func 13) #[] #[])],
 oA 19 (.un .not) [.t 18]] [0,1,2,19])
 (.cond (.t 19) (.seq (cR [oA 6 .move [.c (.bool false)]] [6])
 (.ret))
 (.skip)))
 (.seq (cR [oA 21 .call [.c (.func (.func 14) #[] #[]),.c (.int .i64 (256)),.c (.int .i64 (30)),.c (.float .f64 4607182418800017408)],
 oM 20 21,
 oA 22 (.extract 0) [.t 20],
 oA 23 (.extract 1) [.t 20],
 oA 24 (.extract 2) [.t 20],
 oM 7 22,
 oM 8 23,
 oM 9 24] [0,1,2,8,9])
 (.seq (.seq (cR [oM 25 8,
 oA 26 (.isNil .ptr false) [.t 25]] [0,1,2,8,9,26])
 (.cond (.t 26) (.seq (cR [oA 6 .move [.c (.bool false)]] [6])
 (.ret))
 (.skip)))
 (.seq (cR [oM 27 1,
 oA 28 (.toInt .i64) [.t 27],
 oA 29 (.bin .rem) [.t 28,.c (.int .i64 (300))],
 oA 30 (.newSlice 5 1 1 [(.int .u8 (0))]) [.t 29,.t 29],
 oM 10 30] [0,2,8,9,10])
 (.seq (cR [oM 31 0,
 oA 32 (.bin .geq) [.t 31,.c (.int .i64 (0))],
 oM 33 32,
 oG (some 34) .move [.t 0] 33 true,
 oG (some 35) (.bin .lss) [.t 34,.c (.int .i64 (30))] 33 true,
 oA 36 .pick [.t 33,.t 35,.c (.bool false)],
 oM 11 36] [0,2,8,9,10,11])
 (.seq (cR [oM 37 11,
 oM 38 37,
 oG (some 39) .move [.t 10] 38 true,
 oG (some 40) .lenS [.t 39] 38 true,
 oG (some 41) (.bin .eql) [.t 40,.c (.int .i64 (128))] 38 true,
 oA 42 .pick [.t 38,.t 41,.c (.bool false)],
 oM 12 42] [0,2,8,9,10,11,12])
 (.seq (cR [oM 43 8,
 oM 44 0,
 oM 45 10,
 oA 46 .call [.c (.func (.func 15) #[] #[]),.t 43,.t 44,.t 45],
 oM 13 46] [0,2,8,9,11,12,13])
 (.seq (.seq (cR [oM 47 13,
 oA 48 (.bin .eql) [.t 47,.c (.int .i64 (0))],
 oM 49 12,
 oA 50 (.eqBool true) [.t 48,.t 49],
 oM 51 50,
 oG (some 52) .move [.t 12] 51 false,
 oG (some 53) (.un .not) [.t 52] 51 false,
 oG (some 54) .move [.t 53] 51 false,
 oG (some 55) .move [.t 13] 54 true,
 oG (some 56) (.bin .neq) [.t 55,.c (.int .i64 (1))] 54 true,
 oG (some 57) .move [.t 56] 54 true,
 oG (some 58) .move [.t 8] 57 false,
 oG (some 59) .call [.c (.func (.func 16) #[] #[]),.t 58] 57 false,
 oG (some 60) (.bin .neq) [.t 59,.c (.int .i64 (0))] 57 false,
 oG (some 61) .pick [.t 57,.c (.bool true),.t 60] 54 true,
 oG (some 62) .pick [.t 54,.t 61,.c (.bool false)] 51 false,
 oA 63 .pick [.t 51,.c (.bool true),.t 62]] [0,2,8,9,11,12,63])
 (.cond (.t 63) (.seq (cR [oA 6 .move [.c (.bool false)]] [6])
 (.ret))
 (.skip)))
 (.seq (cR [oM 65 8,
 oM 66 0,
 oA 67 .call [.c (.func (.func 17) #[] #[]),.t 65,.t 66],
 oM 64 67,
 oA 68 (.extract 0) [.t 64],
 oA 69 (.extract 1) [.t 64],
 oM 14 68,
 oM 15 69] [0,2,8,9,11,12,15])
 (.seq (cR [oM 70 8,
 oM 71 0,
 oM 72 2,
 oA 73 .call [.c (.func (.func 18) #[] #[]),.t 70,.t 71,.t 72],
 oM 16 73] [0,2,8,9,11,12,15,16])
 (.seq (cR [oM 74 0,
 oA 75 (.bin .geq) [.t 74,.c (.int .i64 (0))],
 oM 76 75,
 oG (some 77) .move [.t 2] 76 true,
 oG (some 78) (.bin .geq) [.t 77,.c (.int .i64 (0))] 76 true,
 oA 79 .pick [.t 76,.t 78,.c (.bool false)],
 oM 80 79,
 oG (some 81) .move [.t 0] 80 true,
 oG (some 82) (.bin .leq) [.t 81,.c (.int .i64 (30))] 80 true,
 oA 83 .pick [.t 80,.t 82,.c (.bool false)],
 oM 84 83,
 oG (some 85) .move [.t 2] 84 true,
 oG (some 86) .move [.t 0] 84 true,
 oG (some 87) (.bin .sub) [.c (.int .i64 (30)),.t 86] 84 true,
 oG (some 88) (.bin .leq) [.t 85,.t 87] 84 true,
 oA 89 .pick [.t 84,.t 88,.c (.bool false)],
 oM 17 89] [8,9,11,12,15,16,17])
 (.seq (.seq (cR [oM 90 12,
 oA 91 (.un .not) [.t 90]] [8,9,11,15,16,17,91])
 (.cond (.t 91) (.seq (cR [oM 92 15,
 oA 93 (.bin .eql) [.t 92,.c (.int .i64 (0))],
 oM 94 11,
 oA 95 (.eqBool false) [.t 93,.t 94],
 oM 96 95,
 oG (some 97) .move [.t 16] 96 true,
 oG (some 98) (.bin .eql) [.t 97,.c (.int .i64 (0))] 96 true,
 oG (some 99) .move [.t 17] 96 true,
 oG (some 100) (.eqBool false) [.t 98,.t 99] 96 true,
 oA 101 .pick [.t 96,.t 100,.c (.bool false)],
 oM 102 101,
 oG (some 103) .move [.t 17] 102 true,
 oG (some 104) .move [.t 103] 102 true,
 oG (some 105) .move [.t 16] 104 false,
 oG (some 106) (.bin .eql) [.t 105,.c (.int .i64 (1))] 104 false,
 oG (some 107) .move [.t 106] 104 false,
 oG (some 108) .move [.t 8] 107 true,
 oG (some 109) .call [.c (.func (.func 16) #[] #[]),.t 108] 107 true,
 oG (some 110) (.bin .eql) [.t 109,.c (.int .i64 (0))] 107 true,
 oG (some 111) .pick [.t 107,.t 110,.c (.bool false)] 104 false,
 oG (some 112) .pick [.t 104,.c (.bool true),.t 111] 102 true,
 oA 113 .pick [.t 102,.t 112,.c (.bool false)],
 oM 114 113,
 oG (some 115) .move [.t 9] 114 true,
 oG (some 116) .nilCheck [.t 115] 114 true,
 oG (some 117) (.fieldAddr 2) [.t 116] 114 true,
 oG (some 118) (.load false 1) [.t 117] 114 true,
 oG (some 119) .nilCheck [.t 118] 114 true,
 oG (some 120) (.fieldAddr 1) [.t 119] 114 true,
 oG (some 121) (.load false 1) [.t 120] 114 true,
 oG (some 122) .lenS [.t 121] 114 true,
 oG (some 123) (.bin .eql) [.t 122,.c (.int .i64 (0))] 114 true,
 oA 124 .pick [.t 114,.t 123,.c (.bool false)],
 oM 6 124] [6])
 (.ret))
 (.skip)))
 (.seq (cR [oM 125 15,
 oA 126 (.bin .eql) [.t 125,.c (.int .i64 (0))],
 oM 127 126,
 oG (some 128) .move [.t 16] 127 true,
 oG (some 129) (.bin .eql) [.t 128,.c (.int .i64 (0))] 127 true,
 oG (some 130) .move [.t 17] 127 true,
 oG (some 131) (.eqBool false) [.t 129,.t 130] 127 true,
 oA 132 .pick [.t 127,.t 131,.c (.bool false)],
 oM 6 132] [6])
 (.ret)))))))))))))),
 [.tmp 6], none⟩

def l5_0 : Code :=
 .seq (.seq (cR [oM 30 10,
 oA 31 (.bin .lss) [.t 30,.c (.int .i64 (60))]] [0,1,2,7,8,9,10,31])
 (.cond (.t 31) (.skip)
 (.exit 0)))
 (.seq (.block 1 (.seq (cR [oM 34 8,
 oM 35 9,
 oM 36 10,
 oM 37 10,
 oM 38 2,
 oA 39 (.build [(.int .i64 (0)), (.int .i64 (0)), (.int .i64 (0)), (.int .u8 (0))] [(1, 1), (2, 1), (3, 1)]) [.t 36,.t 37,.t 38],
 oA 40 .call [.c (.func (.func 19) #[] #[]),.t 34,.t 35,.t 39],
 oM 11 40] [0,1,2,7,8,9,10,11])
 (.seq (cR [oM 41 11,
 oA 42 (.bin .leq) [.t 41,.c (.int .i64 (0))]] [0,1,2,7,8,9,10,11,42])
 (.cond (.t 42) (.seq (cR [oM 43 11,
 oA 44 (.bin .lss) [.t 43,.c (.int .i64 (0))],
 oM 6 44] [6])
 (.ret))
 (.skip)))))
 (cR [oM 32 10,
 oA 33 (.bin .add) [.t 32,.c (.int .i64 (1))],
 oM 10 33] [0,1,2,7,8,9,10]))
def l5_1 : Code :=
 .seq (.seq (cR [oM 138 20,
 oM 139 18,
 oA 140 .lenS [.t 139],
 oA 141 (.bin .lss) [.t 138,.t 140]] [9,15,18,19,20,141])
 (.cond (.t 141) (.skip)
 (.exit 2)))
 (.seq (.block 3 (.seq (cR [oM 144 18,
 oM 145 20,
 oA 146 (.idxAddr 5) [.t 144,.t 145],
 oA 147 (.fieldAddr 3) [.t 146],
 oA 148 (.load false 1) [.t 147],
 oA 149 (.un .not) [.t 148]] [9,15,18,19,20,149])
 (.cond (.t 149) (.seq (cR [oA 6 .move [.c (.bool false)]] [6])
 (.ret))
 (.skip))))
 (cR [oM 142 20,
 oA 143 (.bin .add) [.t 142,.c (.int .i64 (1))],
 oM 20 143] [9,15,18,19,20]))
def f5 : Func := ⟨.seq (cR [oA 6 .move [.c (.bool false)]] [0,1,2])
 (.seq (.seq (cR [oA 21 .call [.c (.func (.func 13) #[] #[])],
 oA 22 (.un .not) [.t 21]] [0,1,2,22])
 (.cond (.t 22) (.seq (cR [oA 6 .move [.c (.bool false)]] [6])
 (.ret))
 (.skip)))
 (.seq (cR [oA 24 .call [.c (.func (.func 14) #[] #[]),.c (.int .i64 (512)),.c (.int .i64 (100)),.c (.float .f64 0)],
 oM 23 24,
 oA 25 (.extract 0) [.t 23],
 oA 26 (.extract 1) [.t 23],
 oA 27 (.extract 2) [.t 23],
 oM 7 25,
 oM 8 26,
 oM 9 27] [0,1,2,7,8,9])
 (.seq (.seq (cR [oM 28 8,
 oA 29 (.isNil .ptr false) [.t 28]] [0,1,2,7,8,9,29])
 (.cond (.t 29) (.seq (cR [oA 6 .move [.c (.bool false)]] [6])
 (.ret))
 (.skip)))
 (.seq (.seq (cR [oA 10 .move [.c (.int .i64 (0))]] [0,1,2,7,8,9,10])
 (.block 0 (.loop [0,1,2,7,8,9,10] l5_0)))
 (.seq (cR [oM 45 8,
 oM 46 9,
 oA 47 (.build [(.int .i64 (0)), (.int .i64 (0)), (.int .i64 (0)), (.int .u8 (0))] [(0, 1)]) [.c (.int .i64 (6))],
 oA 48 .call [.c (.func (.func 19) #[] #[]),.t 45,.t 46,.t 47],
 oM 12 48] [0,1,7,8,9,12])
 (.seq (.seq (cR [oM 49 12,
 oA 50 (.bin .leq) [.t 49,.c (.int .i64 (0))]] [0,1,7,8,9,12,50])
 (.cond (.t 50) (.seq (cR [oM 51 12,
 oA 52 (.bin .lss) [.t 51,.c (.int .i64 (0))],
 oM 6 52] [6])
 (.ret))
 (.skip)))
 (.seq (cR [oM 53 0,
 oA 54 (.toInt .i64) [.t 53],
 oA 55 (.bin .rem) [.t 54,.c (.int .i64 (100))],
 oM 13 55] [1,7,8,9,13])
 (.seq (cR [oM 56 1,
 oA 57 (.toInt .i64) [.t 56],
 oM 58 13,
 oA 59 (.bin .sub) [.c (.int .i64 (101)),.t 58],
 oA 60 (.bin .rem) [.t 57,.t 59],
 oM 14 60] [7,8,9,13,14])
 (.seq (cR [oM 61 8,
 oM 62 9,
 oM 63 13,
 oM 64 14,
 oA 65 (.build [(.int .i64 (0)), (.int .i64 (0)), (.int .i64 (0)), (.int .u8 (0))] [(0, 1), (1, 1), (2, 1)]) [.c (.int .i64 (5)),.t 63,.t 64],
 oA 66 .call [.c (.func (.func 19) #[] #[]),.t 61,.t 62,.t 65],
 oM 12 66] [7,8,9,12])
 (.seq (.seq (cR [oM 67 12,
 oA 68 (.bin .lss) [.t 67,.c (.int .i64 (0))]] [7,8,9,12,68])
 (.cond (.t 68) (.seq (cR [oA 6 .move [.c (.bool true)]] [6])
 (.ret))
 (.skip)))
 (.seq (.seq (cR [oM 69 12,
 oA 70 (.bin .eql) [.t 69,.c (.int .i64 (0))],
 oM 71 70,
 oG (some 72) .move [.t 8] 71 false,
 oG (some 73) .move [.t 9] 71 false,
 oG (some 74) .call [.c (.func (.func 20) #[] #[]),.t 72,.t 73] 71 false,
 oG (some 75) (.un .not) [.t 74] 71 false,
 oA 76 .pick [.t 71,.c (.bool true),.t 75]] [7,8,9,76])
 (.cond (.t 76) (.seq (cR [oA 6 .move [.c (.bool false)]] [6])
 (.ret))
 (.skip)))
 (.seq (cR [oM 77 8,
 oM 78 9,
 oA 79 (.build [(.int .i64 (0)), (.int .i64 (0)), (.int .i64 (0)), (.int .u8 (0))] [(0, 1)]) [.c (.int .i64 (6))],
 oA 80 .call [.c (.func (.func 19) #[] #[]),.t 77,.t 78,.t 79],
 oM 12 80] [7,8,9,12])
 (.seq (.seq (cR [oM 81 12,
 oA 82 (.bin .lss) [.t 81,.c (.int .i64 (0))]] [7,8,9,12,82])
 (.cond (.t 82) (.seq (cR [oA 6 .move [.c (.bool true)]] [6])
 (.ret))
 (.skip)))
 (.seq (.seq (cR [oM 83 12,
 oA 84 (.bin .eql) [.t 83,.c (.int .i64 (0))],
 oM 85 84,
 oG (some 86) .move [.t 8] 85 false,
 oG (some 87) .move [.t 9] 85 false,
 oG (some 88) .call [.c (.func (.func 20) #[] #[]),.t 86,.t 87] 85 false,
 oG (some 89) (.un .not) [.t 88] 85 false,
 oA 90 .pick [.t 85,.c (.bool true),.t 89]] [7,9,90])
 (.cond (.t 90) (.seq (cR [oA 6 .move [.c (.bool false)]] [6])
 (.ret))
 (.skip)))
 (.seq (cR [oM 92 7,
 oA 93 .call [.c (.func (.func 21) #[] #[]),.t 92],
 oM 91 93,
 oA 94 (.extract 0) [.t 91],
 oA 95 (.extract 1) [.t 91],
 oM 15 94,
 oM 16 95] [9,15,16])
 (.seq (.seq (cR [oM 96 16,
 oA 97 (.bin .neq) [.t 96,.c (.int .i64 (0))],
 oM 98 97,
 oG (some 99) .move [.t 15] 98 false,
 oG (some 100) (.isNil .ptr false) [.t 99] 98 false,
 oA 101 .pick [.t 98,.c (.bool true),.t 100],
 oM 102 101,
 oG (some 103) .move [.t 15] 102 false,
 oG (some 104) .move [.t 9] 102 false,
 oG (some 105) .call [.c (.func (.func 20) #[] #[]),.t 103,.t 104] 102 false,
 oG (some 106) (.un .not) [.t 105] 102 false,
 oA 107 .pick [.t 102,.c (.bool true),.t 106]] [9,15,107])
 (.cond (.t 107) (.seq (cR [oA 6 .move [.c (.bool false)]] [6])
 (.ret))
 (.skip)))
 (.seq (cR [oM 108 15,
 oM 109 9,
 oA 110 (.build [(.int .i64 (0)), (.int .i64 (0)), (.int .i64 (0)), (.int .u8 (0))] [(0, 1), (1, 1), (2, 1)]) [.c (.int .i64 (5)),.c (.int .i64 (0)),.c (.int .i64 (100))],
 oA 111 .call [.c (.func (.func 19) #[] #[]),.t 108,.t 109,.t 110],
 oM 12 111] [9,12,15])
 (.seq (.seq (cR [oM 112 12,
 oA 113 (.bin .lss) [.t 112,.c (.int .i64 (0))]] [9,12,15,113])
 (.cond (.t 113) (.seq (cR [oA 6 .move [.c (.bool true)]] [6])
 (.ret))
 (.skip)))
 (.seq (cR [oM 114 15,
 oM 115 9,
 oA 116 (.build [(.int .i64 (0)), (.int .i64 (0)), (.int .i64 (0)), (.int .u8 (0))] [(0, 1)]) [.c (.int .i64 (6))],
 oA 117 .call [.c (.func (.func 19) #[] #[]),.t 114,.t 115,.t 116],
 oM 17 117] [9,12,15,17])
 (.seq (.seq (cR [oM 118 17,
 oA 119 (.bin .lss) [.t 118,.c (.int .i64 (0))]] [9,12,15,17,119])
 (.cond (.t 119) (.seq (cR [oA 6 .move [.c (.bool true)]] [6])
 (.ret))
 (.skip)))
 (.seq (.seq (cR [oM 120 12,
 oA 121 (.bin .eql) [.t 120,.c (.int .i64 (0))],
 oM 122 121,
 oG (some 123) .move [.t 17] 122 false,
 oG (some 124) (.bin .eql) [.t 123,.c (.int .i64 (0))] 122 false,
 oA 125 .pick [.t 122,.c (.bool true),.t 124],
 oM 126 125,
 oG (some 127) .move [.t 15] 126 false,
 oG (some 128) .move [.t 9] 126 false,
 oG (some 129) .call [.c (.func (.func 20) #[] #[]),.t 127,.t 128] 126 false,
 oG (some 130) (.un .not) [.t 129] 126 false,
 oA 131 .pick [.t 126,.c (.bool true),.t 130]] [9,15,131])
 (.cond (.t 131) (.seq (cR [oA 6 .move [.c (.bool false)]] [6])
 (.ret))
 (.skip)))
 (.seq (cR [oM 133 15,
 oA 134 .call [.c (.func (.func 22) #[] #[]),.t 133],
 oA 135 .call [.c (.func (.func 23) #[] #[]),.t 134],
 oM 132 135,
 oA 136 (.extract 0) [.t 132],
 oA 137 (.extract 1) [.t 132],
 oM 18 136,
 oM 19 137] [9,15,18,19])
 (.seq (.seq (cR [oA 20 .move [.c (.int .i64 (0))]] [9,15,18,19,20])
 (.block 2 (.loop [9,15,18,19,20] l5_1)))
 (.seq (cR [oM 150 19,
 oA 151 (.bin .eql) [.t 150,.c (.int .i64 (0))],
 oM 152 151,
 oG (some 153) .move [.t 9] 152 true,
 oG (some 154) .nilCheck [.t 153] 152 true,
 oG (some 155) (.fieldAddr 1) [.t 154] 152 true,
 oG (some 156) (.load false 1) [.t 155] 152 true,
 oG (some 157) .lenM [.t 156] 152 true,
 oG (some 158) (.bin .eql) [.t 157,.c (.int .i64 (0))] 152 true,
 oA 159 .pick [.t 152,.t 158,.c (.bool false)],
 oM 160 159,
 oG (some 161) .move [.t 15] 160 true,
 oG (some 162) .call [.c (.func (.func 18) #[] #[]),.t 161,.c (.int .i64 (0)),.c (.int .i64 (101))] 160 true,
 oG (some 163) (.bin .eql) [.t 162,.c (.int .i64 (1))] 160 true,
 oA 164 .pick [.t 160,.t 163,.c (.bool false)],
 oM 165 164,
 oG (some 166) .move [.t 15] 165 true,
 oG (some 167) .call [.c (.func (.func 18) #[] #[]),.t 166,.c (.int .i64 (100)),.c (.int .i64 (0))] 165 true,
 oG (some 168) (.bin .eql) [.t 167,.c (.int .i64 (0))] 165 true,
 oA 169 .pick [.t 165,.t 168,.c (.bool false)],
 oM 6 169] [6])
 (.ret))))))))))))))))))))))))),
 [.tmp 6], none⟩

def l6_0 : Code :=
 .seq (.seq (cR [oM 60 15,
 oM 61 12,
 oA 62 .lenS [.t 61],
 oA 63 (.bin .lss) [.t 60,.t 62]] [0,7,8,9,10,11,12,13,14,15,63])
 (.cond (.t 63) (.skip)
 (.exit 2)))
 (.seq (.block 3 (.seq (cR [oM 66 12,
 oM 67 15,
 oA 68 (.idxAddr 5) [.t 66,.t 67],
 oA 69 (.fieldAddr 3) [.t 68],
 oA 70 (.load false 1) [.t 69],
 oA 71 (.un .not) [.t 70]] [0,7,8,9,10,11,12,13,14,15,71])
 (.cond (.t 71) (cR [oM 72 14,
 oA 73 (.bin .add) [.t 72,.c (.int .i64 (1))],
 oM 14 73] [0,7,8,9,10,11,12,13,14,15])
 (.skip))))
 (cR [oM 64 15,
 oA 65 (.bin .add) [.t 64,.c (.int .i64 (1))],
 oM 15 65] [0,7,8,9,10,11,12,13,14,15]))
def l6_1 : Code :=
 .seq (.seq (cR [oM 31 11,
 oM 32 0,
 oA 33 (.toInt .i64) [.t 32],
 oA 34 (.bin .rem) [.t 33,.c (.int .i64 (20))],
 oA 35 (.bin .add) [.c (.int .i64 (1)),.t 34],
 oA 36 (.bin .lss) [.t 31,.t 35]] [0,7,8,9,10,11,36])
 (.cond (.t 36) (.skip)
 (.exit 0)))
 (.seq (.block 1 (.seq (.seq (cR [oM 39 8,
 oM 40 9,
 oM 41 10,
 oM 42 11,
 oM 43 0,
 oA 44 (.build [(.int .i64 (0)), (.int .i64 (0)), (.int .i64 (0)), (.int .u8 (0))] [(1, 1), (2, 1), (3, 1)]) [.t 41,.t 42,.t 43],
 oA 45 .call [.c (.func (.func 19) #[] #[]),.t 39,.t 40,.t 44],
 oA 46 (.bin .neq) [.t 45,.c (.int .i64 (1))],
 oM 47 46,
 oG (some 48) .move [.t 8] 47 false,
 oG (some 49) .move [.t 9] 47 false,
 oG (some 50) (.build [(.int .i64 (0)), (.int .i64 (0)), (.int .i64 (0)), (.int .u8 (0))] [(0, 1)]) [.c (.int .i64 (6))] 47 false,
 oG (some 51) .call [.c (.func (.func 19) #[] #[]),.t 48,.t 49,.t 50] 47 false,
 oG (some 52) (.bin .neq) [.t 51,.c (.int .i64 (1))] 47 false,
 oA 53 .pick [.t 47,.c (.bool true),.t 52]] [0,7,8,9,10,11,53])
 (.cond (.t 53) (.seq (cR [oA 6 .move [.c (.bool false)]] [6])
 (.ret))
 (.skip)))
 (.seq (cR [oM 55 8,
 oA 56 .call [.c (.func (.func 22) #[] #[]),.t 55],
 oA 57 .call [.c (.func (.func 23) #[] #[]),.t 56],
 oM 54 57,
 oA 58 (.extract 0) [.t 54],
 oA 59 (.extract 1) [.t 54],
 oM 12 58,
 oM 13 59] [0,7,8,9,10,11,12,13])
 (.seq (cR [oA 14 .move [.c (.int .i64 (0))]] [0,7,8,9,10,11,12,13,14])
 (.seq (.seq (cR [oA 15 .move [.c (.int .i64 (0))]] [0,7,8,9,10,11,12,13,14,15])
 (.block 2 (.loop [0,7,8,9,10,11,12,13,14,15] l6_0)))
 (.seq (cR [oM 74 13,
 oA 75 (.bin .neq) [.t 74,.c (.int .i64 (0))],
 oM 76 75,
 oG (some 77) .move [.t 14] 76 false,
 oG (some 78) (.bin .neq) [.t 77,.c (.int .i64 (1))] 76 false,
 oA 79 .pick [.t 76,.c (.bool true),.t 78],
 oM 80 79,
 oG (some 81) .move [.t 8] 80 false,
 oG (some 82) .move [.t 9] 80 false,
 oG (some 83) .call [.c (.func (.func 20) #[] #[]),.t 81,.t 82] 80 false,
 oG (some 84) (.un .not) [.t 83] 80 false,
 oA 85 .pick [.t 80,.c (.bool true),.t 84]] [0,7,8,9,10,11,85])
 (.cond (.t 85) (.seq (cR [oA 6 .move [.c (.bool false)]] [6])
 (.ret))
 (.skip))))))))
 (cR [oM 37 11,
 oA 38 (.bin .add) [.t 37,.c (.int .i64 (1))],
 oM 11 38] [0,7,8,9,10,11]))
def f6 : Func := ⟨.seq (cR [oA 6 .move [.c (.bool false)]] [0,1,2])
 (.seq (.seq (cR [oA 18 .call [.c (.func (.func 13) #[] #[])],
 oA 19 (.un .not) [.t 18]] [0,1,2,19])
 (.cond (.t 19) (.seq (cR [oA 6 .move [.c (.bool false)]] [6])
 (.ret))
 (.skip)))
 (.seq (cR [oM 21 2,
 oA 22 .call [.c (.func (.func 14) #[] #[]),.c (.int .i64 (256)),.c (.int .i64 (30)),.t 21],
 oM 20 22,
 oA 23 (.extract 0) [.t 20],
 oA 24 (.extract 1) [.t 20],
 oA 25 (.extract 2) [.t 20],
 oM 7 23,
 oM 8 24,
 oM 9 25] [0,1,7,8,9])
 (.seq (.seq (cR [oM 26 8,
 oA 27 (.isNil .ptr false) [.t 26]] [0,1,7,8,9,27])
 (.cond (.t 27) (.seq (cR [oA 6 .move [.c (.bool false)]] [6])
 (.ret))
 (.skip)))
 (.seq (cR [oM 28 1,
 oA 29 (.toInt .i64) [.t 28],
 oA 30 (.bin .rem) [.t 29,.c (.int .i64 (30))],
 oM 10 30] [0,7,8,9,10])
 (.seq (.seq (cR [oA 11 .move [.c (.int .i64 (0))]] [0,7,8,9,10,11])
 (.block 0 (.loop [0,7,8,9,10,11] l6_1)))
 (.seq (cR [oM 87 7,
 oA 88 .call [.c (.func (.func 21) #[] #[]),.t 87],
 oM 86 88,
 oA 89 (.extract 0) [.t 86],
 oA 90 (.extract 1) [.t 86],
 oM 16 89,
 oM 17 90] [0,9,16,17])
 (.seq (cR [oM 91 17,
 oA 92 (.bin .eql) [.t 91,.c (.int .i64 (0))],
 oM 93 92,
 oG (some 94) .move [.t 16] 93 true,
 oG (some 95) (.isNil .ptr true) [.t 94] 93 true,
 oA 96 .pick [.t 93,.t 95,.c (.bool false)],
 oM 97 96,
 oG (some 98) .move [.t 16] 97 true,
 oG (some 99) .move [.t 9] 97 true,
 oG (some 100) .call [.c (.func (.func 20) #[] #[]),.t 98,.t 99] 97 true,
 oA 101 .pick [.t 97,.t 100,.c (.bool false)],
 oM 102 101,
 oG (some 103) .move [.t 16] 102 true,
 oG (some 104) .call [.c (.func (.func 22) #[] #[]),.t 103] 102 true,
 oG (some 105) .call [.c (.func (.func 24) #[] #[]),.t 104] 102 true,
 oG (some 106) (.field 0 false 1) [.t 105] 102 true,
 oG (some 107) .move [.t 0] 102 true,
 oG (some 108) (.toInt .i64) [.t 107] 102 true,
 oG (some 109) (.bin .rem) [.t 108,.c (.int .i64 (20))] 102 true,
 oG (some 110) (.bin .add) [.c (.int .i64 (2)),.t 109] 102 true,
 oG (some 111) (.bin .eql) [.t 106,.t 110] 102 true,
 oA 112 .pick [.t 102,.t 111,.c (.bool false)],
 oM 6 112] [6])
 (.ret)))))))),
 [.tmp 6], none⟩

def l7_0 : Code :=
 .seq (.seq (cR [oM 42 10,
 oM 43 0,
 oA 44 .lenS [.t 43],
 oA 45 (.bin .lss) [.t 42,.t 44]] [0,1,2,7,8,9,10,45])
 (.cond (.t 45) (.skip)
 (.exit 0)))
 (.seq (.block 1 (.seq (.seq (cR [oM 48 0,
 oM 49 10,
 oA 50 (.idxAddr 4) [.t 48,.t 49],
 oA 51 (.fieldAddr 0) [.t 50],
 oA 52 (.load false 1) [.t 51],
 oA 53 (.bin .eql) [.t 52,.c (.int .i64 (5))],
 oM 54 53,
 oG (some 55) .move [.t 0] 54 false,
 oG (some 56) .move [.t 10] 54 false,
 oG (some 57) (.idxAddr 4) [.t 55,.t 56] 54 false,
 oG (some 58) (.fieldAddr 0) [.t 57] 54 false,
 oG (some 59) (.load false 1) [.t 58] 54 false,
 oG (some 60) (.bin .eql) [.t 59,.c (.int .i64 (8))] 54 false,
 oA 61 .pick [.t 54,.c (.bool true),.t 60]] [0,1,2,7,8,9,10,61])
 (.cond (.t 61) (.exit 1)
 (.skip)))
 (.seq (cR [oM 62 8,
 oM 63 9,
 oM 64 0,
 oM 65 10,
 oA 66 (.idxAddr 4) [.t 64,.t 65],
 oA 67 (.load true 4) [.t 66],
 oA 68 .call [.c (.func (.func 19) #[] #[]),.t 62,.t 63,.t 67],
 oM 11 68] [0,1,2,7,8,9,10,11])
 (.seq (cR [oM 69 11,
 oA 70 (.bin .leq) [.t 69,.c (.int .i64 (0))]] [0,1,2,7,8,9,10,11,70])
 (.cond (.t 70) (.seq (cR [oM 71 11,
 oA 72 (.bin .lss) [.t 71,.c (.int .i64 (0))],
 oM 6 72] [6])
 (.ret))
 (.skip))))))
 (cR [oM 46 10,
 oA 47 (.bin .add) [.t 46,.c (.int .i64 (1))],
 oM 10 47] [0,1,2,7,8,9,10]))
def l7_1 : Code :=
 .seq (.seq (cR [oM 77 12,
 oM 78 1,
 oA 79 .lenS [.t 78],
 oA 80 (.bin .lss) [.t 77,.t 79]] [1,7,8,9,12,80])
 (.cond (.t 80) (.skip)
 (.exit 2)))
 (.seq (.block 3 (.seq (cR [oM 83 1,
 oM 84 12,
 oA 85 (.idxAddr 4) [.t 83,.t 84],
 oA 86 (.load true 4) [.t 85],
 oA 13 (.new 57 4 [(.int .i64 (0)), (.int .i64 (0)), (.int .i64 (0)), (.int .u8 (0))]) [],
 oN (.store 4) [.t 13,.t 86]] [1,7,8,9,12,13])
 (.seq (.seq (cR [oA 87 (.fieldAddr 1) [.t 13],
 oA 88 (.load false 1) [.t 87],
 oA 89 (.bin .lss) [.t 88,.c (.int .i64 (0))],
 oM 90 89,
 oG (some 91) (.fieldAddr 1) [.t 13] 90 false,
 oG (some 92) (.load false 1) [.t 91] 90 false,
 oG (some 93) (.bin .geq) [.t 92,.c (.int .i64 (60))] 90 false,
 oA 94 .pick [.t 90,.c (.bool true),.t 93]] [1,7,8,9,12,13,94])
 (.cond (.t 94) (.exit 3)
 (.skip)))
 (.seq (cR [oA 95 (.fieldAddr 0) [.t 13],
 oA 96 (.load false 1) [.t 95]] [1,7,8,9,12,13,96])
 (.block 4 (.seq (.seq (cR [oA 98 (.bin .eql) [.t 96,.c (.int .i64 (0))],
 oM 97 98] [1,7,8,9,12,13,96,97])
 (.cond (.t 97) (.skip)
 (.seq (cR [oA 99 (.bin .eql) [.t 96,.c (.int .i64 (1))],
 oM 97 99] [1,7,8,9,12,13,96,97])
 (.cond (.t 97) (.skip)
 (.seq (cR [oA 100 (.bin .eql) [.t 96,.c (.int .i64 (2))],
 oM 97 100] [1,7,8,9,12,13,96,97])
 (.cond (.t 97) (.skip)
 (.seq (cR [oA 101 (.bin .eql) [.t 96,.c (.int .i64 (3))],
 oM 97 101] [1,7,8,9,12,13,96,97])
 (.cond (.t 97) (.skip)
 (cR [oA 102 (.bin .eql) [.t 96,.c (.int .i64 (4))],
 oM 97 102] [1,7,8,9,12,13,96,97])))))))))
 (.cond (.t 97) (.seq (.seq (cR [oM 103 9,
 oA 104 .nilCheck [.t 103],
 oA 105 (.fieldAddr 2) [.t 104],
 oA 106 (.load false 1) [.t 105],
 oA 107 .nilCheck [.t 106],
 oA 108 (.fieldAddr 1) [.t 107],
 oA 109 (.load false 1) [.t 108],
 oA 110 .lenS [.t 109],
 oA 111 (.bin .geq) [.t 110,.c (.int .i64 (64))]] [1,7,8,9,12,13,111])
 (.cond (.t 111) (.seq (cR [oA 6 .move [.c (.bool true)]] [6])
 (.ret))
 (.skip)))
 (.seq (cR [oA 112 (.fieldAddr 2) [.t 13],
 oA 113 (.load false 1) [.t 112],
 oA 114 (.fieldAddr 3) [.t 13],
 oA 115 (.load false 1) [.t 114],
 oA 116 .call [.c (.func (.func 27) #[] #[]),.t 113,.t 115],
 oM 14 116] [1,7,8,9,12,13,14])
 (.seq (cR [oM 117 8,
 oA 118 (.fieldAddr 1) [.t 13],
 oA 119 (.load false 1) [.t 118],
 oM 120 14,
 oA 121 .call [.c (.func (.func 15) #[] #[]),.t 117,.t 119,.t 120],
 oM 15 121] [1,7,8,9,12,13,14,15])
 (.seq (.seq (cR [oM 122 8,
 oA 123 .call [.c (.func (.func 28) #[] #[]),.t 122],
 oM 124 123,
 oG (some 125) .move [.t 15] 124 true,
 oG (some 126) (.bin .neq) [.t 125,.c (.int .i64 (9))] 124 true,
 oA 127 .pick [.t 124,.t 126,.c (.bool false)],
 oM 128 127,
 oG (some 129) .move [.t 8] 128 false,
 oG (some 130) .call [.c (.func (.func 28) #[] #[]),.t 129] 128 false,
 oG (some 131) (.un .not) [.t 130] 128 false,
 oG (some 132) .move [.t 131] 128 false,
 oG (some 133) .move [.t 15] 132 true,
 oG (some 134) (.bin .neq) [.t 133,.c (.int .i64 (0))] 132 true,
 oG (some 135) .pick [.t 132,.t 134,.c (.bool false)] 128 false,
 oA 136 .pick [.t 128,.c (.bool true),.t 135]] [1,7,8,9,12,13,14,15,136])
 (.cond (.t 136) (.seq (cR [oA 6 .move [.c (.bool false)]] [6])
 (.ret))
 (.skip)))
 (.seq (cR [oM 137 15,
 oA 138 (.bin .eql) [.t 137,.c (.int .i64 (0))]] [1,7,8,9,12,13,14,138])
 (.cond (.t 138) (cR [oM 139 9,
 oA 140 (.fieldAddr 1) [.t 13],
 oA 141 (.load false 1) [.t 140],
 oM 142 14,
 oA 143 .call [.c (.func (.func 29) #[] #[]),.t 139,.t 141,.t 142]] [1,7,8,9,12])
 (.skip)))))))
 (.seq (cR [oA 145 (.bin .eql) [.t 96,.c (.int .i64 (6))],
 oM 144 145] [1,7,8,9,12,13,96,144])
 (.cond (.t 144) (.seq (cR [oM 146 8,
 oA 147 .call [.c (.func (.func 28) #[] #[]),.t 146],
 oM 16 147] [1,7,8,9,12,16])
 (.seq (cR [oM 148 8,
 oA 149 .call [.c (.func (.func 30) #[] #[]),.t 148],
 oM 17 149] [1,7,8,9,12,16,17])
 (.block 5 (.seq (cR [oM 151 16,
 oM 150 151] [1,7,8,9,12,17,150])
 (.cond (.t 150) (.seq (cR [oM 152 17,
 oA 153 (.bin .neq) [.t 152,.c (.int .i64 (9))],
 oM 154 153,
 oG (some 155) .move [.t 17] 154 true,
 oG (some 156) (.bin .neq) [.t 155,.c (.int .i64 (0))] 154 true,
 oG (some 157) .move [.t 156] 154 true,
 oG (some 158) .move [.t 9] 157 false,
 oG (some 159) .nilCheck [.t 158] 157 false,
 oG (some 160) (.fieldAddr 2) [.t 159] 157 false,
 oG (some 161) (.load false 1) [.t 160] 157 false,
 oG (some 162) .nilCheck [.t 161] 157 false,
 oG (some 163) (.fieldAddr 1) [.t 162] 157 false,
 oG (some 164) (.load false 1) [.t 163] 157 false,
 oG (some 165) .lenS [.t 164] 157 false,
 oG (some 166) (.bin .gtr) [.t 165,.c (.int .i64 (0))] 157 false,
 oG (some 167) .pick [.t 157,.c (.bool true),.t 166] 154 true,
 oA 168 .pick [.t 154,.t 167,.c (.bool false)]] [1,7,8,9,12,168])
 (.cond (.t 168) (.seq (cR [oA 6 .move [.c (.bool false)]] [6])
 (.ret))
 (.skip)))
 (.seq (cR [oM 170 17,
 oA 171 (.bin .eql) [.t 170,.c (.int .i64 (0))],
 oM 172 171,
 oG (some 173) .move [.t 8] 172 false,
 oG (some 174) .call [.c (.func (.func 28) #[] #[]),.t 173] 172 false,
 oA 175 .pick [.t 172,.c (.bool true),.t 174],
 oM 169 175] [1,7,8,9,12,17,169])
 (.cond (.t 169) (cR [oM 176 9,
 oA 177 .call [.c (.func (.func 31) #[] #[]),.t 176]] [1,7,8,9,12])
 (.seq (cR [oM 179 17,
 oA 180 (.bin .neq) [.t 179,.c (.int .i64 (6))],
 oM 181 180,
 oG (some 182) .move [.t 17] 181 true,
 oG (some 183) (.bin .neq) [.t 182,.c (.int .i64 (7))] 181 true,
 oA 184 .pick [.t 181,.t 183,.c (.bool false)],
 oM 178 184] [1,7,8,9,12,178])
 (.cond (.t 178) (.seq (cR [oA 6 .move [.c (.bool false)]] [6])
 (.ret))
 (.skip))))))))))
 (.seq (cR [oA 186 (.bin .eql) [.t 96,.c (.int .i64 (7))],
 oM 185 186] [1,7,8,9,12,13,185])
 (.cond (.t 185) (.seq (cR [oM 188 8,
 oA 189 (.fieldAddr 1) [.t 13],
 oA 190 (.load false 1) [.t 189],
 oA 191 .call [.c (.func (.func 17) #[] #[]),.t 188,.t 190],
 oM 187 191,
 oA 192 (.extract 0) [.t 187],
 oA 193 (.extract 1) [.t 187],
 oM 18 192,
 oM 19 193] [1,7,8,9,12,13,18,19])
 (.seq (cD [⟨[oM 194 19,
 oA 195 (.bin .eql) [.t 194,.c (.int .i64 (0))],
 oM 196 195,
 oG (some 197) .move [.t 18] 196 true,
 oG (some 198) .toStr [.t 197] 196 true,
 oG (some 199) .move [.t 9] 196 true,
 oG (some 200) (.fieldAddr 1) [.t 13] 196 true,
 oG (some 201) (.load false 1) [.t 200] 196 true],some (oG (some 202) .call [.c (.func (.func 32) #[] #[]),.t 199,.t 201] 196 true),[198],[]⟩,
 ⟨[oG (some 203) (.eqStr true) [.t 198,.t 202] 196 true,
 oA 204 .pick [.t 196,.t 203,.c (.bool false)],
 oM 205 204,
 oG (some 206) .move [.t 19] 205 false,
 oG (some 207) (.bin .neq) [.t 206,.c (.int .i64 (0))] 205 false,
 oG (some 208) .move [.t 207] 205 false,
 oG (some 209) .move [.t 19] 208 true,
 oG (some 210) (.bin .neq) [.t 209,.c (.int .i64 (6))] 208 true,
 oG (some 211) .pick [.t 208,.t 210,.c (.bool false)] 205 false,
 oA 212 .pick [.t 205,.c (.bool true),.t 211]],none,[],[]⟩] [194,195,196,197,198,199,200,201,202,203,204,205,206,207,208,209,210,211,212] [1,7,8,9,12,212])
 (.cond (.t 212) (.seq (cR [oA 6 .move [.c (.bool false)]] [6])
 (.ret))
 (.skip))))
 (.skip))))))))))))
 (cR [oM 81 12,
 oA 82 (.bin .add) [.t 81,.c (.int .i64 (1))],
 oM 12 82] [1,7,8,9,12]))
def f7 : Func := ⟨.seq (cR [oA 6 .move [.c (.bool false)]] [0,1,2])
 (.seq (.seq (cR [oA 20 .call [.c (.func (.func 13) #[] #[])],
 oA 21 (.un .not) [.t 20]] [0,1,2,21])
 (.cond (.t 21) (.seq (cR [oA 6 .move [.c (.bool false)]] [6])
 (.ret))
 (.skip)))
 (.seq (.seq (cR [oM 22 0,
 oA 23 .lenS [.t 22],
 oA 24 (.bin .gtr) [.t 23,.c (.int .i64 (80))],
 oM 25 24,
 oG (some 26) .move [.t 1] 25 false,
 oG (some 27) .lenS [.t 26] 25 false,
 oG (some 28) (.bin .gtr) [.t 27,.c (.int .i64 (80))] 25 false,
 oA 29 .pick [.t 25,.c (.bool true),.t 28],
 oM 30 29,
 oG (some 31) .move [.t 2] 30 false,
 oG (some 32) .lenS [.t 31] 30 false,
 oG (some 33) (.bin .gtr) [.t 32,.c (.int .i64 (20))] 30 false,
 oA 34 .pick [.t 30,.c (.bool true),.t 33]] [0,1,2,34])
 (.cond (.t 34) (.seq (cR [oA 6 .move [.c (.bool true)]] [6])
 (.ret))
 (.skip)))
 (.seq (cR [oA 36 .call [.c (.func (.func 14) #[] #[]),.c (.int .i64 (1024)),.c (.int .i64 (60)),.c (.float .f64 4607182418800017408)],
 oM 35 36,
 oA 37 (.extract 0) [.t 35],
 oA 38 (.extract 1) [.t 35],
 oA 39 (.extract 2) [.t 35],
 oM 7 37,
 oM 8 38,
 oM 9 39] [0,1,2,7,8,9])
 (.seq (.seq (cR [oM 40 8,
 oA 41 (.isNil .ptr false) [.t 40]] [0,1,2,7,8,9,41])
 (.cond (.t 41) (.seq (cR [oA 6 .move [.c (.bool false)]] [6])
 (.ret))
 (.skip)))
 (.seq (.seq (cR [oA 10 .move [.c (.int .i64 (0))]] [0,1,2,7,8,9,10])
 (.block 0 (.loop [0,1,2,7,8,9,10] l7_0)))
 (.seq (cR [oM 73 7,
 oM 74 2,
 oA 75 .call [.c (.func (.func 26) #[] #[]),.t 74],
 oA 76 .call [.c (.func (.func 25) #[] #[]),.t 73,.t 75]] [1,7,8,9])
 (.seq (.seq (cR [oA 12 .move [.c (.int .i64 (0))]] [1,7,8,9,12])
 (.block 2 (.loop [1,7,8,9,12] l7_1)))
 (.seq (cR [oM 213 7,
 oA 214 .call [.c (.func (.func 25) #[] #[]),.t 213,.c (.slice none 0 0)]] [8,9])
 (.seq (cR [oM 215 8,
 oM 216 9,
 oA 217 .call [.c (.func (.func 20) #[] #[]),.t 215,.t 216],
 oM 6 217] [6])
 (.ret)))))))))),
 [.tmp 6], none⟩

def l8_0 : Code :=
 .seq (.seq (cR [oM 26 7,
 oM 27 0,
 oA 28 .lenS [.t 27],
 oA 29 (.bin .lss) [.t 26,.t 28]] [0,3,4,5,6,7,29])
 (.cond (.t 29) (.skip)
 (.exit 0)))
 (.seq (.block 1 (.seq (cR [oM 32 0,
 oM 33 7,
 oA 34 (.idxAddr 1) [.t 32,.t 33],
 oA 35 (.load false 1) [.t 34],
 oA 36 (.toInt .i64) [.t 35],
 oA 37 (.bin .rem) [.t 36,.c (.int .i64 (200))],
 oM 8 37] [0,3,4,5,6,7,8])
 (.seq (cR [oM 39 5,
 oA 40 .nilCheck [.t 39],
 oA 41 (.fieldAddr 2) [.t 40],
 oA 42 (.load false 1) [.t 41],
 oM 43 8,
 oA 44 .call [.c (.func (.func 33) #[] #[]),.t 42,.t 43],
 oM 38 44,
 oA 45 (.extract 0) [.t 38],
 oA 46 (.extract 1) [.t 38],
 oM 9 45,
 oM 10 46] [0,3,4,5,6,7,8,10])
 (.seq (.seq (cR [oM 47 10,
 oA 48 (.un .not) [.t 47],
 oM 49 48,
 oG (some 50) .move [.t 5] 49 true,
 oG (some 51) .nilCheck [.t 50] 49 true,
 oG (some 52) (.fieldAddr 2) [.t 51] 49 true,
 oG (some 53) (.load false 1) [.t 52] 49 true,
 oG (some 54) .nilCheck [.t 53] 49 true,
 oG (some 55) (.fieldAddr 1) [.t 54] 49 true,
 oG (some 56) (.load false 1) [.t 55] 49 true,
 oG (some 57) .lenS [.t 56] 49 true,
 oG (some 58) (.bin .eql) [.t 57,.c (.int .i64 (64))] 49 true,
 oA 59 .pick [.t 49,.t 58,.c (.bool false)]] [0,3,4,5,6,7,8,59])
 (.cond (.t 59) (cR [oM 60 6,
 oA 61 (.bin .add) [.t 60,.c (.int .i64 (1))],
 oM 6 61] [0,3,4,5,6,7,8])
 (.skip)))
 (.seq (cR [oM 62 4,
 oM 63 5,
 oM 64 8,
 oM 65 7,
 oM 66 8,
 oA 67 (.toInt .u8) [.t 66],
 oA 68 (.build [(.int .i64 (0)), (.int .i64 (0)), (.int .i64 (0)), (.int .u8 (0))] [(1, 1), (2, 1), (3, 1)]) [.t 64,.t 65,.t 67],
 oA 69 .call [.c (.func (.func 19) #[] #[]),.t 62,.t 63,.t 68],
 oM 11 69] [0,3,4,5,6,7,11])
 (.seq (cR [oM 70 11,
 oA 71 (.bin .leq) [.t 70,.c (.int .i64 (0))]] [0,3,4,5,6,7,11,71])
 (.cond (.t 71) (.seq (cR [oM 72 11,
 oA 73 (.bin .lss) [.t 72,.c (.int .i64 (0))],
 oM 2 73] [2])
 (.ret))
 (.skip))))))))
 (cR [oM 30 7,
 oA 31 (.bin .add) [.t 30,.c (.int .i64 (1))],
 oM 7 31] [0,3,4,5,6,7]))
def f8 : Func := ⟨.seq (cR [oA 2 .move [.c (.bool false)]] [0])
 (.seq (.seq (cR [oA 14 .call [.c (.func (.func 13) #[] #[])],
 oA 15 (.un .not) [.t 14]] [0,15])
 (.cond (.t 15) (.seq (cR [oA 2 .move [.c (.bool false)]] [2])
 (.ret))
 (.skip)))
 (.seq (.seq (cR [oM 16 0,
 oA 17 .lenS [.t 16],
 oA 18 (.bin .gtr) [.t 17,.c (.int .i64 (200))]] [0,18])
 (.cond (.t 18) (.seq (cR [oA 2 .move [.c (.bool true)]] [2])
 (.ret))
 (.skip)))
 (.seq (cR [oA 20 .call [.c (.func (.func 14) #[] #[]),.c (.int .i64 (1024)),.c (.int .i64 (200)),.c (.float .f64 4607182418800017408)],
 oM 19 20,
 oA 21 (.extract 0) [.t 19],
 oA 22 (.extract 1) [.t 19],
 oA 23 (.extract 2) [.t 19],
 oM 3 21,
 oM 4 22,
 oM 5 23] [0,3,4,5])
 (.seq (.seq (cR [oM 24 4,
 oA 25 (.isNil .ptr false) [.t 24]] [0,3,4,5,25])
 (.cond (.t 25) (.seq (cR [oA 2 .move [.c (.bool false)]] [2])
 (.ret))
 (.skip)))
 (.seq (cR [oA 6 .move [.c (.int .i64 (0))]] [0,3,4,5,6])
 (.seq (.seq (cR [oA 7 .move [.c (.int .i64 (0))]] [0,3,4,5,6,7])
 (.block 0 (.loop [0,3,4,5,6,7] l8_0)))
 (.seq (.seq (cR [oM 74 4,
 oA 75 .call [.c (.func (.func 22) #[] #[]),.t 74],
 oA 76 .call [.c (.func (.func 24) #[] #[]),.t 75],
 oA 77 (.field 0 false 1) [.t 76],
 oM 78 6,
 oA 79 (.bin .add) [.c (.int .i64 (1)),.t 78],
 oA 80 (.bin .neq) [.t 77,.t 79],
 oM 81 80,
 oG (some 82) .move [.t 4] 81 false,
 oG (some 83) .move [.t 5] 81 false,
 oG (some 84) .call [.c (.func (.func 20) #[] #[]),.t 82,.t 83] 81 false,
 oG (some 85) (.un .not) [.t 84] 81 false,
 oA 86 .pick [.t 81,.c (.bool true),.t 85]] [3,5,86])
 (.cond (.t 86) (.seq (cR [oA 2 .move [.c (.bool false)]] [2])
 (.ret))
 (.skip)))
 (.seq (cR [oM 87 3,
 oA 88 .call [.c (.func (.func 34) #[] #[]),.t 87,.c (.slice none 0 0)]] [3,5])
 (.seq (cR [oM 90 3,
 oA 91 .call [.c (.func (.func 21) #[] #[]),.t 90],
 oM 89 91,
 oA 92 (.extract 0) [.t 89],
 oA 93 (.extract 1) [.t 89],
 oM 12 92,
 oM 13 93] [5,12,13])
 (.seq (.seq (cR [oM 94 13,
 oA 95 (.bin .neq) [.t 94,.c (.int .i64 (0))],
 oM 96 95,
 oG (some 97) .move [.t 12] 96 false,
 oG (some 98) (.isNil .ptr false) [.t 97] 96 false,
 oA 99 .pick [.t 96,.c (.bool true),.t 98]] [5,12,99])
 (.cond (.t 99) (.seq (cR [oA 2 .move [.c (.bool false)]] [2])
 (.ret))
 (.skip)))
 (.seq (cR [oM 100 5,
 oA 101 .nilCheck [.t 100],
 oA 102 (.fieldAddr 2) [.t 101],
 oA 103 (.load false 1) [.t 102],
 oA 104 .nilCheck [.t 103],
 oA 105 (.fieldAddr 1) [.t 104],
 oN (.store 1) [.t 105,.c (.slice none 0 0)]] [5,12])
 (.seq (cR [oM 106 12,
 oM 107 5,
 oA 108 .call [.c (.func (.func 20) #[] #[]),.t 106,.t 107],
 oM 2 108] [2])
 (.ret))))))))))))),
 [.tmp 2], none⟩

def l9_0 : Code :=
 .seq (.seq (cR [oM 31 10,
 oM 32 0,
 oA 33 .lenS [.t 32],
 oA 34 (.bin .lss) [.t 31,.t 33]] [0,7,8,9,10,34])
 (.cond (.t 34) (.skip)
 (.exit 0)))
 (.seq (.block 1 (.seq (.seq (cR [oM 37 0,
 oM 38 10,
 oA 39 (.idxAddr 4) [.t 37,.t 38],
 oA 40 (.fieldAddr 0) [.t 39],
 oA 41 (.load false 1) [.t 40],
 oA 42 (.bin .eql) [.t 41,.c (.int .i64 (8))]] [0,7,8,9,10,42])
 (.cond (.t 42) (.seq (cR [oM 44 7,
 oA 45 .call [.c (.func (.func 21) #[] #[]),.t 44],
 oM 43 45,
 oA 46 (.extract 0) [.t 43],
 oA 47 (.extract 1) [.t 43],
 oM 11 46,
 oM 12 47] [0,7,9,10,11,12])
 (.seq (.seq (cR [oM 48 12,
 oA 49 (.bin .neq) [.t 48,.c (.int .i64 (0))],
 oM 50 49,
 oG (some 51) .move [.t 11] 50 false,
 oG (some 52) (.isNil .ptr false) [.t 51] 50 false,
 oA 53 .pick [.t 50,.c (.bool true),.t 52]] [0,7,9,10,11,53])
 (.cond (.t 53) (.seq (cR [oA 6 .move [.c (.bool false)]] [6])
 (.ret))
 (.skip)))
 (cD [⟨[oM 54 9,
 oA 55 .nilCheck [.t 54],
 oA 56 (.fieldAddr 2) [.t 55],
 oA 57 (.load false 1) [.t 56],
 oM 58 11,
 oM 8 58,
 oA 59 .nilCheck [.t 57],
 oA 60 (.fieldAddr 1) [.t 59]],some (oN (.store 1) [.t 60,.c (.slice none 0 0)]),[],[]⟩] [54,55,56,57,58,8,59,60] [0,7,8,9,10])))
 (.skip)))
 (.seq (cR [oM 61 8,
 oM 62 9,
 oM 63 0,
 oM 64 10,
 oA 65 (.idxAddr 4) [.t 63,.t 64],
 oA 66 (.load true 4) [.t 65],
 oA 67 .call [.c (.func (.func 19) #[] #[]),.t 61,.t 62,.t 66],
 oM 13 67] [0,7,8,9,10,13])
 (.seq (cR [oM 68 13,
 oA 69 (.bin .eql) [.t 68,.c (.int .i64 (0))],
 oM 70 69,
 oG (some 71) .move [.t 13] 70 false,
 oG (some 72) (.bin .lss) [.t 71,.c (.int .i64 (0))] 70 false,
 oG (some 73) .move [.t 72] 70 false,
 oG (some 74) .move [.t 0] 73 true,
 oG (some 75) .move [.t 10] 73 true,
 oG (some 76) (.idxAddr 4) [.t 74,.t 75] 73 true,
 oG (some 77) (.fieldAddr 0) [.t 76] 73 true,
 oG (some 78) (.load false 1) [.t 77] 73 true,
 oG (some 79) (.bin .eql) [.t 78,.c (.int .i64 (5))] 73 true,
 oG (some 80) .pick [.t 73,.t 79,.c (.bool false)] 70 false,
 oA 81 .pick [.t 70,.c (.bool true),.t 80]] [0,7,8,9,10,13,81])
 (.cond (.t 81) (.seq (cR [oM 82 13,
 oA 83 (.bin .lss) [.t 82,.c (.int .i64 (0))],
 oM 6 83] [6])
 (.ret))
 (.skip))))))
 (cR [oM 35 10,
 oA 36 (.bin .add) [.t 35,.c (.int .i64 (1))],
 oM 10 36] [0,7,8,9,10]))
def f9 : Func := ⟨.seq (cR [oA 6 .move [.c (.bool false)]] [0,1,2])
 (.seq (.seq (cR [oA 14 .call [.c (.func (.func 13) #[] #[])],
 oA 15 (.un .not) [.t 14]] [0,1,2,15])
 (.cond (.t 15) (.seq (cR [oA 6 .move [.c (.bool false)]] [6])
 (.ret))
 (.skip)))
 (.seq (.seq (cR [oM 16 0,
 oA 17 .lenS [.t 16],
 oA 18 (.bin .gtr) [.t 17,.c (.int .i64 (150))]] [0,1,2,18])
 (.cond (.t 18) (.seq (cR [oA 6 .move [.c (.bool true)]] [6])
 (.ret))
 (.skip)))
 (.seq (cR [oM 20 1,
 oA 21 (.toInt .i64) [.t 20],
 oA 22 (.bin .rem) [.t 21,.c (.int .i64 (512))],
 oA 23 (.bin .add) [.c (.int .i64 (1)),.t 22],
 oM 24 2,
 oA 25 .call [.c (.func (.func 14) #[] #[]),.c (.int .i64 (1024)),.t 23,.t 24],
 oM 19 25,
 oA 26 (.extract 0) [.t 19],
 oA 27 (.extract 1) [.t 19],
 oA 28 (.extract 2) [.t 19],
 oM 7 26,
 oM 8 27,
 oM 9 28] [0,7,8,9])
 (.seq (.seq (cR [oM 29 8,
 oA 30 (.isNil .ptr false) [.t 29]] [0,7,8,9,30])
 (.cond (.t 30) (.seq (cR [oA 6 .move [.c (.bool false)]] [6])
 (.ret))
 (.skip)))
 (.seq (.seq (cR [oA 10 .move [.c (.int .i64 (0))]] [0,7,8,9,10])
 (.block 0 (.loop [0,7,8,9,10] l9_0)))
 (.seq (cR [oM 84 8,
 oM 85 9,
 oA 86 .call [.c (.func (.func 20) #[] #[]),.t 84,.t 85],
 oM 87 86,
 oG (some 88) .move [.t 8] 87 true,
 oG (some 89) .call [.c (.func (.func 22) #[] #[]),.t 88] 87 true,
 oG (some 90) .call [.c (.func (.func 35) #[] #[]),.t 89,.c (.int .i64 (1024))] 87 true,
 oA 91 .pick [.t 87,.t 90,.c (.bool false)],
 oM 6 91] [6])
 (.ret))))))),
 [.tmp 6], none⟩

def l10_0 : Code :=
 .seq (.seq (cR [oM 30 9,
 oM 31 0,
 oA 32 .lenS [.t 31],
 oA 33 (.bin .lss) [.t 30,.t 32]] [0,5,6,7,8,9,33])
 (.cond (.t 33) (.skip)
 (.exit 0)))
 (.seq (.block 1 (.seq (cR [oM 36 7,
 oM 37 8,
 oM 38 0,
 oM 39 9,
 oA 40 (.idxAddr 4) [.t 38,.t 39],
 oA 41 (.load true 4) [.t 40],
 oA 42 .call [.c (.func (.func 19) #[] #[]),.t 36,.t 37,.t 41],
 oM 10 42] [0,5,6,7,8,9,10])
 (.seq (.seq (cR [oM 43 10,
 oA 44 (.bin .eql) [.t 43,.c (.int .i64 (0))]] [0,5,6,7,8,9,10,44])
 (.cond (.t 44) (.seq (cR [oA 4 .move [.c (.bool false)]] [4])
 (.ret))
 (.skip)))
 (.seq (.seq (cR [oM 45 10,
 oA 46 (.bin .lss) [.t 45,.c (.int .i64 (0))],
 oM 47 46,
 oG (some 48) .move [.t 0] 47 true,
 oG (some 49) .move [.t 9] 47 true,
 oG (some 50) (.idxAddr 4) [.t 48,.t 49] 47 true,
 oG (some 51) (.fieldAddr 0) [.t 50] 47 true,
 oG (some 52) (.load false 1) [.t 51] 47 true,
 oG (some 53) (.bin .eql) [.t 52,.c (.int .i64 (5))] 47 true,
 oA 54 .pick [.t 47,.t 53,.c (.bool false)]] [0,5,6,7,8,9,10,54])
 (.cond (.t 54) (.seq (cR [oA 4 .move [.c (.bool true)]] [4])
 (.ret))
 (.skip)))
 (.seq (cR [oM 55 10,
 oA 56 (.bin .lss) [.t 55,.c (.int .i64 (0))],
 oM 57 56,
 oG (some 58) .move [.t 7] 57 true,
 oG (some 59) .move [.t 8] 57 true,
 oG (some 60) .call [.c (.func (.func 20) #[] #[]),.t 58,.t 59] 57 true,
 oG (some 61) (.un .not) [.t 60] 57 true,
 oG (some 62) .move [.t 61] 57 true,
 oG (some 63) .move [.t 7] 62 false,
 oG (some 64) .call [.c (.func (.func 22) #[] #[]),.t 63] 62 false,
 oG (some 65) .move [.t 5] 62 false,
 oG (some 66) .call [.c (.func (.func 35) #[] #[]),.t 64,.t 65] 62 false,
 oG (some 67) (.un .not) [.t 66] 62 false,
 oG (some 68) .pick [.t 62,.c (.bool true),.t 67] 57 true,
 oA 69 .pick [.t 57,.t 68,.c (.bool false)]] [0,5,6,7,8,9,69])
 (.cond (.t 69) (.seq (cR [oA 4 .move [.c (.bool false)]] [4])
 (.ret))
 (.skip)))))))
 (cR [oM 34 9,
 oA 35 (.bin .add) [.t 34,.c (.int .i64 (1))],
 oM 9 35] [0,5,6,7,8,9]))
def f10 : Func := ⟨.seq (cR [oA 4 .move [.c (.bool false)]] [0,1])
 (.seq (.seq (cR [oA 13 .call [.c (.func (.func 13) #[] #[])],
 oA 14 (.un .not) [.t 13]] [0,1,14])
 (.cond (.t 14) (.seq (cR [oA 4 .move [.c (.bool false)]] [4])
 (.ret))
 (.skip)))
 (.seq (.seq (cR [oM 15 0,
 oA 16 .lenS [.t 15],
 oA 17 (.bin .gtr) [.t 16,.c (.int .i64 (150))]] [0,1,17])
 (.cond (.t 17) (.seq (cR [oA 4 .move [.c (.bool true)]] [4])
 (.ret))
 (.skip)))
 (.seq (cR [oM 18 1,
 oA 19 (.toInt .i64) [.t 18],
 oA 20 (.bin .rem) [.t 19,.c (.int .i64 (64))],
 oA 21 (.bin .add) [.c (.int .i64 (64)),.t 20],
 oM 5 21] [0,5])
 (.seq (cR [oM 23 5,
 oA 24 .call [.c (.func (.func 14) #[] #[]),.t 23,.c (.int .i64 (120)),.c (.float .f64 0)],
 oM 22 24,
 oA 25 (.extract 0) [.t 22],
 oA 26 (.extract 1) [.t 22],
 oA 27 (.extract 2) [.t 22],
 oM 6 25,
 oM 7 26,
 oM 8 27] [0,5,6,7,8])
 (.seq (.seq (cR [oM 28 7,
 oA 29 (.isNil .ptr false) [.t 28]] [0,5,6,7,8,29])
 (.cond (.t 29) (.seq (cR [oA 4 .move [.c (.bool false)]] [4])
 (.ret))
 (.skip)))
 (.seq (.seq (cR [oA 9 .move [.c (.int .i64 (0))]] [0,5,6,7,8,9])
 (.block 0 (.loop [0,5,6,7,8,9] l10_0)))
 (.seq (.seq (cR [oM 70 7,
 oM 71 8,
 oA 72 .call [.c (.func (.func 20) #[] #[]),.t 70,.t 71],
 oA 73 (.un .not) [.t 72]] [5,6,8,73])
 (.cond (.t 73) (.seq (cR [oA 4 .move [.c (.bool false)]] [4])
 (.ret))
 (.skip)))
 (.seq (cR [oM 75 6,
 oA 76 .call [.c (.func (.func 21) #[] #[]),.t 75],
 oM 74 76,
 oA 77 (.extract 0) [.t 74],
 oA 78 (.extract 1) [.t 74],
 oM 11 77,
 oM 12 78] [5,8,11,12])
 (.seq (.seq (cR [oM 79 12,
 oA 80 (.bin .neq) [.t 79,.c (.int .i64 (0))],
 oM 81 80,
 oG (some 82) .move [.t 11] 81 false,
 oG (some 83) (.isNil .ptr false) [.t 82] 81 false,
 oA 84 .pick [.t 81,.c (.bool true),.t 83]] [5,8,11,84])
 (.cond (.t 84) (.seq (cR [oA 4 .move [.c (.bool false)]] [4])
 (.ret))
 (.skip)))
 (.seq (cR [oM 85 8,
 oA 86 .nilCheck [.t 85],
 oA 87 (.fieldAddr 2) [.t 86],
 oA 88 (.load false 1) [.t 87],
 oA 89 .nilCheck [.t 88],
 oA 90 (.fieldAddr 1) [.t 89],
 oN (.store 1) [.t 90,.c (.slice none 0 0)]] [5,8,11])
 (.seq (cR [oM 91 11,
 oM 92 8,
 oA 93 .call [.c (.func (.func 20) #[] #[]),.t 91,.t 92],
 oM 94 93,
 oG (some 95) .move [.t 11] 94 true,
 oG (some 96) .call [.c (.func (.func 22) #[] #[]),.t 95] 94 true,
 oG (some 97) .move [.t 5] 94 true,
 oG (some 98) .call [.c (.func (.func 35) #[] #[]),.t 96,.t 97] 94 true,
 oA 99 .pick [.t 94,.t 98,.c (.bool false)],
 oM 4 99] [4])
 (.ret)))))))))))),
 [.tmp 4], none⟩

def f11 : Func := ⟨.seq (cR [oA 0 .move [.c (.bool false)]] [])
 (.seq (cR [oA 7 .call [.c (.func (.func 14) #[] #[]),.c (.int .i64 (64)),.c (.int .i64 (20)),.c (.float .f64 4607182418800017408)],
 oM 6 7,
 oA 8 (.extract 0) [.t 6],
 oA 9 (.extract 1) [.t 6],
 oA 10 (.extract 2) [.t 6],
 oM 1 8,
 oM 2 9,
 oM 3 10] [2])
 (.seq (.seq (cR [oM 11 2,
 oA 12 (.isNil .ptr false) [.t 11],
 oM 13 12,
 oG (some 14) .move [.t 2] 13 false,
 oG (some 15) (.newSlice 5 1 1 [(.int .u8 (0))]) [.c (.int .i64 (128)),.c (.int .i64 (128))] 13 false,
 oG (some 16) .call [.c (.func (.func 15) #[] #[]),.t 14,.c (.int .i64 (3)),.t 15] 13 false,
 oG (some 17) (.bin .neq) [.t 16,.c (.int .i64 (0))] 13 false,
 oA 18 .pick [.t 13,.c (.bool true),.t 17],
 oM 19 18,
 oG (some 20) .move [.t 2] 19 false,
 oG (some 21) .call [.c (.func (.func 30) #[] #[]),.t 20] 19 false,
 oG (some 22) (.bin .neq) [.t 21,.c (.int .i64 (0))] 19 false,
 oA 23 .pick [.t 19,.c (.bool true),.t 22]] [2,23])
 (.cond (.t 23) (.seq (cR [oA 0 .move [.c (.bool false)]] [0])
 (.ret))
 (.skip)))
 (.seq (cR [oM 25 2,
 oA 26 .call [.c (.func (.func 36) #[] #[]),.t 25],
 oM 24 26,
 oA 27 (.extract 0) [.t 24],
 oA 28 (.extract 1) [.t 24],
 oA 4 (.new 27 5 [(.slice none 0 0), (.int .i64 (0)), (.int .i64 (0)), (.bool false), (.bool false)]) [],
 oN (.store 5) [.t 4,.t 27],
 oM 5 28] [4,5])
 (.seq (cR [oM 29 5,
 oA 30 (.bin .eql) [.t 29,.c (.int .i64 (0))],
 oM 31 30,
 oG (some 32) (.fieldAddr 0) [.t 4] 31 true,
 oG (some 33) (.load false 1) [.t 32] 31 true,
 oG (some 34) .lenS [.t 33] 31 true,
 oG (some 35) (.bin .eql) [.t 34,.c (.int .i64 (0))] 31 true,
 oA 36 .pick [.t 31,.t 35,.c (.bool false)],
 oM 37 36,
 oG (some 38) (.fieldAddr 1) [.t 4] 37 true,
 oG (some 39) (.load false 1) [.t 38] 37 true,
 oG (some 40) (.bin .eql) [.t 39,.c (.int .i64 (1))] 37 true,
 oA 41 .pick [.t 37,.t 40,.c (.bool false)],
 oM 42 41,
 oG (some 43) (.fieldAddr 2) [.t 4] 42 true,
 oG (some 44) (.load false 1) [.t 43] 42 true,
 oG (some 45) (.bin .geq) [.t 44,.c (.int .i64 (1))] 42 true,
 oA 46 .pick [.t 42,.t 45,.c (.bool false)],
 oM 47 46,
 oG (some 48) (.fieldAddr 3) [.t 4] 47 true,
 oG (some 49) (.load true 2) [.t 48] 47 true,
 oG (some 50) (.build [(.bool false), (.bool false)] [(0, 1), (1, 1)]) [.c (.bool true),.c (.bool true)] 47 true,
 oG (some 51) (.eqAgg true 2 false) [.t 49,.t 50] 47 true,
 oA 52 .pick [.t 47,.t 51,.c (.bool false)],
 oM 53 52,
 oG (some 54) (.load true 5) [.t 4] 53 true,
 oG (some 55) .call [.c (.func (.func 12) #[] #[]),.t 54,.c (.int .i64 (3))] 53 true,
 oA 56 .pick [.t 53,.t 55,.c (.bool false)],
 oM 0 56] [0])
 (.ret))))),
 [.tmp 0], none⟩

def l12_0 : Code :=
 .seq (cR [oA 11 (.bin .lss) [.t 10,.t 9]] [1,8,9,10,11])
 (.seq (.cond (.t 11) (.skip)
 (.exit 0))
 (.seq (.block 1 (.seq (cR [oA 12 (.idxAddr 2) [.t 8,.t 10],
 oA 13 (.load true 2) [.t 12],
 oA 6 (.new 31 2 [(.int .i64 (0)), (.int .i64 (0))]) [],
 oN (.store 2) [.t 6,.t 13]] [1,6,8,9,10])
 (.seq (cR [oM 14 1,
 oA 15 (.fieldAddr 0) [.t 6],
 oA 16 (.load false 1) [.t 15],
 oA 17 (.bin .geq) [.t 14,.t 16],
 oM 18 17,
 oG (some 19) .move [.t 1] 18 true,
 oG (some 20) (.fieldAddr 1) [.t 6] 18 true,
 oG (some 21) (.load false 1) [.t 20] 18 true,
 oG (some 22) (.bin .lss) [.t 19,.t 21] 18 true,
 oA 23 .pick [.t 18,.t 22,.c (.bool false)]] [1,8,9,10,23])
 (.cond (.t 23) (.seq (cR [oA 4 .move [.c (.bool false)]] [4])
 (.ret))
 (.skip)))))
 (cR [oA 24 (.bin .add) [.t 10,.c (.int .i64 (1))],
 oM 10 24] [1,8,9,10])))
def f12 : Func := ⟨.seq (cR [oA 2 (.box 27 5) [.t 0],
 oA 4 .move [.c (.bool false)]] [1,2])
 (.seq (.seq (cR [oA 7 (.fieldAddr 0) [.t 2],
 oA 8 (.load false 1) [.t 7],
 oA 9 .lenS [.t 8],
 oA 10 .move [.c (.int .i64 (0))]] [1,8,9,10])
 (.block 0 (.loop [1,8,9,10] l12_0)))
 (.seq (cR [oA 4 .move [.c (.bool true)]] [4])
 (.ret))),
 [.tmp 4], none⟩

def f13 : Func := ⟨.seq (cR [oA 0 .move [.c (.bool false)]] [])
 (.seq (cR [oA 13 .call [.c (.func (.func 14) #[] #[]),.c (.int .i64 (64)),.c (.int .i64 (20)),.c (.float .f64 4607182418800017408)],
 oM 12 13,
 oA 14 (.extract 0) [.t 12],
 oA 15 (.extract 1) [.t 12],
 oA 16 (.extract 2) [.t 12],
 oM 1 14,
 oM 2 15,
 oM 3 16] [1,2])
 (.seq (.seq (cR [oM 17 2,
 oA 18 (.isNil .ptr false) [.t 17]] [1,2,18])
 (.cond (.t 18) (.seq (cR [oA 0 .move [.c (.bool false)]] [0])
 (.ret))
 (.skip)))
 (.seq (cR [oM 19 2,
 oA 20 .call [.c (.func (.func 27) #[] #[]),.c (.int .i64 (5)),.c (.int .u8 (7))],
 oA 21 .call [.c (.func (.func 15) #[] #[]),.t 19,.c (.int .i64 (3)),.t 20],
 oM 4 21] [1,2,4])
 (.seq (cR [oM 22 2,
 oA 23 .call [.c (.func (.func 30) #[] #[]),.t 22],
 oM 5 23] [1,2,4,5])
 (.seq (cR [oM 25 1,
 oA 26 .call [.c (.func (.func 21) #[] #[]),.t 25],
 oM 24 26,
 oA 27 (.extract 0) [.t 24],
 oA 28 (.extract 1) [.t 24],
 oM 6 27,
 oM 7 28] [2,4,5,6,7])
 (.seq (.seq (cR [oM 29 4,
 oA 30 (.bin .neq) [.t 29,.c (.int .i64 (0))],
 oM 31 30,
 oG (some 32) .move [.t 5] 31 false,
 oG (some 33) (.bin .neq) [.t 32,.c (.int .i64 (0))] 31 false,
 oA 34 .pick [.t 31,.c (.bool true),.t 33],
 oM 35 34,
 oG (some 36) .move [.t 7] 35 false,
 oG (some 37) (.bin .neq) [.t 36,.c (.int .i64 (0))] 35 false,
 oA 38 .pick [.t 35,.c (.bool true),.t 37],
 oM 39 38,
 oG (some 40) .move [.t 6] 39 false,
 oG (some 41) (.isNil .ptr false) [.t 40] 39 false,
 oA 42 .pick [.t 39,.c (.bool true),.t 41]] [2,6,42])
 (.cond (.t 42) (.seq (cR [oA 0 .move [.c (.bool false)]] [0])
 (.ret))
 (.skip)))
 (.seq (cR [oM 44 6,
 oA 45 .call [.c (.func (.func 17) #[] #[]),.t 44,.c (.int .i64 (3))],
 oM 43 45,
 oA 46 (.extract 0) [.t 43],
 oA 47 (.extract 1) [.t 43],
 oM 8 46,
 oM 9 47] [2,6,8,9])
 (.seq (cR [oM 49 6,
 oA 50 .call [.c (.func (.func 17) #[] #[]),.t 49,.c (.int .i64 (4))],
 oM 48 50,
 oA 51 (.extract 0) [.t 48],
 oA 52 (.extract 1) [.t 48],
 oM 10 51,
 oM 11 52] [2,6,8,9,10,11])
 (.seq (cD [⟨[oM 53 9,
 oA 54 (.bin .eql) [.t 53,.c (.int .i64 (0))],
 oM 55 54,
 oG (some 56) .move [.t 11] 55 true,
 oG (some 57) (.bin .eql) [.t 56,.c (.int .i64 (0))] 55 true,
 oA 58 .pick [.t 55,.t 57,.c (.bool false)],
 oM 59 58,
 oG (some 60) .move [.t 8] 59 true,
 oG (some 61) .toStr [.t 60] 59 true],some (oG (some 62) .call [.c (.func (.func 27) #[] #[]),.c (.int .i64 (5)),.c (.int .u8 (7))] 59 true),[61],[]⟩,
 ⟨[oG (some 63) .toStr [.t 62] 59 true,
 oG (some 64) (.eqStr false) [.t 61,.t 63] 59 true,
 oA 65 .pick [.t 59,.t 64,.c (.bool false)],
 oM 66 65,
 oG (some 67) .move [.t 10] 66 true,
 oG (some 68) .toStr [.t 67] 66 true],some (oG (some 69) (.newSlice 5 1 1 [(.int .u8 (0))]) [.c (.int .i64 (128)),.c (.int .i64 (128))] 66 true),[68],[]⟩,
 ⟨[oG (some 70) .toStr [.t 69] 66 true,
 oG (some 71) (.eqStr false) [.t 68,.t 70] 66 true,
 oA 72 .pick [.t 66,.t 71,.c (.bool false)],
 oM 73 72,
 oG (some 74) .move [.t 6] 73 true],some (oG (some 75) .call [.c (.func (.func 37) #[] #[]),.t 74] 73 true),[],[]⟩,
 ⟨[oG (some 76) (.bin .eql) [.t 75,.c (.int .i64 (20))] 73 true,
 oA 77 .pick [.t 73,.t 76,.c (.bool false)],
 oM 78 77,
 oG (some 79) .move [.t 2] 78 true],some (oG (some 80) .call [.c (.func (.func 16) #[] #[]),.t 79] 78 true),[],[]⟩,
 ⟨[oG (some 81) (.bin .eql) [.t 80,.c (.int .i64 (0))] 78 true,
 oA 82 .pick [.t 78,.t 81,.c (.bool false)],
 oM 0 82],none,[],[]⟩] [53,54,55,56,57,58,59,60,61,62,63,64,65,66,67,68,69,70,71,72,73,74,75,76,77,78,79,80,81,82,0] [0])
 (.ret)))))))))),
 [.tmp 0], none⟩

def f14 : Func := ⟨.seq (cR [oA 6 .move [.c (.pointer none)],
 oA 7 .move [.c (.pointer none)],
 oA 8 .move [.c (.pointer none)]] [0,1,2])
 (.seq (cR [oM 14 0,
 oA 15 .call [.c (.func (.func 38) #[] #[]),.t 14],
 oM 13 15,
 oA 16 (.extract 0) [.t 13],
 oA 17 (.extract 1) [.t 13],
 oM 9 16,
 oM 10 17] [1,2,9,10])
 (.seq (.seq (cR [oM 18 10,
 oA 19 (.bin .neq) [.t 18,.c (.int .i64 (0))],
 oM 20 19,
 oG (some 21) .move [.t 9] 20 false,
 oG (some 22) .move [.t 1] 20 false,
 oG (some 23) .move [.t 2] 20 false,
 oG (some 24) .call [.c (.func (.func 39) #[] #[]),.t 21,.t 22,.t 23] 20 false,
 oG (some 25) (.bin .neq) [.t 24,.c (.int .i64 (0))] 20 false,
 oA 26 .pick [.t 20,.c (.bool true),.t 25]] [1,9,26])
 (.cond (.t 26) (.seq (cR [oA 6 .move [.c (.pointer none)],
 oA 7 .move [.c (.pointer none)],
 oA 8 .move [.c (.pointer none)]] [6,7,8])
 (.ret))
 (.skip)))
 (.seq (cR [oM 28 9,
 oA 29 .call [.c (.func (.func 21) #[] #[]),.t 28],
 oM 27 29,
 oA 30 (.extract 0) [.t 27],
 oA 31 (.extract 1) [.t 27],
 oM 11 30,
 oM 12 31] [1,9,11,12])
 (.seq (.seq (cR [oM 32 12,
 oA 33 (.bin .neq) [.t 32,.c (.int .i64 (0))]] [1,9,11,33])
 (.cond (.t 33) (.seq (cR [oA 6 .move [.c (.pointer none)],
 oA 7 .move [.c (.pointer none)],
 oA 8 .move [.c (.pointer none)]] [6,7,8])
 (.ret))
 (.skip)))
 (.seq (cR [oM 34 9,
 oM 35 11,
 oM 36 1,
 oA 37 .call [.c (.func (.func 40) #[] #[]),.t 36],
 oM 6 34,
 oM 7 35,
 oM 8 37] [6,7,8])
 (.ret)))))),
 [.tmp 6, .tmp 7, .tmp 8], none⟩

def f15 : Func := ⟨.seq (cR [oA 6 .move [.c (.int .i64 (0))]] [0,1,2])
 (.seq (.block 0 (.seq (cR [oM 9 0,
 oA 10 (.isNil .ptr false) [.t 9],
 oM 11 10,
 oG (some 12) .move [.t 0] 11 false,
 oG (some 13) .move [.t 1] 11 false,
 oG (some 14) .call [.c (.func (.func 41) #[] #[]),.t 12,.t 13,.c (.int .i64 (1))] 11 false,
 oG (some 15) (.un .not) [.t 14] 11 false,
 oA 16 .pick [.t 11,.c (.bool true),.t 15],
 oM 17 16,
 oG (some 18) .move [.t 2] 17 false,
 oG (some 19) .lenS [.t 18] 17 false,
 oG (some 20) (.bin .neq) [.t 19,.c (.int .i64 (128))] 17 false,
 oA 21 .pick [.t 17,.c (.bool true),.t 20],
 oM 8 21] [0,1,2,8])
 (.cond (.t 8) (.seq (cR [oA 6 .move [.c (.int .i64 (1))]] [6])
 (.ret))
 (.seq (cR [oM 23 0,
 oA 24 .call [.c (.func (.func 28) #[] #[]),.t 23],
 oM 22 24] [0,1,2,22])
 (.cond (.t 22) (.seq (cR [oA 6 .move [.c (.int .i64 (9))]] [6])
 (.ret))
 (.skip))))))
 (.seq (.seq (cR [oM 25 0,
 oA 26 .nilCheck [.t 25],
 oA 27 (.fieldAddr 1) [.t 26],
 oA 28 (.load false 1) [.t 27],
 oM 29 1,
 oA 30 (.buildSlice 3 1 1 [(.int .i64 (0))] [(0, 1)]) [.t 29],
 oA 31 .call [.c (.func (.func 42) #[] #[]),.t 28,.t 30],
 oA 32 (.un .not) [.t 31]] [0,1,2,32])
 (.cond (.t 32) (.seq (cR [oM 33 0,
 oA 34 .call [.c (.func (.func 30) #[] #[]),.t 33],
 oM 7 34] [0,1,2,7])
 (.seq (cR [oM 35 7,
 oA 36 (.bin .neq) [.t 35,.c (.int .i64 (0))]] [0,1,2,7,36])
 (.cond (.t 36) (.seq (cR [oM 37 7,
 oM 6 37] [6])
 (.ret))
 (.skip))))
 (.skip)))
 (.seq (cR [oM 38 0,
 oA 39 .nilCheck [.t 38],
 oA 40 (.fieldAddr 1) [.t 39],
 oA 41 (.load false 1) [.t 40],
 oM 42 1,
 oM 43 2,
 oA 44 .call [.c (.func (.func 43) #[] #[]),.t 41,.t 42,.t 43]] [])
 (.seq (cR [oA 6 .move [.c (.int .i64 (0))]] [6])
 (.ret))))),
 [.tmp 6], none⟩

def f16 : Func := ⟨.seq (cR [oA 2 .move [.c (.int .i64 (0))]] [0])
 (.seq (.seq (cR [oM 3 0,
 oA 4 (.isNil .ptr false) [.t 3]] [0,4])
 (.cond (.t 4) (.seq (cR [oA 2 .move [.c (.int .i64 (0))]] [2])
 (.ret))
 (.skip)))
 (.seq (cR [oM 5 0,
 oA 6 .nilCheck [.t 5],
 oA 7 (.fieldAddr 1) [.t 6],
 oA 8 (.load false 1) [.t 7],
 oA 9 .call [.c (.func (.func 44) #[] #[]),.t 8],
 oM 2 9] [2])
 (.ret))),
 [.tmp 2], none⟩

def f17 : Func := ⟨.seq (cR [oA 4 .move [.c (.slice none 0 0)],
 oA 5 .move [.c (.int .i64 (0))]] [0,1])
 (.seq (.seq (cR [oM 13 0,
 oA 14 (.isNil .ptr false) [.t 13],
 oM 15 14,
 oG (some 16) .move [.t 0] 15 false,
 oG (some 17) .move [.t 1] 15 false,
 oG (some 18) .call [.c (.func (.func 41) #[] #[]),.t 16,.t 17,.c (.int .i64 (1))] 15 false,
 oG (some 19) (.un .not) [.t 18] 15 false,
 oA 20 .pick [.t 15,.c (.bool true),.t 19]] [0,1,20])
 (.cond (.t 20) (.seq (cR [oA 4 .move [.c (.slice none 0 0)],
 oA 5 .move [.c (.int .i64 (1))]] [4,5])
 (.ret))
 (.skip)))
 (.seq (cR [oA 21 (.newSlice 5 1 1 [(.int .u8 (0))]) [.c (.int .i64 (128)),.c (.int .i64 (128))],
 oM 6 21] [0,1,6])
 (.seq (.seq (cR [oM 23 0,
 oA 24 .nilCheck [.t 23],
 oA 25 (.fieldAddr 1) [.t 24],
 oA 26 (.load false 1) [.t 25],
 oM 27 1,
 oA 28 .call [.c (.func (.func 45) #[] #[]),.t 26,.t 27],
 oM 22 28,
 oA 29 (.extract 0) [.t 22],
 oA 30 (.extract 1) [.t 22],
 oM 7 29,
 oM 8 30] [0,1,6,7,8])
 (.seq (cR [oM 31 8] [0,1,6,7,31])
 (.cond (.t 31) (.seq (.seq (cR [oM 32 7,
 oA 33 (.isNil .slice false) [.t 32]] [6,7,33])
 (.cond (.t 33) (cR [oM 34 6,
 oM 7 34] [7])
 (.skip)))
 (.seq (cR [oM 35 7,
 oM 4 35,
 oA 5 .move [.c (.int .i64 (0))]] [4,5])
 (.ret)))
 (.skip))))
 (.seq (cR [oM 37 0,
 oA 38 .nilCheck [.t 37],
 oA 39 (.fieldAddr 0) [.t 38],
 oA 40 (.load false 1) [.t 39],
 oM 41 1,
 oA 42 .call [.c (.func (.func 46) #[] #[]),.t 40,.t 41],
 oM 36 42,
 oA 43 (.extract 0) [.t 36],
 oA 44 (.extract 1) [.t 36],
 oA 45 (.extract 2) [.t 36],
 oA 9 (.new 112 5 [(.int .i64 (0)), (.int .i64 (0)), (.int .i64 (0)), (.int .i64 (0)), (.int .i64 (0))]) [],
 oN (.store 5) [.t 9,.t 43],
 oM 10 44,
 oM 11 45] [0,6,9,10,11])
 (.seq (.block 0 (.seq (cR [oM 47 11,
 oA 48 (.bin .neq) [.t 47,.c (.int .i64 (0))],
 oM 46 48] [0,6,9,10,11,46])
 (.cond (.t 46) (.seq (cR [oM 49 11,
 oA 50 .call [.c (.func (.func 47) #[] #[]),.t 49],
 oA 4 .move [.c (.slice none 0 0)],
 oM 5 50] [4,5])
 (.ret))
 (.seq (cR [oM 52 10,
 oA 53 (.un .not) [.t 52],
 oM 51 53] [0,6,9,51])
 (.cond (.t 51) (.seq (cR [oM 54 6,
 oM 4 54,
 oA 5 .move [.c (.int .i64 (0))]] [4,5])
 (.ret))
 (.skip))))))
 (.seq (cD [⟨[oM 56 0,
 oA 57 .nilCheck [.t 56],
 oA 58 (.fieldAddr 0) [.t 57],
 oA 59 (.load false 1) [.t 58],
 oA 61 (.fieldAddr 1) [.t 9],
 oA 62 (.load true 3) [.t 61],
 oA 63 (.fieldAddr 4) [.t 9],
 oA 64 (.load false 1) [.t 63]],some (oA 60 .call [.c (.func (.func 48) #[] #[]),.t 59]),[62,64],[]⟩,
 ⟨[],some (oA 65 .call [.c (.func (.func 49) #[] #[]),.t 60,.t 62,.t 64]),[],[]⟩,
 ⟨[oM 55 65,
 oA 66 (.extract 0) [.t 55],
 oA 67 (.extract 1) [.t 55],
 oM 12 66,
 oM 11 67],none,[],[]⟩] [56,57,58,59,60,61,62,63,64,65,55,66,67,12,11] [9,11,12])
 (.seq (.block 1 (.seq (cR [oM 69 11,
 oA 70 (.bin .neq) [.t 69,.c (.int .i64 (0))],
 oM 68 70] [9,11,12,68])
 (.cond (.t 68) (.seq (cR [oM 71 11,
 oA 72 .call [.c (.func (.func 47) #[] #[]),.t 71],
 oA 4 .move [.c (.slice none 0 0)],
 oM 5 72] [4,5])
 (.ret))
 (.seq (cR [oA 74 (.fieldAddr 1) [.t 9],
 oA 75 (.fieldAddr 2) [.t 74],
 oA 76 (.load false 1) [.t 75],
 oM 77 12,
 oA 78 .lenS [.t 77],
 oA 79 (.bin .geq) [.t 76,.t 78],
 oM 73 79] [9,12,73])
 (.cond (.t 73) (.seq (cR [oA 4 .move [.c (.slice none 0 0)],
 oA 5 .move [.c (.int .i64 (10))]] [4,5])
 (.ret))
 (.skip))))))
 (.seq (cR [oM 80 12,
 oA 81 (.fieldAddr 1) [.t 9],
 oA 82 (.fieldAddr 2) [.t 81],
 oA 83 (.load false 1) [.t 82],
 oA 84 (.idxAddr 1) [.t 80,.t 83],
 oA 85 (.load false 1) [.t 84],
 oM 4 85,
 oA 5 .move [.c (.int .i64 (0))]] [4,5])
 (.ret))))))))),
 [.tmp 4, .tmp 5], none⟩

def l18_0 : Code :=
 .seq (.seq (cR [oM 22 2,
 oA 23 (.bin .gtr) [.t 22,.c (.int .i64 (0))]] [0,1,2,23])
 (.cond (.t 23) (.skip)
 (.exit 1)))
 (.block 2 (.seq (cR [oM 24 2,
 oA 25 .min [.t 24,.c (.int .i64 (64))],
 oM 7 25] [0,1,2,7])
 (.seq (.seq (cR [oM 26 0,
 oA 27 .nilCheck [.t 26],
 oA 28 (.fieldAddr 1) [.t 27],
 oA 29 (.load false 1) [.t 28],
 oM 30 1,
 oM 31 7,
 oA 32 .call [.c (.func (.func 50) #[] #[]),.t 29,.t 30,.t 31],
 oA 33 (.un .not) [.t 32]] [0,1,2,7,33])
 (.cond (.t 33) (.seq (.seq (cR [oM 34 0,
 oA 35 .call [.c (.func (.func 30) #[] #[]),.t 34],
 oM 8 35] [0,1,2,7,8])
 (.seq (cR [oM 36 8,
 oA 37 (.bin .neq) [.t 36,.c (.int .i64 (0))]] [0,1,2,7,8,37])
 (.cond (.t 37) (.seq (cR [oM 38 8,
 oM 6 38] [6])
 (.ret))
 (.skip))))
 (cR [oM 39 0,
 oA 40 .nilCheck [.t 39],
 oA 41 (.fieldAddr 1) [.t 40],
 oA 42 (.load false 1) [.t 41],
 oM 43 1,
 oM 44 7,
 oA 45 .call [.c (.func (.func 50) #[] #[]),.t 42,.t 43,.t 44]] [0,1,2,7]))
 (.skip)))
 (cR [oM 46 1,
 oM 47 7,
 oA 48 (.bin .add) [.t 46,.t 47],
 oM 49 2,
 oM 50 7,
 oA 51 (.bin .sub) [.t 49,.t 50],
 oM 1 48,
 oM 2 51] [0,1,2]))))
def f18 : Func := ⟨.seq (cR [oA 6 .move [.c (.int .i64 (0))]] [0,1,2])
 (.seq (.block 0 (.seq (cR [oM 10 0,
 oA 11 (.isNil .ptr false) [.t 10],
 oM 12 11,
 oG (some 13) .move [.t 0] 12 false,
 oG (some 14) .move [.t 1] 12 false,
 oG (some 15) .move [.t 2] 12 false,
 oG (some 16) .call [.c (.func (.func 41) #[] #[]),.t 13,.t 14,.t 15] 12 false,
 oG (some 17) (.un .not) [.t 16] 12 false,
 oA 18 .pick [.t 12,.c (.bool true),.t 17],
 oM 9 18] [0,1,2,9])
 (.cond (.t 9) (.seq (cR [oA 6 .move [.c (.int .i64 (1))]] [6])
 (.ret))
 (.seq (cR [oM 20 0,
 oA 21 .call [.c (.func (.func 28) #[] #[]),.t 20],
 oM 19 21] [0,1,2,19])
 (.cond (.t 19) (.seq (cR [oA 6 .move [.c (.int .i64 (9))]] [6])
 (.ret))
 (.skip))))))
 (.seq (.block 1 (.loop [0,1,2] l18_0))
 (.seq (cR [oA 6 .move [.c (.int .i64 (0))]] [6])
 (.ret)))),
 [.tmp 6], none⟩

def l19_0 : Code :=
 .seq (.seq (cR [oM 140 13,
 oA 141 (.fieldAddr 2) [.t 5],
 oA 142 (.load false 1) [.t 141],
 oA 143 (.bin .lss) [.t 140,.t 142]] [1,5,7,12,13,143])
 (.cond (.t 143) (.skip)
 (.exit 1)))
 (.seq (.block 2 (.seq (cR [oA 146 (.fieldAddr 2) [.t 5],
 oA 147 (.load false 1) [.t 146],
 oM 148 13,
 oA 149 (.bin .sub) [.t 147,.t 148],
 oA 150 .min [.c (.int .i64 (64)),.t 149],
 oM 14 150] [1,5,7,12,13,14])
 (.seq (cD [⟨[oM 151 1,
 oA 152 .nilCheck [.t 151],
 oA 153 (.fieldAddr 2) [.t 152],
 oA 154 (.load false 1) [.t 153],
 oA 155 (.fieldAddr 1) [.t 5],
 oA 156 (.load false 1) [.t 155],
 oM 157 13,
 oA 158 (.bin .add) [.t 156,.t 157],
 oM 159 14],some (oA 160 .call [.c (.func (.func 52) #[] #[]),.t 154,.t 158,.t 159]),[],[]⟩,
 ⟨[oA 161 (.un .not) [.t 160]],none,[],[]⟩] [151,152,153,154,155,156,157,158,159,160,161] [1,5,7,12,13,14,161])
 (.cond (.t 161) (.seq (cR [oM 162 1,
 oA 163 .call [.c (.func (.func 31) #[] #[]),.t 162]] [1,5,7,12,13,14])
 (cD [⟨[oM 164 1,
 oA 165 .nilCheck [.t 164],
 oA 166 (.fieldAddr 2) [.t 165],
 oA 167 (.load false 1) [.t 166],
 oA 168 (.fieldAddr 1) [.t 5],
 oA 169 (.load false 1) [.t 168],
 oM 170 13,
 oA 171 (.bin .add) [.t 169,.t 170],
 oM 172 14],some (oA 173 .call [.c (.func (.func 52) #[] #[]),.t 167,.t 171,.t 172]),[],[]⟩] [164,165,166,167,168,169,170,171,172,173] [1,5,7,12,13]))
 (.skip)))))
 (cR [oM 144 13,
 oA 145 (.bin .add) [.t 144,.c (.int .i64 (64))],
 oM 13 145] [1,5,7,12,13]))
def f19 : Func := ⟨.seq (cR [oA 5 (.box 57 4) [.t 2],
 oA 6 .move [.c (.int .i64 (0))]] [0,1,5])
 (.seq (cR [oA 7 .move [.c (.func (.func 51) #[] #[])]] [0,1,5,7])
 (.seq (.seq (cR [oA 18 (.fieldAddr 0) [.t 5],
 oA 19 (.load false 1) [.t 18]] [0,1,5,7,19])
 (.block 0 (.seq (.seq (cR [oA 21 (.bin .eql) [.t 19,.c (.int .i64 (0))],
 oM 20 21] [0,1,5,7,19,20])
 (.cond (.t 20) (.skip)
 (.seq (cR [oA 22 (.bin .eql) [.t 19,.c (.int .i64 (1))],
 oM 20 22] [0,1,5,7,19,20])
 (.cond (.t 20) (.skip)
 (.seq (cR [oA 23 (.bin .eql) [.t 19,.c (.int .i64 (2))],
 oM 20 23] [0,1,5,7,19,20])
 (.cond (.t 20) (.skip)
 (.seq (cR [oA 24 (.bin .eql) [.t 19,.c (.int .i64 (3))],
 oM 20 24] [0,1,5,7,19,20])
 (.cond (.t 20) (.skip)
 (cR [oA 25 (.bin .eql) [.t 19,.c (.int .i64 (4))],
 oM 20 25] [0,1,5,7,19,20])))))))))
 (.cond (.t 20) (.seq (cR [oA 26 (.fieldAddr 2) [.t 5],
 oA 27 (.load false 1) [.t 26],
 oA 28 (.fieldAddr 3) [.t 5],
 oA 29 (.load false 1) [.t 28],
 oA 30 .call [.c (.func (.func 27) #[] #[]),.t 27,.t 29],
 oM 8 30] [0,1,5,7,8])
 (.seq (cR [oM 31 0,
 oA 32 (.fieldAddr 1) [.t 5],
 oA 33 (.load false 1) [.t 32],
 oM 34 8,
 oA 35 .call [.c (.func (.func 15) #[] #[]),.t 31,.t 33,.t 34],
 oM 9 35] [1,5,7,8,9])
 (.seq (.seq (cD [⟨[oA 36 (.fieldAddr 1) [.t 5],
 oA 37 (.load false 1) [.t 36],
 oA 38 (.bin .lss) [.t 37,.c (.int .i64 (0))],
 oM 39 38,
 oG (some 40) (.fieldAddr 1) [.t 5] 39 false,
 oG (some 41) (.load false 1) [.t 40] 39 false,
 oG (some 42) .move [.t 1] 39 false,
 oG (some 43) .nilCheck [.t 42] 39 false,
 oG (some 44) (.fieldAddr 0) [.t 43] 39 false,
 oG (some 45) (.load false 1) [.t 44] 39 false,
 oG (some 46) (.bin .geq) [.t 41,.t 45] 39 false,
 oA 47 .pick [.t 39,.c (.bool true),.t 46]],none,[],[]⟩] [36,37,38,39,40,41,42,43,44,45,46,47] [1,5,7,8,9,47])
 (.cond (.t 47) (.seq (cR [oM 48 7,
 oM 49 9,
 oA 50 (.bin .eql) [.t 49,.c (.int .i64 (1))],
 oA 51 .call [.t 48,.t 50],
 oM 6 51] [6])
 (.ret))
 (.skip)))
 (.seq (.seq (cR [oM 52 9,
 oA 53 (.bin .eql) [.t 52,.c (.int .i64 (7))]] [1,5,7,8,9,53])
 (.cond (.t 53) (.seq (cD [⟨[oM 55 1,
 oA 56 .nilCheck [.t 55],
 oA 57 (.fieldAddr 2) [.t 56],
 oA 58 (.load false 1) [.t 57],
 oA 59 (.fieldAddr 1) [.t 5],
 oA 60 (.load false 1) [.t 59]],some (oA 61 .call [.c (.func (.func 33) #[] #[]),.t 58,.t 60]),[],[]⟩,
 ⟨[oM 54 61,
 oA 62 (.extract 0) [.t 54],
 oA 63 (.extract 1) [.t 54],
 oM 10 62,
 oM 11 63],none,[],[]⟩] [55,56,57,58,59,60,61,54,62,63,10,11] [1,7,11])
 (.seq (cR [oM 64 7,
 oM 65 11,
 oA 66 (.un .not) [.t 65],
 oM 67 66,
 oG (some 68) .move [.t 1] 67 true,
 oG (some 69) .nilCheck [.t 68] 67 true,
 oG (some 70) (.fieldAddr 2) [.t 69] 67 true,
 oG (some 71) (.load false 1) [.t 70] 67 true,
 oG (some 72) .nilCheck [.t 71] 67 true,
 oG (some 73) (.fieldAddr 1) [.t 72] 67 true,
 oG (some 74) (.load false 1) [.t 73] 67 true,
 oG (some 75) .lenS [.t 74] 67 true,
 oG (some 76) (.bin .geq) [.t 75,.c (.int .i64 (64))] 67 true,
 oA 77 .pick [.t 67,.t 76,.c (.bool false)],
 oA 78 .call [.t 64,.t 77],
 oA 79 (.un .neg) [.t 78],
 oM 6 79] [6])
 (.ret)))
 (.skip)))
 (.seq (.seq (cR [oM 80 1,
 oA 81 (.fieldAddr 1) [.t 5],
 oA 82 (.load false 1) [.t 81],
 oM 83 8,
 oA 84 .call [.c (.func (.func 29) #[] #[]),.t 80,.t 82,.t 83],
 oA 85 (.un .not) [.t 84]] [1,5,7,8,9,85])
 (.cond (.t 85) (.seq (cR [oM 86 1,
 oA 87 .call [.c (.func (.func 31) #[] #[]),.t 86]] [1,5,7,8,9])
 (cR [oM 88 1,
 oA 89 (.fieldAddr 1) [.t 5],
 oA 90 (.load false 1) [.t 89],
 oM 91 8,
 oA 92 .call [.c (.func (.func 29) #[] #[]),.t 88,.t 90,.t 91]] [7,9]))
 (.skip)))
 (.seq (cR [oM 93 7,
 oM 94 9,
 oA 95 (.bin .eql) [.t 94,.c (.int .i64 (0))],
 oA 96 .call [.t 93,.t 95],
 oM 6 96] [6])
 (.ret)))))))
 (.seq (cR [oA 98 (.bin .eql) [.t 19,.c (.int .i64 (5))],
 oM 97 98] [0,1,5,7,19,97])
 (.cond (.t 97) (.seq (cR [oM 99 0,
 oA 100 (.fieldAddr 1) [.t 5],
 oA 101 (.load false 1) [.t 100],
 oA 102 (.fieldAddr 2) [.t 5],
 oA 103 (.load false 1) [.t 102],
 oA 104 .call [.c (.func (.func 18) #[] #[]),.t 99,.t 101,.t 103],
 oM 12 104] [1,5,7,12])
 (.seq (.seq (cD [⟨[oA 105 (.fieldAddr 2) [.t 5],
 oA 106 (.load false 1) [.t 105],
 oA 107 (.bin .lss) [.t 106,.c (.int .i64 (0))],
 oM 108 107,
 oG (some 109) (.fieldAddr 1) [.t 5] 108 false,
 oG (some 110) (.load false 1) [.t 109] 108 false,
 oG (some 111) (.bin .lss) [.t 110,.c (.int .i64 (0))] 108 false,
 oA 112 .pick [.t 108,.c (.bool true),.t 111],
 oM 113 112,
 oG (some 114) (.fieldAddr 1) [.t 5] 113 false,
 oG (some 115) (.load false 1) [.t 114] 113 false,
 oG (some 116) .move [.t 1] 113 false,
 oG (some 117) .nilCheck [.t 116] 113 false,
 oG (some 118) (.fieldAddr 0) [.t 117] 113 false,
 oG (some 119) (.load false 1) [.t 118] 113 false,
 oG (some 120) (.bin .gtr) [.t 115,.t 119] 113 false,
 oA 121 .pick [.t 113,.c (.bool true),.t 120],
 oM 122 121,
 oG (some 123) (.fieldAddr 2) [.t 5] 122 false,
 oG (some 124) (.load false 1) [.t 123] 122 false,
 oG (some 125) .move [.t 1] 122 false,
 oG (some 126) .nilCheck [.t 125] 122 false,
 oG (some 127) (.fieldAddr 0) [.t 126] 122 false,
 oG (some 128) (.load false 1) [.t 127] 122 false,
 oG (some 129) (.fieldAddr 1) [.t 5] 122 false,
 oG (some 130) (.load false 1) [.t 129] 122 false,
 oG (some 131) (.bin .sub) [.t 128,.t 130] 122 false,
 oG (some 132) (.bin .gtr) [.t 124,.t 131] 122 false,
 oA 133 .pick [.t 122,.c (.bool true),.t 132]],none,[],[]⟩] [105,106,107,108,109,110,111,112,113,114,115,116,117,118,119,120,121,122,123,124,125,126,127,128,129,130,131,132,133] [1,5,7,12,133])
 (.cond (.t 133) (.seq (cR [oM 134 7,
 oM 135 12,
 oA 136 (.bin .eql) [.t 135,.c (.int .i64 (1))],
 oA 137 .call [.t 134,.t 136],
 oM 6 137] [6])
 (.ret))
 (.skip)))
 (.seq (.seq (cR [oM 138 12,
 oA 139 (.bin .eql) [.t 138,.c (.int .i64 (7))]] [1,5,7,12,139])
 (.cond (.t 139) (.seq (cR [oA 6 .move [.c (.int .i64 (-1))]] [6])
 (.ret))
 (.skip)))
 (.seq (.seq (cR [oA 13 .move [.c (.int .i64 (0))]] [1,5,7,12,13])
 (.block 1 (.loop [1,5,7,12,13] l19_0)))
 (.seq (cR [oM 174 7,
 oM 175 12,
 oA 176 (.bin .eql) [.t 175,.c (.int .i64 (0))],
 oA 177 .call [.t 174,.t 176],
 oM 6 177] [6])
 (.ret))))))
 (.seq (cR [oA 179 (.bin .eql) [.t 19,.c (.int .i64 (6))],
 oM 178 179] [0,1,5,7,19,178])
 (.cond (.t 178) (.seq (cR [oM 180 0,
 oA 181 .call [.c (.func (.func 30) #[] #[]),.t 180],
 oM 15 181] [1,7,15])
 (.seq (.seq (cR [oM 182 15,
 oA 183 (.bin .eql) [.t 182,.c (.int .i64 (7))]] [1,7,15,183])
 (.cond (.t 183) (.seq (cR [oM 184 7,
 oM 185 1,
 oA 186 .nilCheck [.t 185],
 oA 187 (.fieldAddr 2) [.t 186],
 oA 188 (.load false 1) [.t 187],
 oA 189 .nilCheck [.t 188],
 oA 190 (.fieldAddr 1) [.t 189],
 oA 191 (.load false 1) [.t 190],
 oA 192 .lenS [.t 191],
 oA 193 (.bin .gtr) [.t 192,.c (.int .i64 (0))],
 oA 194 .call [.t 184,.t 193],
 oA 195 (.un .neg) [.t 194],
 oM 6 195] [6])
 (.ret))
 (.skip)))
 (.seq (cR [oM 196 1,
 oA 197 .call [.c (.func (.func 31) #[] #[]),.t 196]] [7,15])
 (.seq (cR [oM 198 7,
 oM 199 15,
 oA 200 (.bin .eql) [.t 199,.c (.int .i64 (0))],
 oA 201 .call [.t 198,.t 200],
 oM 6 201] [6])
 (.ret)))))
 (.seq (cR [oA 203 (.bin .eql) [.t 19,.c (.int .i64 (7))],
 oM 202 203] [0,1,5,7,202])
 (.cond (.t 202) (.seq (cR [oM 205 0,
 oA 206 (.fieldAddr 1) [.t 5],
 oA 207 (.load false 1) [.t 206],
 oA 208 .call [.c (.func (.func 17) #[] #[]),.t 205,.t 207],
 oM 204 208,
 oA 209 (.extract 0) [.t 204],
 oA 210 (.extract 1) [.t 204],
 oM 16 209,
 oM 17 210] [1,5,7,16,17])
 (.seq (.seq (cD [⟨[oA 211 (.fieldAddr 1) [.t 5],
 oA 212 (.load false 1) [.t 211],
 oA 213 (.bin .lss) [.t 212,.c (.int .i64 (0))],
 oM 214 213,
 oG (some 215) (.fieldAddr 1) [.t 5] 214 false,
 oG (some 216) (.load false 1) [.t 215] 214 false,
 oG (some 217) .move [.t 1] 214 false,
 oG (some 218) .nilCheck [.t 217] 214 false,
 oG (some 219) (.fieldAddr 0) [.t 218] 214 false,
 oG (some 220) (.load false 1) [.t 219] 214 false,
 oG (some 221) (.bin .geq) [.t 216,.t 220] 214 false,
 oA 222 .pick [.t 214,.c (.bool true),.t 221]],none,[],[]⟩] [211,212,213,214,215,216,217,218,219,220,221,222] [1,5,7,16,17,222])
 (.cond (.t 222) (.seq (cR [oM 223 7,
 oM 224 17,
 oA 225 (.bin .eql) [.t 224,.c (.int .i64 (1))],
 oM 226 225,
 oG (some 227) .move [.t 16] 226 true,
 oG (some 228) .lenS [.t 227] 226 true,
 oG (some 229) (.bin .eql) [.t 228,.c (.int .i64 (0))] 226 true,
 oA 230 .pick [.t 226,.t 229,.c (.bool false)],
 oA 231 .call [.t 223,.t 230],
 oM 6 231] [6])
 (.ret))
 (.skip)))
 (.seq (cD [⟨[oM 232 7,
 oM 233 17,
 oA 234 (.bin .eql) [.t 233,.c (.int .i64 (0))],
 oM 235 234,
 oG (some 236) .move [.t 16] 235 true,
 oG (some 237) .toStr [.t 236] 235 true,
 oG (some 238) .move [.t 1] 235 true,
 oG (some 239) (.fieldAddr 1) [.t 5] 235 true,
 oG (some 240) (.load false 1) [.t 239] 235 true],some (oG (some 241) .call [.c (.func (.func 32) #[] #[]),.t 238,.t 240] 235 true),[237],[]⟩,
 ⟨[oG (some 242) (.eqStr false) [.t 237,.t 241] 235 true,
 oA 243 .pick [.t 235,.t 242,.c (.bool false)]],some (oA 244 .call [.t 232,.t 243]),[],[]⟩,
 ⟨[oM 6 244],none,[],[]⟩] [232,233,234,235,236,237,238,239,240,241,242,243,244,6] [6])
 (.ret))))
 (.skip)))))))))))
 (.seq (cR [oA 6 .move [.c (.int .i64 (1))]] [6])
 (.ret)))),
 [.tmp 6], none⟩

def l20_0 : Code :=
 .seq (.seq (cR [oM 8 5,
 oM 9 1,
 oA 10 .nilCheck [.t 9],
 oA 11 (.fieldAddr 0) [.t 10],
 oA 12 (.load false 1) [.t 11],
 oA 13 (.bin .lss) [.t 8,.t 12]] [0,1,5,13])
 (.cond (.t 13) (.skip)
 (.exit 0)))
 (.seq (.block 1 (.seq (cR [oM 17 0,
 oM 18 5,
 oA 19 .call [.c (.func (.func 17) #[] #[]),.t 17,.t 18],
 oM 16 19,
 oA 20 (.extract 0) [.t 16],
 oA 21 (.extract 1) [.t 16],
 oM 6 20,
 oM 7 21] [0,1,5,6,7])
 (.seq (cD [⟨[oM 22 7,
 oA 23 (.bin .neq) [.t 22,.c (.int .i64 (0))],
 oM 24 23,
 oG (some 25) .move [.t 6] 24 false,
 oG (some 26) .toStr [.t 25] 24 false,
 oG (some 27) .move [.t 1] 24 false,
 oG (some 28) .move [.t 5] 24 false],some (oG (some 29) .call [.c (.func (.func 32) #[] #[]),.t 27,.t 28] 24 false),[26],[]⟩,
 ⟨[oG (some 30) (.eqStr true) [.t 26,.t 29] 24 false,
 oA 31 .pick [.t 24,.c (.bool true),.t 30]],none,[],[]⟩] [22,23,24,25,26,27,28,29,30,31] [0,1,5,31])
 (.cond (.t 31) (.seq (cR [oA 4 .move [.c (.bool false)]] [4])
 (.ret))
 (.skip)))))
 (cR [oM 14 5,
 oA 15 (.bin .add) [.t 14,.c (.int .i64 (1))],
 oM 5 15] [0,1,5]))
def f20 : Func := ⟨.seq (cR [oA 4 .move [.c (.bool false)]] [0,1])
 (.seq (.seq (cR [oA 5 .move [.c (.int .i64 (0))]] [0,1,5])
 (.block 0 (.loop [0,1,5] l20_0)))
 (.seq (cD [⟨[oM 32 0,
 oM 34 1,
 oA 35 .nilCheck [.t 34],
 oA 36 (.fieldAddr 2) [.t 35],
 oA 37 (.load false 1) [.t 36],
 oA 38 .nilCheck [.t 37],
 oA 39 (.fieldAddr 1) [.t 38],
 oA 40 (.load false 1) [.t 39],
 oA 41 .lenS [.t 40]],some (oA 33 .call [.c (.func (.func 16) #[] #[]),.t 32]),[37,40],[]⟩,
 ⟨[oA 42 (.bin .eql) [.t 33,.t 41],
 oM 4 42],none,[],[]⟩] [32,33,34,35,36,37,38,39,40,41,42,4] [4])
 (.ret))),
 [.tmp 4], none⟩

def f21 : Func := ⟨.seq (cR [oA 2 .move [.c (.pointer none)],
 oA 3 .move [.c (.int .i64 (0))]] [0])
 (.seq (cR [oM 7 0,
 oA 8 .call [.c (.func (.func 53) #[] #[]),.t 7],
 oM 6 8,
 oA 9 (.extract 0) [.t 6],
 oA 10 (.extract 1) [.t 6],
 oM 4 9,
 oM 5 10] [4,5])
 (.seq (.seq (cR [oM 11 5,
 oA 12 (.bin .neq) [.t 11,.c (.int .i64 (0))]] [4,5,12])
 (.cond (.t 12) (.seq (cR [oM 13 5,
 oA 2 .move [.c (.pointer none)],
 oM 3 13] [2,3])
 (.ret))
 (.skip)))
 (.seq (cR [oM 14 4,
 oA 15 .call [.c (.func (.func 54) #[] #[]),.c (.int .i64 (64))],
 oA 16 (.build [(.pointer none), (.pointer none)] [(0, 1), (1, 1)]) [.t 14,.t 15],
 oA 17 (.box 107 2) [.t 16],
 oM 2 17,
 oA 3 .move [.c (.int .i64 (0))]] [2,3])
 (.ret)))),
 [.tmp 2, .tmp 3], none⟩

def f22 : Func := ⟨.seq (cR [oA 2 .move [.c (.pointer none)]] [0])
 (.seq (.seq (cR [oM 3 0,
 oA 4 (.isNil .ptr false) [.t 3]] [0,4])
 (.cond (.t 4) (.seq (cR [oA 2 .move [.c (.pointer none)]] [2])
 (.ret))
 (.skip)))
 (.seq (cR [oM 5 0,
 oA 6 .nilCheck [.t 5],
 oA 7 (.fieldAddr 0) [.t 6],
 oA 8 (.load false 1) [.t 7],
 oM 2 8] [2])
 (.ret))),
 [.tmp 2], none⟩

def f23 : Func := ⟨.seq (cR [oA 2 .move [.c (.slice none 0 0)],
 oA 3 .move [.c (.int .i64 (0))]] [0])
 (.seq (.seq (cR [oM 4 0,
 oA 5 .call [.c (.func (.func 55) #[] #[]),.t 4],
 oA 6 (.un .not) [.t 5]] [0,6])
 (.cond (.t 6) (.seq (cR [oA 2 .move [.c (.slice none 0 0)],
 oA 3 .move [.c (.int .i64 (1))]] [2,3])
 (.ret))
 (.skip)))
 (.seq (cD [⟨[oM 7 0,
 oA 8 .nilCheck [.t 7],
 oA 9 (.fieldAddr 11) [.t 8],
 oA 10 (.load false 1) [.t 9],
 oM 11 0,
 oA 12 .nilCheck [.t 11],
 oA 13 (.fieldAddr 1) [.t 12],
 oA 14 (.fieldAddr 4) [.t 13],
 oA 15 (.load true 4) [.t 14]],some (oA 16 .call [.c (.func (.func 56) #[] #[]),.t 10,.t 15]),[],[]⟩,
 ⟨[oA 17 (.extract 0) [.t 16],
 oA 18 (.extract 1) [.t 16],
 oM 2 17,
 oM 3 18],none,[],[]⟩] [7,8,9,10,11,12,13,14,15,16,17,18,2,3] [2,3])
 (.ret))),
 [.tmp 2, .tmp 3], none⟩

def f24 : Func := ⟨.seq (cR [oA 2 (.new 77 8 [(.int .i64 (0)), (.int .i64 (0)), (.int .i64 (0)), (.float .f64 0), (.int .i64 (0)), (.int .i64 (0)), (.int .i64 (0)), (.int .i64 (0))]) []] [0,2])
 (.seq (.seq (cR [oM 3 0,
 oA 4 .call [.c (.func (.func 55) #[] #[]),.t 3],
 oA 5 (.un .not) [.t 4]] [0,2,5])
 (.cond (.t 5) (.seq (cR [oA 6 (.build [(.int .i64 (0)), (.int .i64 (0)), (.int .i64 (0)), (.float .f64 0), (.int .i64 (0)), (.int .i64 (0)), (.int .i64 (0)), (.int .i64 (0))] []) [],
 oN (.store 8) [.t 2,.t 6]] [2])
 (.ret))
 (.skip)))
 (.seq (cR [oM 7 0,
 oA 8 .nilCheck [.t 7],
 oA 9 (.fieldAddr 1) [.t 8],
 oA 10 (.load true 8) [.t 9],
 oN (.store 8) [.t 2,.t 10]] [2])
 (.ret))),
 [.cell 2 true 8], none⟩

def f25 : Func := ⟨.seq (.seq (cR [oM 4 0,
 oA 5 (.isNil .ptr false) [.t 4]] [0,1,5])
 (.cond (.t 5) (.ret)
 (.skip)))
 (.seq (cR [oM 6 0,
 oM 7 1,
 oA 8 .call [.c (.func (.func 57) #[] #[]),.t 7],
 oA 9 .nilCheck [.t 6],
 oA 10 (.fieldAddr 2) [.t 9],
 oN (.store 1) [.t 10,.t 8]] [0])
 (cR [oM 11 0,
 oA 12 (.build [(.int .i64 (0)), (.int .i64 (0)), (.int .i64 (0)), (.int .i64 (0))] []) [],
 oA 13 .nilCheck [.t 11],
 oA 14 (.fieldAddr 7) [.t 13],
 oN (.store 4) [.t 14,.t 12]] [])),
 [], none⟩

def l26_0 : Code :=
 .seq (.seq (cR [oM 5 4,
 oM 6 0,
 oA 7 .lenS [.t 6],
 oA 8 (.bin .lss) [.t 5,.t 7]] [0,3,4,8])
 (.cond (.t 8) (.skip)
 (.exit 0)))
 (.seq (.block 1 (cD [⟨[oM 11 3,
 oM 12 0,
 oM 13 4,
 oA 14 (.idxAddr 2) [.t 12,.t 13],
 oA 15 (.fieldAddr 0) [.t 14],
 oA 16 (.load false 1) [.t 15],
 oM 17 0,
 oM 18 4,
 oA 19 (.idxAddr 2) [.t 17,.t 18],
 oA 20 (.fieldAddr 1) [.t 19],
 oA 21 (.load false 1) [.t 20],
 oA 22 (.build [(.int .i64 (0)), (.int .i64 (0))] [(0, 1), (1, 1)]) [.t 16,.t 21]],some (oA 23 (.buildSlice 132 2 1 [(.int .i64 (0)), (.int .i64 (0))] [(0, 2)]) [.t 22]),[],[]⟩,
 ⟨[],some (oA 24 (.append 132 2 16) [.t 11,.t 23]),[],[]⟩,
 ⟨[oM 3 24],none,[],[]⟩] [11,12,13,14,15,16,17,18,19,20,21,22,23,24,3] [0,3,4]))
 (cR [oM 9 4,
 oA 10 (.bin .add) [.t 9,.c (.int .i64 (1))],
 oM 4 10] [0,3,4]))
def f26 : Func := ⟨.seq (cR [oA 2 .move [.c (.slice none 0 0)]] [0])
 (.seq (cR [oA 3 .move [.c (.slice none 0 0)]] [0,3])
 (.seq (.seq (cR [oA 4 .move [.c (.int .i64 (0))]] [0,3,4])
 (.block 0 (.loop [0,3,4] l26_0)))
 (.seq (cR [oM 25 3,
 oM 2 25] [2])
 (.ret)))),
 [.tmp 2], none⟩

def l27_0 : Code :=
 .seq (.seq (cR [oM 8 6,
 oA 9 (.bin .lss) [.t 8,.c (.int .i64 (128))]] [0,1,5,6,9])
 (.cond (.t 9) (.skip)
 (.exit 0)))
 (.seq (.block 1 (cR [oM 12 5,
 oM 13 6,
 oM 14 1,
 oM 15 6,
 oM 16 0,
 oA 17 (.bin .and) [.t 16,.c (.int .i64 (65535))],
 oA 18 (.bin .mul) [.t 15,.t 17],
 oA 19 (.bin .quo) [.t 18,.c (.int .i64 (16))],
 oA 20 (.toInt .u8) [.t 19],
 oA 21 (.bin .add) [.t 14,.t 20],
 oA 22 (.idxAddr 1) [.t 12,.t 13],
 oN (.store 1) [.t 22,.t 21]] [0,1,5,6]))
 (cR [oM 10 6,
 oA 11 (.bin .add) [.t 10,.c (.int .i64 (1))],
 oM 6 11] [0,1,5,6]))
def f27 : Func := ⟨.seq (cR [oA 4 .move [.c (.slice none 0 0)]] [0,1])
 (.seq (cR [oA 7 (.newSlice 5 1 1 [(.int .u8 (0))]) [.c (.int .i64 (128)),.c (.int .i64 (128))],
 oM 5 7] [0,1,5])
 (.seq (.seq (cR [oA 6 .move [.c (.int .i64 (0))]] [0,1,5,6])
 (.block 0 (.loop [0,1,5,6] l27_0)))
 (.seq (cR [oM 23 5,
 oM 4 23] [4])
 (.ret)))),
 [.tmp 4], none⟩

def f28 : Func := ⟨.seq (cR [oA 2 .move [.c (.bool false)]] [0])
 (.seq (cR [oM 3 0,
 oA 4 .call [.c (.func (.func 22) #[] #[]),.t 3],
 oA 5 .call [.c (.func (.func 58) #[] #[]),.t 4],
 oM 2 5] [2])
 (.ret)),
 [.tmp 2], none⟩

def f29 : Func := ⟨.seq (cR [oA 6 .move [.c (.bool false)]] [0,1,2])
 (.seq (cR [oM 7 0,
 oA 8 .nilCheck [.t 7],
 oA 9 (.fieldAddr 2) [.t 8],
 oA 10 (.load false 1) [.t 9],
 oM 11 1,
 oM 12 2,
 oA 13 .call [.c (.func (.func 59) #[] #[]),.t 10,.t 11,.t 12],
 oM 6 13] [6])
 (.ret)),
 [.tmp 6], none⟩

def f30 : Func := ⟨.seq (cR [oA 2 .move [.c (.int .i64 (0))]] [0])
 (.seq (.block 0 (.seq (cR [oM 7 0,
 oA 8 (.isNil .ptr false) [.t 7],
 oM 6 8] [0,6])
 (.cond (.t 6) (.seq (cR [oA 2 .move [.c (.int .i64 (1))]] [2])
 (.ret))
 (.seq (cR [oM 10 0,
 oA 11 .nilCheck [.t 10],
 oA 12 (.fieldAddr 1) [.t 11],
 oA 13 (.load false 1) [.t 12],
 oA 14 .call [.c (.func (.func 44) #[] #[]),.t 13],
 oA 15 (.bin .eql) [.t 14,.c (.int .i64 (0))],
 oM 9 15] [0,9])
 (.cond (.t 9) (.seq (cR [oA 2 .move [.c (.int .i64 (0))]] [2])
 (.ret))
 (.seq (cR [oM 17 0,
 oA 18 .call [.c (.func (.func 28) #[] #[]),.t 17],
 oM 16 18] [0,16])
 (.cond (.t 16) (.seq (cR [oA 2 .move [.c (.int .i64 (9))]] [2])
 (.ret))
 (.skip))))))))
 (.seq (cR [oM 20 0,
 oA 21 .call [.c (.func (.func 60) #[] #[]),.t 20],
 oM 19 21,
 oA 22 (.extract 0) [.t 19],
 oA 23 (.extract 1) [.t 19],
 oA 24 (.extract 2) [.t 19],
 oM 3 22,
 oM 4 23,
 oM 5 24] [0,3,4,5])
 (.seq (.seq (cR [oM 25 5,
 oA 26 (.bin .neq) [.t 25,.c (.int .i64 (0))]] [0,3,4,5,26])
 (.cond (.t 26) (.seq (cR [oM 27 0,
 oA 28 .nilCheck [.t 27],
 oA 29 (.fieldAddr 0) [.t 28],
 oA 30 (.load false 1) [.t 29],
 oA 31 .call [.c (.func (.func 61) #[] #[]),.t 30]] [5])
 (.seq (cR [oM 32 5,
 oM 2 32] [2])
 (.ret)))
 (.skip)))
 (.seq (cR [oM 33 0,
 oA 34 .nilCheck [.t 33],
 oA 35 (.fieldAddr 0) [.t 34],
 oA 36 (.load false 1) [.t 35],
 oM 37 3,
 oM 38 4,
 oA 39 .call [.c (.func (.func 62) #[] #[]),.t 36,.t 37,.t 38],
 oM 5 39] [0,5])
 (.seq (.seq (cR [oM 40 5,
 oA 41 (.bin .eql) [.t 40,.c (.int .i64 (0))],
 oM 42 41,
 oG (some 43) .move [.t 0] 42 false,
 oG (some 44) .call [.c (.func (.func 28) #[] #[]),.t 43] 42 false,
 oA 45 .pick [.t 42,.c (.bool true),.t 44]] [0,5,45])
 (.cond (.t 45) (cR [oM 46 0,
 oA 47 .nilCheck [.t 46],
 oA 48 (.fieldAddr 1) [.t 47],
 oA 49 (.load false 1) [.t 48],
 oA 50 .call [.c (.func (.func 63) #[] #[]),.t 49]] [5])
 (.skip)))
 (.seq (cR [oM 51 5,
 oM 2 51] [2])
 (.ret))))))),
 [.tmp 2], none⟩

def l31_0 : Code :=
 .seq (.seq (cR [oM 4 2,
 oM 5 0,
 oA 6 .nilCheck [.t 5],
 oA 7 (.fieldAddr 2) [.t 6],
 oA 8 (.load false 1) [.t 7],
 oA 9 .nilCheck [.t 8],
 oA 10 (.fieldAddr 1) [.t 9],
 oA 11 (.load false 1) [.t 10],
 oA 12 .lenS [.t 11],
 oA 13 (.bin .lss) [.t 4,.t 12]] [0,2,13])
 (.cond (.t 13) (.skip)
 (.exit 0)))
 (.seq (.block 1 (.seq (cR [oM 16 0,
 oA 17 .nilCheck [.t 16],
 oA 18 (.fieldAddr 2) [.t 17],
 oA 19 (.load false 1) [.t 18],
 oA 20 .nilCheck [.t 19],
 oA 21 (.fieldAddr 1) [.t 20],
 oA 22 (.load false 1) [.t 21],
 oM 23 2,
 oA 24 (.idxAddr 2) [.t 22,.t 23],
 oA 25 (.load true 2) [.t 24],
 oA 3 (.new 143 2 [(.int .i64 (0)), (.slice none 0 0)]) [],
 oN (.store 2) [.t 3,.t 25]] [0,2,3])
 (.seq (cR [oA 26 (.fieldAddr 1) [.t 3],
 oA 27 (.load false 1) [.t 26],
 oA 28 .lenS [.t 27],
 oA 29 (.bin .eql) [.t 28,.c (.int .i64 (0))]] [0,2,3,29])
 (.cond (.t 29) (cD [⟨[oM 30 0,
 oA 31 .nilCheck [.t 30],
 oA 32 (.fieldAddr 1) [.t 31],
 oA 33 (.load false 1) [.t 32],
 oA 34 (.fieldAddr 0) [.t 3],
 oA 35 (.load false 1) [.t 34]],some (oN (.delete none) [.t 33,.t 35]),[],[]⟩] [30,31,32,33,34,35] [0,2])
 (cD [⟨[oM 36 0,
 oA 37 .nilCheck [.t 36],
 oA 38 (.fieldAddr 1) [.t 37],
 oA 39 (.load false 1) [.t 38],
 oA 40 (.fieldAddr 0) [.t 3],
 oA 41 (.load false 1) [.t 40],
 oA 42 (.fieldAddr 1) [.t 3],
 oA 43 (.load false 1) [.t 42],
 oA 44 .toStr [.t 43]],some (oN (.mapSet none) [.t 39,.t 41,.t 44]),[],[]⟩] [36,37,38,39,40,41,42,43,44] [0,2])))))
 (cR [oM 14 2,
 oA 15 (.bin .add) [.t 14,.c (.int .i64 (1))],
 oM 2 15] [0,2]))
def f31 : Func := ⟨.seq (.seq (cR [oA 2 .move [.c (.int .i64 (0))]] [0,2])
 (.block 0 (.loop [0,2] l31_0)))
 (cR [oM 45 0,
 oA 46 .nilCheck [.t 45],
 oA 47 (.fieldAddr 2) [.t 46],
 oA 48 (.load false 1) [.t 47],
 oA 49 .nilCheck [.t 48],
 oA 50 (.fieldAddr 1) [.t 49],
 oN (.store 1) [.t 50,.c (.slice none 0 0)]] []),
 [], none⟩

def f32 : Func := ⟨.seq (cR [oA 4 .move [.c (.string ⟨⟨[]⟩⟩)]] [0,1])
 (.seq (cR [oM 10 0,
 oA 11 .nilCheck [.t 10],
 oA 12 (.fieldAddr 2) [.t 11],
 oA 13 (.load false 1) [.t 12],
 oM 14 1,
 oA 15 .call [.c (.func (.func 33) #[] #[]),.t 13,.t 14],
 oM 9 15,
 oA 16 (.extract 0) [.t 9],
 oA 17 (.extract 1) [.t 9],
 oM 5 16,
 oM 6 17] [0,1,5,6])
 (.seq (.seq (cR [oM 18 6,
 oM 19 18,
 oG (some 20) .move [.t 5] 19 true,
 oG (some 21) .lenS [.t 20] 19 true,
 oG (some 22) (.bin .gtr) [.t 21,.c (.int .i64 (0))] 19 true,
 oA 23 .pick [.t 19,.t 22,.c (.bool false)]] [0,1,5,6,23])
 (.cond (.t 23) (.seq (cR [oM 24 5,
 oA 25 .toStr [.t 24],
 oM 4 25] [4])
 (.ret))
 (.skip)))
 (.seq (cR [oM 27 0,
 oA 28 .nilCheck [.t 27],
 oA 29 (.fieldAddr 1) [.t 28],
 oA 30 (.load false 1) [.t 29],
 oM 31 1,
 oA 32 (.lookup none (.string ⟨⟨[]⟩⟩) true) [.t 30,.t 31],
 oM 26 32,
 oA 33 (.extract 0) [.t 26],
 oA 34 (.extract 1) [.t 26],
 oM 7 33,
 oM 8 34] [6,7,8])
 (.seq (.seq (cR [oM 35 6,
 oM 36 35,
 oG (some 37) .move [.t 8] 36 false,
 oG (some 38) (.un .not) [.t 37] 36 false,
 oA 39 .pick [.t 36,.c (.bool true),.t 38]] [7,39])
 (.cond (.t 39) (.seq (cR [oA 40 (.newSlice 5 1 1 [(.int .u8 (0))]) [.c (.int .i64 (128)),.c (.int .i64 (128))],
 oA 41 .toStr [.t 40],
 oM 4 41] [4])
 (.ret))
 (.skip)))
 (.seq (cR [oM 42 7,
 oM 4 42] [4])
 (.ret)))))),
 [.tmp 4], none⟩

def f33 : Func := ⟨.seq (cR [oA 4 .move [.c (.slice none 0 0)],
 oA 5 .move [.c (.bool false)]] [0,1])
 (.seq (cR [oM 9 0,
 oM 10 1,
 oA 11 .call [.c (.func (.func 64) #[] #[]),.t 9,.t 10],
 oM 8 11,
 oA 12 (.extract 0) [.t 8],
 oA 13 (.extract 1) [.t 8],
 oM 6 12,
 oM 7 13] [0,6,7])
 (.seq (.seq (cR [oM 14 7,
 oA 15 (.un .not) [.t 14]] [0,6,15])
 (.cond (.t 15) (.seq (cR [oA 4 .move [.c (.slice none 0 0)],
 oA 5 .move [.c (.bool false)]] [4,5])
 (.ret))
 (.skip)))
 (.seq (cR [oM 16 0,
 oA 17 .nilCheck [.t 16],
 oA 18 (.fieldAddr 1) [.t 17],
 oA 19 (.load false 1) [.t 18],
 oM 20 6,
 oA 21 (.idxAddr 2) [.t 19,.t 20],
 oA 22 (.fieldAddr 1) [.t 21],
 oA 23 (.load false 1) [.t 22],
 oM 4 23,
 oA 5 .move [.c (.bool true)]] [4,5])
 (.ret)))),
 [.tmp 4, .tmp 5], none⟩

def f34 : Func := ⟨.seq (cR [oA 3 (.box 147 1) [.t 1]] [0,3])
 (.seq (.seq (cR [oM 4 0,
 oA 5 (.isNil .ptr false) [.t 4]] [0,3,5])
 (.cond (.t 5) (.ret)
 (.skip)))
 (.seq (cR [oM 6 0,
 oA 7 (.func 66 0) [.t 3],
 oA 8 .call [.c (.func (.func 65) #[] #[]),.t 6,.t 7]] [0])
 (cR [oM 9 0,
 oA 10 .nilCheck [.t 9],
 oA 11 (.fieldAddr 2) [.t 10],
 oN (.store 1) [.t 11,.c (.slice none 0 0)]] []))),
 [], none⟩

def l35_0 : Code :=
 .seq (.seq (cR [oM 28 9,
 oM 29 5,
 oA 30 .lenS [.t 29],
 oA 31 (.bin .lss) [.t 28,.t 30]] [1,5,7,8,9,31])
 (.cond (.t 31) (.skip)
 (.exit 0)))
 (.seq (.block 1 (cR [oM 34 8,
 oM 35 5,
 oM 36 9,
 oA 37 (.idxAddr 5) [.t 35,.t 36],
 oA 38 (.fieldAddr 0) [.t 37],
 oA 39 (.load true 2) [.t 38],
 oA 40 (.buildSlice 67 2 1 [(.int .i64 (0)), (.int .i64 (0))] [(0, 2)]) [.t 39],
 oA 41 (.append 67 2 16) [.t 34,.t 40],
 oM 8 41] [1,5,7,8,9]))
 (cR [oM 32 9,
 oA 33 (.bin .add) [.t 32,.c (.int .i64 (1))],
 oM 9 33] [1,5,7,8,9]))
def l35_1 : Code :=
 .seq (.seq (cR [oM 77 11,
 oM 78 8,
 oM 79 10,
 oA 80 (.idxAddr 2) [.t 78,.t 79],
 oA 81 (.fieldAddr 1) [.t 80],
 oA 82 (.load false 1) [.t 81],
 oA 83 (.bin .lss) [.t 77,.t 82]] [1,7,8,10,11,83])
 (.cond (.t 83) (.skip)
 (.exit 4)))
 (.seq (.block 5 (cR [oM 86 7,
 oM 87 8,
 oM 88 10,
 oA 89 (.idxAddr 2) [.t 87,.t 88],
 oA 90 (.fieldAddr 0) [.t 89],
 oA 91 (.load false 1) [.t 90],
 oM 92 11,
 oA 93 (.bin .add) [.t 91,.t 92],
 oA 94 (.idxAddr 1) [.t 86,.t 93],
 oA 95 (.load false 1) [.t 94],
 oA 96 (.bin .add) [.t 95,.c (.int .i64 (1))],
 oA 97 (.idxAddr 1) [.t 86,.t 93],
 oN (.store 1) [.t 97,.t 96]] [1,7,8,10,11]))
 (cR [oM 84 11,
 oA 85 (.bin .add) [.t 84,.c (.int .i64 (1))],
 oM 11 85] [1,7,8,10,11]))
def l35_2 : Code :=
 .seq (.seq (cR [oM 42 10,
 oM 43 8,
 oA 44 .lenS [.t 43],
 oA 45 (.bin .lss) [.t 42,.t 44]] [1,7,8,10,45])
 (.cond (.t 45) (.skip)
 (.exit 2)))
 (.seq (.block 3 (.seq (.seq (cD [⟨[oM 48 8,
 oM 49 10,
 oA 50 (.idxAddr 2) [.t 48,.t 49],
 oA 51 (.fieldAddr 0) [.t 50],
 oA 52 (.load false 1) [.t 51],
 oA 53 (.bin .lss) [.t 52,.c (.int .i64 (2))],
 oM 54 53,
 oG (some 55) .move [.t 8] 54 false,
 oG (some 56) .move [.t 10] 54 false,
 oG (some 57) (.idxAddr 2) [.t 55,.t 56] 54 false,
 oG (some 58) (.fieldAddr 1) [.t 57] 54 false,
 oG (some 59) (.load false 1) [.t 58] 54 false,
 oG (some 60) (.bin .lss) [.t 59,.c (.int .i64 (1))] 54 false,
 oA 61 .pick [.t 54,.c (.bool true),.t 60],
 oM 62 61,
 oG (some 63) .move [.t 8] 62 false,
 oG (some 64) .move [.t 10] 62 false,
 oG (some 65) (.idxAddr 2) [.t 63,.t 64] 62 false,
 oG (some 66) (.fieldAddr 0) [.t 65] 62 false,
 oG (some 67) (.load false 1) [.t 66] 62 false,
 oG (some 68) .move [.t 8] 62 false,
 oG (some 69) .move [.t 10] 62 false,
 oG (some 70) (.idxAddr 2) [.t 68,.t 69] 62 false,
 oG (some 71) (.fieldAddr 1) [.t 70] 62 false,
 oG (some 72) (.load false 1) [.t 71] 62 false,
 oG (some 73) (.bin .add) [.t 67,.t 72] 62 false,
 oG (some 74) .move [.t 1] 62 false,
 oG (some 75) (.bin .gtr) [.t 73,.t 74] 62 false,
 oA 76 .pick [.t 62,.c (.bool true),.t 75]],none,[],[]⟩] [48,49,50,51,52,53,54,55,56,57,58,59,60,61,62,63,64,65,66,67,68,69,70,71,72,73,74,75,76] [1,7,8,10,76])
 (.cond (.t 76) (.seq (cR [oA 4 .move [.c (.bool false)]] [4])
 (.ret))
 (.skip)))
 (.seq (cR [oA 11 .move [.c (.int .i64 (0))]] [1,7,8,10,11])
 (.block 4 (.loop [1,7,8,10,11] l35_1)))))
 (cR [oM 46 10,
 oA 47 (.bin .add) [.t 46,.c (.int .i64 (1))],
 oM 10 47] [1,7,8,10]))
def l35_3 : Code :=
 .seq (.seq (cR [oM 98 12,
 oM 99 1,
 oA 100 (.bin .lss) [.t 98,.t 99]] [1,7,12,100])
 (.cond (.t 100) (.skip)
 (.exit 6)))
 (.seq (.block 7 (.seq (cR [oM 103 7,
 oM 104 12,
 oA 105 (.idxAddr 1) [.t 103,.t 104],
 oA 106 (.load false 1) [.t 105],
 oA 107 (.bin .neq) [.t 106,.c (.int .i64 (1))]] [1,7,12,107])
 (.cond (.t 107) (.seq (cR [oA 4 .move [.c (.bool false)]] [4])
 (.ret))
 (.skip))))
 (cR [oM 101 12,
 oA 102 (.bin .add) [.t 101,.c (.int .i64 (1))],
 oM 12 102] [1,7,12]))
def f35 : Func := ⟨.seq (cR [oA 4 .move [.c (.bool false)]] [0,1])
 (.seq (cR [oM 14 0,
 oA 15 .call [.c (.func (.func 23) #[] #[]),.t 14],
 oM 13 15,
 oA 16 (.extract 0) [.t 13],
 oA 17 (.extract 1) [.t 13],
 oM 5 16,
 oM 6 17] [0,1,5,6])
 (.seq (.seq (cR [oM 18 6,
 oA 19 (.bin .neq) [.t 18,.c (.int .i64 (0))]] [0,1,5,19])
 (.cond (.t 19) (.seq (cR [oA 4 .move [.c (.bool false)]] [4])
 (.ret))
 (.skip)))
 (.seq (cR [oM 20 1,
 oA 21 (.newSlice 3 1 8 [(.int .i64 (0))]) [.t 20,.t 20],
 oM 7 21] [0,1,5,7])
 (.seq (cR [oM 22 7,
 oM 23 7,
 oA 24 (.idxAddr 1) [.t 22,.c (.int .i64 (0))],
 oN (.store 1) [.t 24,.c (.int .i64 (1))],
 oA 25 (.idxAddr 1) [.t 23,.c (.int .i64 (1))],
 oN (.store 1) [.t 25,.c (.int .i64 (1))]] [0,1,5,7])
 (.seq (cR [oM 26 0,
 oA 27 .call [.c (.func (.func 67) #[] #[]),.t 26],
 oM 8 27] [1,5,7,8])
 (.seq (.seq (cR [oA 9 .move [.c (.int .i64 (0))]] [1,5,7,8,9])
 (.block 0 (.loop [1,5,7,8,9] l35_0)))
 (.seq (.seq (cR [oA 10 .move [.c (.int .i64 (0))]] [1,7,8,10])
 (.block 2 (.loop [1,7,8,10] l35_2)))
 (.seq (.seq (cR [oA 12 .move [.c (.int .i64 (0))]] [1,7,12])
 (.block 6 (.loop [1,7,12] l35_3)))
 (.seq (cR [oA 4 .move [.c (.bool true)]] [4])
 (.ret)))))))))),
 [.tmp 4], none⟩

def l36_0 : Code :=
 .seq (cR [oA 37 (.bin .lss) [.t 36,.c (.int .i64 (2))]] [2,6,36,37])
 (.seq (.cond (.t 37) (.skip)
 (.exit 0))
 (.seq (.block 1 (.seq (cR [oM 38 36,
 oM 7 38] [2,6,7,36])
 (cD [⟨[oM 39 6,
 oM 40 7,
 oM 41 6,
 oM 42 7,
 oA 44 .nilCheck [.t 39],
 oA 45 (.fieldAddr 1) [.t 44],
 oA 46 (.fieldAddr 3) [.t 45]],some (oA 43 .call [.c (.func (.func 70) #[] #[]),.t 41,.t 42]),[],[]⟩,
 ⟨[oA 47 (.idxAddrA 2 1) [.t 46,.t 40]],some (oN (.store 1) [.t 47,.t 43]),[],[]⟩] [39,40,41,42,43,44,45,46,47] [2,6,36])))
 (cR [oA 48 (.bin .add) [.t 36,.c (.int .i64 (1))],
 oM 36 48] [2,6,36])))
def f36 : Func := ⟨.seq (cR [oA 2 (.new 27 5 [(.slice none 0 0), (.int .i64 (0)), (.int .i64 (0)), (.bool false), (.bool false)]) [],
 oA 3 .move [.c (.int .i64 (0))]] [0,2])
 (.seq (.seq (cR [oM 8 0,
 oA 9 (.isNil .ptr false) [.t 8]] [0,2,9])
 (.cond (.t 9) (.seq (cR [oA 10 (.build [(.slice none 0 0), (.int .i64 (0)), (.int .i64 (0)), (.bool false), (.bool false)] []) [],
 oN (.store 5) [.t 2,.t 10],
 oA 3 .move [.c (.int .i64 (1))]] [2,3])
 (.ret))
 (.skip)))
 (.seq (cR [oM 11 0,
 oA 12 .call [.c (.func (.func 22) #[] #[]),.t 11],
 oM 4 12] [0,2,4])
 (.seq (cR [oM 13 4,
 oA 14 .call [.c (.func (.func 24) #[] #[]),.t 13],
 oA 15 (.field 4 true 4) [.t 14],
 oA 5 (.new 75 4 [(.int .i64 (0)), (.int .i64 (0)), (.int .i64 (0)), (.int .i64 (0))]) [],
 oN (.store 4) [.t 5,.t 15]] [0,2,4,5])
 (.seq (cR [oM 16 4,
 oA 17 .newMap [],
 oA 18 (.build [(.pointer none), (.slice none 0 0), (.int .i64 (0)), (.int .i64 (0)), (.bool false), (.bool false), (.map none)] [(0, 1), (6, 1)]) [.t 16,.t 17],
 oA 19 (.box 155 7) [.t 18],
 oM 6 19] [0,2,4,5,6])
 (.seq (cD [⟨[oM 20 6,
 oM 21 4,
 oA 23 (.load true 4) [.t 5],
 oM 24 0],some (oA 22 .call [.c (.func (.func 48) #[] #[]),.t 21]),[23],[]⟩,
 ⟨[],some (oA 25 .call [.c (.func (.func 37) #[] #[]),.t 24]),[23],[]⟩,
 ⟨[],some (oA 26 .call [.c (.func (.func 68) #[] #[]),.t 22,.t 23,.t 25]),[],[]⟩,
 ⟨[oA 27 .nilCheck [.t 20],
 oA 28 (.fieldAddr 1) [.t 27],
 oA 29 (.fieldAddr 0) [.t 28]],some (oN (.store 1) [.t 29,.t 26]),[],[]⟩] [20,21,22,23,24,25,26,27,28,29] [2,5,6])
 (.seq (cR [oM 30 6,
 oA 31 (.fieldAddr 0) [.t 5],
 oA 32 (.load true 3) [.t 31],
 oA 33 (.fieldAddr 3) [.t 5],
 oA 34 (.load false 1) [.t 33],
 oA 35 .call [.c (.func (.func 69) #[] #[]),.t 30,.t 32,.t 34,.c (.int .i64 (0)),.c (.int .i64 (512))]] [2,6])
 (.seq (.seq (cR [oA 36 .move [.c (.int .i64 (0))]] [2,6,36])
 (.block 0 (.loop [2,6,36] l36_0)))
 (.seq (cR [oM 49 6,
 oA 50 .nilCheck [.t 49],
 oA 51 (.fieldAddr 1) [.t 50],
 oA 52 (.load true 5) [.t 51],
 oN (.store 5) [.t 2,.t 52],
 oA 3 .move [.c (.int .i64 (0))]] [2,3])
 (.ret))))))))),
 [.cell 2 true 5, .tmp 3], none⟩

def f37 : Func := ⟨.seq (cR [oA 2 .move [.c (.int .i64 (0))]] [0])
 (.seq (cR [oM 3 0,
 oA 4 .call [.c (.func (.func 22) #[] #[]),.t 3],
 oA 5 .call [.c (.func (.func 24) #[] #[]),.t 4],
 oA 6 (.field 2 false 1) [.t 5],
 oM 2 6] [2])
 (.ret)),
 [.tmp 2], none⟩

def l38_0 : Code :=
 .seq (cR [oA 15 (.bin .lss) [.t 14,.t 13]] [4,13,14,15])
 (.seq (.cond (.t 15) (.skip)
 (.exit 0))
 (.seq (.block 1 (cD [⟨[oM 16 4,
 oM 17 4,
 oA 18 .nilCheck [.t 17],
 oA 19 (.fieldAddr 0) [.t 18],
 oA 20 (.load false 1) [.t 19]],some (oA 21 (.newSlice 5 1 1 [(.int .u8 (0))]) [.c (.int .i64 (64)),.c (.int .i64 (64))]),[20],[]⟩,
 ⟨[],some (oA 22 (.buildSlice 40 1 1 [(.slice none 0 0)] [(0, 1)]) [.t 21]),[20],[]⟩,
 ⟨[],some (oA 23 (.append 40 1 24) [.t 20,.t 22]),[],[]⟩,
 ⟨[oA 24 .nilCheck [.t 16],
 oA 25 (.fieldAddr 0) [.t 24]],some (oN (.store 1) [.t 25,.t 23]),[],[]⟩] [16,17,18,19,20,21,22,23,24,25] [4,13,14]))
 (cR [oA 26 (.bin .add) [.t 14,.c (.int .i64 (1))],
 oM 14 26] [4,13,14])))
def f38 : Func := ⟨.seq (cR [oA 2 .move [.c (.pointer none)],
 oA 3 .move [.c (.int .i64 (0))]] [0])
 (.seq (.seq (cR [oM 5 0,
 oA 6 (.bin .lss) [.t 5,.c (.int .i64 (64))],
 oM 7 6,
 oG (some 8) .move [.t 0] 7 false,
 oG (some 9) (.bin .gtr) [.t 8,.c (.int .i64 (8192))] 7 false,
 oA 10 .pick [.t 7,.c (.bool true),.t 9]] [0,10])
 (.cond (.t 10) (.seq (cR [oA 2 .move [.c (.pointer none)],
 oA 3 .move [.c (.int .i64 (1))]] [2,3])
 (.ret))
 (.skip)))
 (.seq (cR [oA 11 (.build [(.slice none 0 0), (.slice none 0 0), (.slice none 0 0), (.int .i64 (0)), (.int .i64 (0)), (.int .i64 (0)), (.int .i64 (0)), (.int .i64 (0)), (.int .i64 (0)), (.int .i64 (0)), (.int .i64 (0))] []) [],
 oA 12 (.box 136 11) [.t 11],
 oM 4 12] [0,4])
 (.seq (.seq (cR [oM 13 0,
 oA 14 .move [.c (.int .i64 (0))]] [4,13,14])
 (.block 0 (.loop [4,13,14] l38_0)))
 (.seq (cR [oM 27 4,
 oM 2 27,
 oA 3 .move [.c (.int .i64 (0))]] [2,3])
 (.ret))))),
 [.tmp 2, .tmp 3], none⟩

def f39 : Func := ⟨.seq (cR [oA 6 .move [.c (.int .i64 (0))]] [0,1,2])
 (.seq (cR [oM 7 0,
 oM 8 1,
 oM 9 2,
 oA 10 .call [.c (.func (.func 71) #[] #[]),.t 7,.t 8,.t 9],
 oM 6 10] [6])
 (.ret)),
 [.tmp 6], none⟩

def f40 : Func := ⟨.seq (cR [oA 2 .move [.c (.pointer none)]] [0])
 (.seq (cR [oM 3 0,
 oA 4 .newMap [],
 oA 5 .call [.c (.func (.func 72) #[] #[]),.c (.int .i64 (64))],
 oA 6 (.build [(.int .i64 (0)), (.map none), (.pointer none)] [(0, 1), (1, 1), (2, 1)]) [.t 3,.t 4,.t 5],
 oA 7 (.box 53 3) [.t 6],
 oM 2 7] [2])
 (.ret)),
 [.tmp 2], none⟩

def f41 : Func := ⟨.seq (cR [oA 6 .move [.c (.bool false)]] [0,1,2])
 (.seq (cR [oM 7 2,
 oA 8 (.bin .geq) [.t 7,.c (.int .i64 (0))],
 oM 9 8,
 oG (some 10) .move [.t 1] 9 true,
 oG (some 11) (.bin .geq) [.t 10,.c (.int .i64 (0))] 9 true,
 oA 12 .pick [.t 9,.t 11,.c (.bool false)],
 oM 13 12,
 oG (some 14) .move [.t 2] 13 true,
 oG (some 15) .move [.t 0] 13 true,
 oG (some 16) .call [.c (.func (.func 37) #[] #[]),.t 15] 13 true,
 oG (some 17) (.bin .leq) [.t 14,.t 16] 13 true,
 oA 18 .pick [.t 13,.t 17,.c (.bool false)],
 oM 19 18,
 oG (some 20) .move [.t 1] 19 true,
 oG (some 21) .move [.t 0] 19 true,
 oG (some 22) .call [.c (.func (.func 37) #[] #[]),.t 21] 19 true,
 oG (some 23) .move [.t 2] 19 true,
 oG (some 24) (.bin .sub) [.t 22,.t 23] 19 true,
 oG (some 25) (.bin .leq) [.t 20,.t 24] 19 true,
 oA 26 .pick [.t 19,.t 25,.c (.bool false)],
 oM 6 26] [6])
 (.ret)),
 [.tmp 6], none⟩

def l42_0 : Code :=
 .seq (cR [oA 17 (.bin .lss) [.t 16,.t 15]] [0,5,14,15,16,17])
 (.seq (.cond (.t 17) (.skip)
 (.exit 0))
 (.seq (.block 1 (.seq (cR [oA 18 (.idxAddr 1) [.t 14,.t 16],
 oA 19 (.load false 1) [.t 18],
 oM 7 19] [0,5,7,14,15,16])
 (.seq (cR [oM 21 0,
 oA 22 .nilCheck [.t 21],
 oA 23 (.fieldAddr 1) [.t 22],
 oA 24 (.load false 1) [.t 23],
 oM 25 7,
 oA 26 (.lookup none (.slice none 0 0) true) [.t 24,.t 25],
 oM 20 26,
 oA 27 (.extract 0) [.t 20],
 oA 28 (.extract 1) [.t 20],
 oM 8 27,
 oM 9 28] [0,5,7,9,14,15,16])
 (.seq (cR [oM 29 9,
 oA 30 (.un .not) [.t 29]] [0,5,7,14,15,16,30])
 (.cond (.t 30) (cR [oM 31 5,
 oM 32 7,
 oN (.mapSet none) [.t 31,.t 32,.c (.bool true)]] [0,5,14,15,16])
 (.skip))))))
 (cR [oA 33 (.bin .add) [.t 16,.c (.int .i64 (1))],
 oM 16 33] [0,5,14,15,16])))
def f42 : Func := ⟨.seq (cR [oA 4 .move [.c (.bool false)]] [0,1])
 (.seq (.seq (cR [oM 10 0,
 oA 11 .call [.c (.func (.func 73) #[] #[]),.t 10],
 oA 12 (.un .not) [.t 11]] [0,1,12])
 (.cond (.t 12) (.seq (cR [oA 4 .move [.c (.bool false)]] [4])
 (.ret))
 (.skip)))
 (.seq (cR [oA 13 .newMap [],
 oM 5 13] [0,1,5])
 (.seq (.seq (cR [oM 14 1,
 oA 15 .lenS [.t 14],
 oA 16 .move [.c (.int .i64 (0))]] [0,5,14,15,16])
 (.block 0 (.loop [0,5,14,15,16] l42_0)))
 (.seq (cD [⟨[oM 34 0,
 oA 35 .nilCheck [.t 34],
 oA 36 (.fieldAddr 1) [.t 35],
 oA 37 (.load false 1) [.t 36],
 oA 38 .lenM [.t 37],
 oM 39 5,
 oA 40 .lenM [.t 39],
 oA 41 (.bin .add) [.t 38,.t 40],
 oM 42 0,
 oA 43 .nilCheck [.t 42],
 oA 44 (.fieldAddr 0) [.t 43],
 oA 45 (.load false 1) [.t 44],
 oA 46 (.bin .leq) [.t 41,.t 45],
 oM 4 46],none,[],[]⟩] [34,35,36,37,38,39,40,41,42,43,44,45,46,4] [4])
 (.ret))))),
 [.tmp 4], none⟩

def f43 : Func := ⟨.seq (cR [oA 6 .move [.c (.bool false)]] [0,1,2])
 (.seq (.seq (cR [oM 7 2,
 oA 8 .lenS [.t 7],
 oA 9 (.bin .neq) [.t 8,.c (.int .i64 (128))],
 oM 10 9,
 oG (some 11) .move [.t 1] 10 false,
 oG (some 12) (.bin .lss) [.t 11,.c (.int .i64 (0))] 10 false,
 oA 13 .pick [.t 10,.c (.bool true),.t 12],
 oM 14 13,
 oG (some 15) .move [.t 0] 14 false,
 oG (some 16) .move [.t 1] 14 false,
 oG (some 17) (.buildSlice 3 1 1 [(.int .i64 (0))] [(0, 1)]) [.t 16] 14 false,
 oG (some 18) .call [.c (.func (.func 42) #[] #[]),.t 15,.t 17] 14 false,
 oG (some 19) (.un .not) [.t 18] 14 false,
 oA 20 .pick [.t 14,.c (.bool true),.t 19]] [0,1,2,20])
 (.cond (.t 20) (.seq (cR [oA 6 .move [.c (.bool false)]] [6])
 (.ret))
 (.skip)))
 (.seq (cD [⟨[oM 21 0,
 oA 22 .nilCheck [.t 21],
 oA 23 (.fieldAddr 1) [.t 22],
 oA 24 (.load false 1) [.t 23],
 oM 25 1,
 oM 26 2],some (oA 27 .call [.c (.func (.func 74) #[] #[]),.t 26]),[24],[]⟩,
 ⟨[],some (oN (.mapSet none) [.t 24,.t 25,.t 27]),[],[]⟩] [21,22,23,24,25,26,27] [])
 (.seq (cR [oA 6 .move [.c (.bool true)]] [6])
 (.ret)))),
 [.tmp 6], none⟩

def f44 : Func := ⟨.seq (cR [oA 2 .move [.c (.int .i64 (0))]] [0])
 (.seq (.seq (cR [oM 3 0,
 oA 4 (.isNil .ptr false) [.t 3]] [0,4])
 (.cond (.t 4) (.seq (cR [oA 2 .move [.c (.int .i64 (0))]] [2])
 (.ret))
 (.skip)))
 (.seq (cR [oM 5 0,
 oA 6 .nilCheck [.t 5],
 oA 7 (.fieldAddr 1) [.t 6],
 oA 8 (.load false 1) [.t 7],
 oA 9 .lenM [.t 8],
 oM 2 9] [2])
 (.ret))),
 [.tmp 2], none⟩

def f45 : Func := ⟨.seq (cR [oA 4 .move [.c (.slice none 0 0)],
 oA 5 .move [.c (.bool false)]] [0,1])
 (.seq (.seq (cR [oM 8 0,
 oA 9 .call [.c (.func (.func 73) #[] #[]),.t 8],
 oA 10 (.un .not) [.t 9]] [0,1,10])
 (.cond (.t 10) (.seq (cR [oA 4 .move [.c (.slice none 0 0)],
 oA 5 .move [.c (.bool false)]] [4,5])
 (.ret))
 (.skip)))
 (.seq (cR [oM 12 0,
 oA 13 .nilCheck [.t 12],
 oA 14 (.fieldAddr 1) [.t 13],
 oA 15 (.load false 1) [.t 14],
 oM 16 1,
 oA 17 (.lookup none (.slice none 0 0) true) [.t 15,.t 16],
 oM 11 17,
 oA 18 (.extract 0) [.t 11],
 oA 19 (.extract 1) [.t 11],
 oM 6 18,
 oM 7 19] [6,7])
 (.seq (cR [oM 20 6,
 oA 21 .call [.c (.func (.func 74) #[] #[]),.t 20],
 oM 22 7,
 oM 4 21,
 oM 5 22] [4,5])
 (.ret)))),
 [.tmp 4, .tmp 5], none⟩

def f46 : Func := ⟨.seq (cR [oA 4 (.new 112 5 [(.int .i64 (0)), (.int .i64 (0)), (.int .i64 (0)), (.int .i64 (0)), (.int .i64 (0))]) [],
 oA 5 .move [.c (.bool false)],
 oA 6 .move [.c (.int .i64 (0))]] [0,1,4])
 (.seq (.seq (cR [oM 7 0,
 oA 8 .call [.c (.func (.func 55) #[] #[]),.t 7],
 oA 9 (.un .not) [.t 8],
 oM 10 9,
 oG (some 11) .move [.t 1] 10 false,
 oG (some 12) (.bin .lss) [.t 11,.c (.int .i64 (0))] 10 false,
 oA 13 .pick [.t 10,.c (.bool true),.t 12],
 oM 14 13,
 oG (some 15) .move [.t 1] 14 false,
 oG (some 16) .move [.t 0] 14 false,
 oG (some 17) .nilCheck [.t 16] 14 false,
 oG (some 18) (.fieldAddr 1) [.t 17] 14 false,
 oG (some 19) (.fieldAddr 2) [.t 18] 14 false,
 oG (some 20) (.load false 1) [.t 19] 14 false,
 oG (some 21) (.bin .geq) [.t 15,.t 20] 14 false,
 oA 22 .pick [.t 14,.c (.bool true),.t 21]] [0,1,4,22])
 (.cond (.t 22) (.seq (cR [oA 23 (.build [(.int .i64 (0)), (.int .i64 (0)), (.int .i64 (0)), (.int .i64 (0)), (.int .i64 (0))] []) [],
 oN (.store 5) [.t 4,.t 23],
 oA 5 .move [.c (.bool false)],
 oA 6 .move [.c (.int .i64 (1))]] [4,5,6])
 (.ret))
 (.skip)))
 (.seq (cD [⟨[oM 24 0,
 oA 25 .nilCheck [.t 24],
 oA 26 (.fieldAddr 11) [.t 25],
 oA 27 (.load false 1) [.t 26],
 oA 28 (.iface 118) [.t 27],
 oM 29 0,
 oA 30 .nilCheck [.t 29],
 oA 31 (.fieldAddr 1) [.t 30],
 oA 32 (.fieldAddr 4) [.t 31],
 oA 33 (.load true 4) [.t 32],
 oM 34 1],some (oA 35 .call [.c (.func (.func 75) #[] #[]),.t 28,.t 33,.t 34]),[],[]⟩,
 ⟨[oA 36 (.extract 0) [.t 35],
 oA 37 (.extract 1) [.t 35],
 oA 38 (.extract 2) [.t 35]],some (oN (.store 5) [.t 4,.t 36]),[],[]⟩,
 ⟨[oM 5 37,
 oM 6 38],none,[],[]⟩] [24,25,26,27,28,29,30,31,32,33,34,35,36,37,38,5,6] [4,5,6])
 (.ret))),
 [.cell 4 true 5, .tmp 5, .tmp 6], none⟩

def f47 : Func := ⟨.seq (cR [oA 2 .move [.c (.int .i64 (0))]] [0])
 (.seq (.seq (cR [oM 3 0,
 oA 4 (.bin .eql) [.t 3,.c (.int .i64 (6))]] [0,4])
 (.cond (.t 4) (.seq (cR [oM 5 0,
 oM 2 5] [2])
 (.ret))
 (.skip)))
 (.seq (cR [oA 2 .move [.c (.int .i64 (10))]] [2])
 (.ret))),
 [.tmp 2], none⟩

def f48 : Func := ⟨.seq (cR [oA 2 .move [.c (.pointer none)]] [0])
 (.seq (.seq (cR [oM 3 0,
 oA 4 .call [.c (.func (.func 55) #[] #[]),.t 3],
 oA 5 (.un .not) [.t 4]] [0,5])
 (.cond (.t 5) (.seq (cR [oA 2 .move [.c (.pointer none)]] [2])
 (.ret))
 (.skip)))
 (.seq (cR [oM 6 0,
 oA 7 .nilCheck [.t 6],
 oA 8 (.fieldAddr 11) [.t 7],
 oA 9 (.load false 1) [.t 8],
 oM 2 9] [2])
 (.ret))),
 [.tmp 2], none⟩

def f49 : Func := ⟨.seq (cR [oA 4 (.box 110 3) [.t 1],
 oA 6 .move [.c (.slice none 0 0)],
 oA 7 .move [.c (.int .i64 (0))]] [0,2,4])
 (.seq (cR [oM 13 0,
 oA 14 (.fieldAddr 0) [.t 4],
 oA 15 (.load false 1) [.t 14],
 oA 16 (.fieldAddr 1) [.t 4],
 oA 17 (.load false 1) [.t 16],
 oA 18 (.build [(.int .i64 (0)), (.int .i64 (0))] [(0, 1), (1, 1)]) [.t 15,.t 17],
 oA 19 .call [.c (.func (.func 76) #[] #[]),.t 13,.t 18],
 oM 12 19,
 oA 20 (.extract 0) [.t 12],
 oA 21 (.extract 1) [.t 12],
 oM 8 20,
 oM 9 21] [2,8,9])
 (.seq (.seq (cR [oM 22 9,
 oA 23 (.bin .neq) [.t 22,.c (.int .i64 (0))]] [2,8,9,23])
 (.cond (.t 23) (.seq (cR [oM 24 9,
 oA 6 .move [.c (.slice none 0 0)],
 oM 7 24] [6,7])
 (.ret))
 (.skip)))
 (.seq (cR [oM 26 8,
 oA 27 .call [.c (.func (.func 77) #[] #[]),.t 26],
 oM 25 27,
 oA 28 (.extract 0) [.t 25],
 oA 29 (.extract 1) [.t 25],
 oA 30 (.extract 2) [.t 25],
 oM 10 28,
 oM 11 29,
 oM 9 30] [2,9,10,11])
 (.seq (.block 0 (.seq (cR [oM 32 9,
 oA 33 (.bin .neq) [.t 32,.c (.int .i64 (0))],
 oM 31 33] [2,9,10,11,31])
 (.cond (.t 31) (.seq (cR [oM 34 9,
 oA 6 .move [.c (.slice none 0 0)],
 oM 7 34] [6,7])
 (.ret))
 (.seq (cR [oM 36 11,
 oM 37 2,
 oA 38 (.bin .neq) [.t 36,.t 37],
 oM 35 38] [10,35])
 (.cond (.t 35) (.seq (cR [oA 6 .move [.c (.slice none 0 0)],
 oA 7 .move [.c (.int .i64 (5))]] [6,7])
 (.ret))
 (.skip))))))
 (.seq (cR [oM 39 10,
 oM 6 39,
 oA 7 .move [.c (.int .i64 (0))]] [6,7])
 (.ret)))))),
 [.tmp 6, .tmp 7], none⟩

def l50_0 : Code :=
 .seq (cR [oA 29 (.bin .lss) [.t 28,.t 27]] [0,1,7,27,28,29])
 (.seq (.cond (.t 29) (.skip)
 (.exit 0))
 (.seq (.block 1 (.seq (cR [oM 30 28,
 oM 8 30] [0,1,7,8,27,28])
 (cR [oM 31 7,
 oM 32 1,
 oM 33 8,
 oA 34 (.bin .add) [.t 32,.t 33],
 oA 35 (.buildSlice 3 1 1 [(.int .i64 (0))] [(0, 1)]) [.t 34],
 oA 36 (.append 3 1 8) [.t 31,.t 35],
 oM 7 36] [0,1,7,27,28])))
 (cR [oA 37 (.bin .add) [.t 28,.c (.int .i64 (1))],
 oM 28 37] [0,1,7,27,28])))
def l50_1 : Code :=
 .seq (cR [oA 45 (.bin .lss) [.t 44,.t 43]] [0,42,43,44,45])
 (.seq (.cond (.t 45) (.skip)
 (.exit 2))
 (.seq (.block 3 (.seq (cR [oA 46 (.idxAddr 1) [.t 42,.t 44],
 oA 47 (.load false 1) [.t 46],
 oM 10 47] [0,10,42,43,44])
 (cR [oM 48 0,
 oA 49 .nilCheck [.t 48],
 oA 50 (.fieldAddr 1) [.t 49],
 oA 51 (.load false 1) [.t 50],
 oM 52 10,
 oN (.mapSet none) [.t 51,.t 52,.c (.slice none 0 0)]] [0,42,43,44])))
 (cR [oA 53 (.bin .add) [.t 44,.c (.int .i64 (1))],
 oM 44 53] [0,42,43,44])))
def f50 : Func := ⟨.seq (cR [oA 6 .move [.c (.bool false)]] [0,1,2])
 (.seq (.seq (cR [oM 11 2,
 oA 12 (.bin .lss) [.t 11,.c (.int .i64 (0))],
 oM 13 12,
 oG (some 14) .move [.t 1] 13 false,
 oG (some 15) (.bin .lss) [.t 14,.c (.int .i64 (0))] 13 false,
 oA 16 .pick [.t 13,.c (.bool true),.t 15],
 oM 17 16,
 oG (some 18) .move [.t 2] 17 false,
 oG (some 19) (.bin .gtr) [.t 18,.c (.int .i64 (512))] 17 false,
 oA 20 .pick [.t 17,.c (.bool true),.t 19],
 oM 21 20,
 oG (some 22) .move [.t 1] 21 false,
 oG (some 23) .move [.t 2] 21 false,
 oG (some 24) (.bin .sub) [.c (.int .i64 (512)),.t 23] 21 false,
 oG (some 25) (.bin .gtr) [.t 22,.t 24] 21 false,
 oA 26 .pick [.t 21,.c (.bool true),.t 25]] [0,1,2,26])
 (.cond (.t 26) (.seq (cR [oA 6 .move [.c (.bool false)]] [6])
 (.ret))
 (.skip)))
 (.seq (cR [oA 7 .move [.c (.slice none 0 0)]] [0,1,2,7])
 (.seq (.seq (cR [oM 27 2,
 oA 28 .move [.c (.int .i64 (0))]] [0,1,7,27,28])
 (.block 0 (.loop [0,1,7,27,28] l50_0)))
 (.seq (.seq (cR [oM 38 0,
 oM 39 7,
 oA 40 .call [.c (.func (.func 42) #[] #[]),.t 38,.t 39],
 oA 41 (.un .not) [.t 40]] [0,7,41])
 (.cond (.t 41) (.seq (cR [oA 6 .move [.c (.bool false)]] [6])
 (.ret))
 (.skip)))
 (.seq (.seq (cR [oM 42 7,
 oA 43 .lenS [.t 42],
 oA 44 .move [.c (.int .i64 (0))]] [0,42,43,44])
 (.block 2 (.loop [0,42,43,44] l50_1)))
 (.seq (cR [oA 6 .move [.c (.bool true)]] [6])
 (.ret))))))),
 [.tmp 6], none⟩

def f51 : Func := ⟨.seq (cR [oA 2 .move [.c (.int .i64 (0))]] [0])
 (.seq (.seq (cR [oM 3 0] [3])
 (.cond (.t 3) (.seq (cR [oA 2 .move [.c (.int .i64 (1))]] [2])
 (.ret))
 (.skip)))
 (.seq (cR [oA 2 .move [.c (.int .i64 (0))]] [2])
 (.ret))),
 [.tmp 2], none⟩

def l52_0 : Code :=
 .seq (.seq (cR [oM 28 8,
 oM 29 2,
 oA 30 (.bin .lss) [.t 28,.t 29]] [0,1,2,7,8,30])
 (.cond (.t 30) (.skip)
 (.exit 0)))
 (.seq (.block 1 (.seq (cR [oM 34 0,
 oM 35 1,
 oM 36 8,
 oA 37 (.bin .add) [.t 35,.t 36],
 oA 38 .call [.c (.func (.func 64) #[] #[]),.t 34,.t 37],
 oM 33 38,
 oA 39 (.extract 0) [.t 33],
 oA 40 (.extract 1) [.t 33],
 oM 9 39,
 oM 10 40] [0,1,2,7,8,10])
 (.seq (cR [oM 41 10,
 oA 42 (.un .not) [.t 41]] [0,1,2,7,8,42])
 (.cond (.t 42) (cR [oM 43 7,
 oA 44 (.bin .add) [.t 43,.c (.int .i64 (1))],
 oM 7 44] [0,1,2,7,8])
 (.skip)))))
 (cR [oM 31 8,
 oA 32 (.bin .add) [.t 31,.c (.int .i64 (1))],
 oM 8 32] [0,1,2,7,8]))
def l52_1 : Code :=
 .seq (.seq (cR [oM 57 11,
 oM 58 2,
 oA 59 (.bin .lss) [.t 57,.t 58]] [0,1,2,11,59])
 (.cond (.t 59) (.skip)
 (.exit 2)))
 (.seq (.block 3 (cR [oM 62 0,
 oM 63 1,
 oM 64 11,
 oA 65 (.bin .add) [.t 63,.t 64],
 oA 66 .call [.c (.func (.func 78) #[] #[]),.t 62,.t 65,.c (.slice none 0 0)]] [0,1,2,11]))
 (cR [oM 60 11,
 oA 61 (.bin .add) [.t 60,.c (.int .i64 (1))],
 oM 11 61] [0,1,2,11]))
def f52 : Func := ⟨.seq (cR [oA 6 .move [.c (.bool false)]] [0,1,2])
 (.seq (.seq (cR [oM 12 2,
 oA 13 (.bin .lss) [.t 12,.c (.int .i64 (0))],
 oM 14 13,
 oG (some 15) .move [.t 1] 14 false,
 oG (some 16) (.bin .lss) [.t 15,.c (.int .i64 (0))] 14 false,
 oA 17 .pick [.t 14,.c (.bool true),.t 16],
 oM 18 17,
 oG (some 19) .move [.t 1] 18 false,
 oG (some 20) (.bin .gtr) [.t 19,.c (.int .i64 (512))] 18 false,
 oA 21 .pick [.t 18,.c (.bool true),.t 20],
 oM 22 21,
 oG (some 23) .move [.t 2] 22 false,
 oG (some 24) .move [.t 1] 22 false,
 oG (some 25) (.bin .sub) [.c (.int .i64 (512)),.t 24] 22 false,
 oG (some 26) (.bin .gtr) [.t 23,.t 25] 22 false,
 oA 27 .pick [.t 22,.c (.bool true),.t 26]] [0,1,2,27])
 (.cond (.t 27) (.seq (cR [oA 6 .move [.c (.bool false)]] [6])
 (.ret))
 (.skip)))
 (.seq (cR [oA 7 .move [.c (.int .i64 (0))]] [0,1,2,7])
 (.seq (.seq (cR [oA 8 .move [.c (.int .i64 (0))]] [0,1,2,7,8])
 (.block 0 (.loop [0,1,2,7,8] l52_0)))
 (.seq (.seq (cD [⟨[oM 45 7,
 oM 46 0,
 oA 47 .nilCheck [.t 46],
 oA 48 (.fieldAddr 0) [.t 47],
 oA 49 (.load false 1) [.t 48],
 oM 50 0,
 oA 51 .nilCheck [.t 50],
 oA 52 (.fieldAddr 1) [.t 51],
 oA 53 (.load false 1) [.t 52],
 oA 54 .lenS [.t 53],
 oA 55 (.bin .sub) [.t 49,.t 54],
 oA 56 (.bin .gtr) [.t 45,.t 55]],none,[],[]⟩] [45,46,47,48,49,50,51,52,53,54,55,56] [0,1,2,56])
 (.cond (.t 56) (.seq (cR [oA 6 .move [.c (.bool false)]] [6])
 (.ret))
 (.skip)))
 (.seq (.seq (cR [oA 11 .move [.c (.int .i64 (0))]] [0,1,2,11])
 (.block 2 (.loop [0,1,2,11] l52_1)))
 (.seq (cR [oA 6 .move [.c (.bool true)]] [6])
 (.ret))))))),
 [.tmp 6], none⟩

def f53 : Func := ⟨.seq (cR [oA 1 (.box 34 1) [.t 0],
 oA 2 .move [.c (.pointer none)],
 oA 3 .move [.c (.int .i64 (0))]] [1])
 (.seq (.seq (cR [oA 9 (.load false 1) [.t 1],
 oA 10 .call [.c (.func (.func 79) #[] #[]),.t 9],
 oA 11 (.bin .eql) [.t 10,.c (.int .i64 (0))]] [1,11])
 (.cond (.t 11) (.seq (cR [oA 2 .move [.c (.pointer none)],
 oA 3 .move [.c (.int .i64 (1))]] [2,3])
 (.ret))
 (.skip)))
 (.seq (cR [oA 12 (.load false 1) [.t 1],
 oA 13 (.build [(.pointer none), (.int .i64 (0)), (.int .i64 (0)), (.int .i64 (0)), (.float .f64 0), (.int .i64 (0)), (.int .i64 (0)), (.int .i64 (0)), (.int .i64 (0)), (.pointer none), (.pointer none), (.pointer none), (.bool false)] [(0, 1)]) [.t 12],
 oA 14 (.box 129 13) [.t 13],
 oA 4 (.new 63 1 [(.pointer none)]) [],
 oN (.store 1) [.t 4,.t 14]] [1,4])
 (.seq (cR [oA 5 (.new 40 1 [(.slice none 0 0)]) [],
 oA 6 (.new 40 1 [(.slice none 0 0)]) []] [1,4,5,6])
 (.seq (cR [oA 7 (.new 61 1 [(.slice none 0 0)]) []] [1,4,5,6,7])
 (.seq (cR [oA 15 (.load false 1) [.t 1],
 oA 16 (.func 81 1) [.t 15],
 oA 17 (.func 82 0) [.t 1,.t 5],
 oA 18 (.func 84 0) [.t 1,.t 6],
 oA 19 (.func 85 0) [.t 5,.t 6,.t 4,.t 1],
 oA 20 (.func 87 0) [.t 1,.t 4,.t 7],
 oA 21 (.func 91 0) [.t 7,.t 1,.t 4],
 oA 22 (.buildSlice 87 1 6 [.nilFunc, .nilFunc, .nilFunc, .nilFunc, .nilFunc, .nilFunc] [(0, 1), (1, 1), (2, 1), (3, 1), (4, 1), (5, 1)]) [.t 16,.t 17,.t 18,.t 19,.t 20,.t 21],
 oA 23 .call [.c (.func (.func 80) #[] #[]),.t 22],
 oM 8 23] [1,4,8])
 (.seq (.seq (cR [oM 24 8,
 oA 25 (.bin .neq) [.t 24,.c (.int .i64 (0))]] [1,4,8,25])
 (.cond (.t 25) (.seq (cR [oM 26 8,
 oA 2 .move [.c (.pointer none)],
 oM 3 26] [2,3])
 (.ret))
 (.skip)))
 (.seq (cD [⟨[oA 27 (.load false 1) [.t 4],
 oA 28 (.load false 1) [.t 1],
 oA 29 (.load false 1) [.t 4],
 oA 30 .nilCheck [.t 29],
 oA 31 (.fieldAddr 10) [.t 30],
 oA 32 (.load false 1) [.t 31],
 oA 33 (.load false 1) [.t 4],
 oA 34 .nilCheck [.t 33],
 oA 35 (.fieldAddr 9) [.t 34],
 oA 36 (.load false 1) [.t 35],
 oA 37 (.load false 1) [.t 4],
 oA 38 .nilCheck [.t 37],
 oA 39 (.fieldAddr 1) [.t 38],
 oA 40 (.fieldAddr 0) [.t 39],
 oA 41 (.load false 1) [.t 40],
 oA 42 (.bin .add) [.t 41,.c (.int .i64 (1))]],some (oA 43 .call [.c (.func (.func 89) #[] #[]),.t 28,.t 32,.t 36,.t 42]),[27],[]⟩,
 ⟨[oA 44 .nilCheck [.t 27],
 oA 45 (.fieldAddr 11) [.t 44]],some (oN (.store 1) [.t 45,.t 43]),[],[]⟩] [27,28,29,30,31,32,33,34,35,36,37,38,39,40,41,42,43,44,45] [4])
 (.seq (cR [oA 46 (.load false 1) [.t 4],
 oM 2 46,
 oA 3 .move [.c (.int .i64 (0))]] [2,3])
 (.ret))))))))),
 [.tmp 2, .tmp 3], none⟩

def f54 : Func := ⟨.seq (cR [oA 2 .move [.c (.pointer none)]] [0])
 (.seq (cR [oM 3 0,
 oA 4 .max [.t 3,.c (.int .i64 (0))],
 oA 5 .min [.t 4,.c (.int .i64 (512))],
 oA 6 .newMap [],
 oA 7 (.build [(.int .i64 (0)), (.map none)] [(0, 1), (1, 1)]) [.t 5,.t 6],
 oA 8 (.box 162 2) [.t 7],
 oM 2 8] [2])
 (.ret)),
 [.tmp 2], none⟩

def f55 : Func := ⟨.seq (cR [oA 2 .move [.c (.bool false)]] [0])
 (.seq (cR [oM 3 0,
 oA 4 (.isNil .ptr true) [.t 3],
 oM 5 4,
 oG (some 6) .move [.t 0] 5 true,
 oG (some 7) .nilCheck [.t 6] 5 true,
 oG (some 8) (.fieldAddr 11) [.t 7] 5 true,
 oG (some 9) (.load false 1) [.t 8] 5 true,
 oG (some 10) (.isNil .ptr true) [.t 9] 5 true,
 oA 11 .pick [.t 5,.t 10,.c (.bool false)],
 oM 2 11] [2])
 (.ret)),
 [.tmp 2], none⟩

def l56_0 : Code :=
 .seq (cR [oA 34 (.bin .lss) [.t 33,.t 32]] [0,3,6,31,32,33,34])
 (.seq (.cond (.t 34) (.skip)
 (.exit 0))
 (.seq (.block 1 (.seq (cR [oA 35 (.idxAddr 3) [.t 31,.t 33],
 oA 36 (.load true 3) [.t 35],
 oA 10 (.new 73 3 [(.int .i64 (0)), (.int .i64 (0)), (.int .i64 (0))]) [],
 oN (.store 3) [.t 10,.t 36]] [0,3,6,10,31,32,33])
 (cR [oM 37 6,
 oA 38 (.fieldAddr 0) [.t 10],
 oA 39 (.load false 1) [.t 38],
 oA 40 (.fieldAddr 1) [.t 10],
 oA 41 (.load false 1) [.t 40],
 oA 42 (.build [(.int .i64 (0)), (.int .i64 (0))] [(0, 1), (1, 1)]) [.t 39,.t 41],
 oA 43 (.fieldAddr 2) [.t 10],
 oA 44 (.load false 1) [.t 43],
 oA 45 (.build [(.int .i64 (0)), (.int .i64 (0)), (.int .i64 (0)), (.bool false), (.slice none 0 0)] [(0, 2), (2, 1), (3, 1)]) [.t 42,.t 44,.c (.bool true)],
 oA 46 (.buildSlice 70 5 1 [(.int .i64 (0)), (.int .i64 (0)), (.int .i64 (0)), (.bool false), (.slice none 0 0)] [(0, 5)]) [.t 45],
 oA 47 (.append 70 5 56) [.t 37,.t 46],
 oM 6 47] [0,3,6,31,32,33])))
 (cR [oA 48 (.bin .add) [.t 33,.c (.int .i64 (1))],
 oM 33 48] [0,3,6,31,32,33])))
def l56_1 : Code :=
 .seq (cR [oA 63 (.bin .lss) [.t 62,.t 61]] [6,12,60,61,62,63])
 (.seq (.cond (.t 63) (.skip)
 (.exit 2))
 (.seq (.block 3 (.seq (cR [oA 64 (.idxAddr 5) [.t 60,.t 62],
 oA 65 (.load true 5) [.t 64],
 oA 14 (.new 112 5 [(.int .i64 (0)), (.int .i64 (0)), (.int .i64 (0)), (.int .i64 (0)), (.int .i64 (0))]) [],
 oN (.store 5) [.t 14,.t 65]] [6,12,14,60,61,62])
 (.seq (cR [oA 66 (.fieldAddr 1) [.t 14],
 oA 67 (.fieldAddr 0) [.t 66],
 oA 68 (.load false 1) [.t 67],
 oA 69 (.fieldAddr 1) [.t 14],
 oA 70 (.fieldAddr 1) [.t 69],
 oA 71 (.load false 1) [.t 70],
 oA 72 (.fieldAddr 4) [.t 14],
 oA 73 (.load false 1) [.t 72],
 oA 74 (.build [(.int .i64 (0)), (.int .i64 (0)), (.int .i64 (0))] [(0, 1), (1, 1), (2, 1)]) [.t 68,.t 71,.t 73],
 oA 15 (.new 73 3 [(.int .i64 (0)), (.int .i64 (0)), (.int .i64 (0))]) [],
 oN (.store 3) [.t 15,.t 74]] [6,12,14,15,60,61,62])
 (.seq (.seq (cR [oM 75 12,
 oA 76 (.load true 3) [.t 15],
 oA 77 (.lookup (some 3) (.int .i64 (0)) false) [.t 75,.t 76],
 oA 78 (.bin .eql) [.t 77,.c (.int .i64 (0))]] [6,12,14,15,60,61,62,78])
 (.cond (.t 78) (.seq (cR [oM 79 6,
 oA 80 (.fieldAddr 0) [.t 15],
 oA 81 (.load false 1) [.t 80],
 oA 82 (.fieldAddr 1) [.t 15],
 oA 83 (.load false 1) [.t 82],
 oA 84 (.build [(.int .i64 (0)), (.int .i64 (0))] [(0, 1), (1, 1)]) [.t 81,.t 83],
 oA 85 (.fieldAddr 2) [.t 15],
 oA 86 (.load false 1) [.t 85],
 oA 87 (.build [(.int .i64 (0)), (.int .i64 (0)), (.int .i64 (0)), (.bool false), (.slice none 0 0)] [(0, 2), (2, 1)]) [.t 84,.t 86],
 oA 88 (.buildSlice 70 5 1 [(.int .i64 (0)), (.int .i64 (0)), (.int .i64 (0)), (.bool false), (.slice none 0 0)] [(0, 5)]) [.t 87],
 oA 89 (.append 70 5 56) [.t 79,.t 88],
 oM 6 89] [6,12,14,15,60,61,62])
 (cR [oM 90 12,
 oA 91 (.load true 3) [.t 15],
 oM 92 6,
 oA 93 .lenS [.t 92],
 oN (.mapSet (some 3)) [.t 90,.t 91,.t 93]] [6,12,14,15,60,61,62]))
 (.skip)))
 (.seq (cR [oM 94 6,
 oM 95 12,
 oA 96 (.load true 3) [.t 15],
 oA 97 (.lookup (some 3) (.int .i64 (0)) false) [.t 95,.t 96],
 oA 98 (.bin .sub) [.t 97,.c (.int .i64 (1))],
 oA 99 (.idxAddr 5) [.t 94,.t 98],
 oM 16 99] [6,12,14,16,60,61,62])
 (cD [⟨[oM 100 16,
 oM 101 16,
 oA 102 .nilCheck [.t 101],
 oA 103 (.fieldAddr 4) [.t 102],
 oA 104 (.load false 1) [.t 103],
 oA 105 (.fieldAddr 0) [.t 14],
 oA 106 (.load false 1) [.t 105]],some (oA 107 (.buildSlice 3 1 1 [(.int .i64 (0))] [(0, 1)]) [.t 106]),[104],[]⟩,
 ⟨[],some (oA 108 (.append 3 1 8) [.t 104,.t 107]),[],[]⟩,
 ⟨[oA 109 .nilCheck [.t 100],
 oA 110 (.fieldAddr 4) [.t 109]],some (oN (.store 1) [.t 110,.t 108]),[],[]⟩] [100,101,102,103,104,105,106,107,108,109,110] [6,12,60,61,62]))))))
 (cR [oA 111 (.bin .add) [.t 62,.c (.int .i64 (1))],
 oM 62 111] [6,12,60,61,62])))
def l56_2 : Code :=
 .seq (.seq (cR [oM 114 17,
 oM 115 6,
 oA 116 .lenS [.t 115],
 oA 117 (.bin .lss) [.t 114,.t 116]] [6,17,117])
 (.cond (.t 117) (.skip)
 (.exit 4)))
 (.seq (.block 5 (.seq (cR [oM 120 6,
 oM 121 17,
 oA 122 (.bin .sub) [.t 121,.c (.int .i64 (1))],
 oA 123 (.idxAddr 5) [.t 120,.t 122],
 oA 124 (.fieldAddr 0) [.t 123],
 oA 125 (.load true 2) [.t 124],
 oA 18 (.new 67 2 [(.int .i64 (0)), (.int .i64 (0))]) [],
 oN (.store 2) [.t 18,.t 125]] [6,17,18])
 (.seq (cD [⟨[oA 126 (.fieldAddr 0) [.t 18],
 oA 127 (.load false 1) [.t 126],
 oA 128 (.fieldAddr 1) [.t 18],
 oA 129 (.load false 1) [.t 128],
 oA 130 (.bin .add) [.t 127,.t 129],
 oM 131 6,
 oM 132 17,
 oA 133 (.idxAddr 5) [.t 131,.t 132],
 oA 134 (.fieldAddr 0) [.t 133],
 oA 135 (.fieldAddr 0) [.t 134],
 oA 136 (.load false 1) [.t 135],
 oA 137 (.bin .gtr) [.t 130,.t 136]],none,[],[]⟩] [126,127,128,129,130,131,132,133,134,135,136,137] [6,17,137])
 (.cond (.t 137) (.seq (cR [oA 4 .move [.c (.slice none 0 0)],
 oA 5 .move [.c (.int .i64 (4))]] [4,5])
 (.ret))
 (.skip)))))
 (cR [oM 118 17,
 oA 119 (.bin .add) [.t 118,.c (.int .i64 (1))],
 oM 17 119] [6,17]))
def f56 : Func := ⟨.seq (cR [oA 3 (.box 75 4) [.t 1],
 oA 4 .move [.c (.slice none 0 0)],
 oA 5 .move [.c (.int .i64 (0))]] [0,3])
 (.seq (.seq (cR [oM 19 0,
 oA 20 (.isNil .ptr false) [.t 19]] [0,3,20])
 (.cond (.t 20) (.seq (cR [oA 4 .move [.c (.slice none 0 0)],
 oA 5 .move [.c (.int .i64 (1))]] [4,5])
 (.ret))
 (.skip)))
 (.seq (cR [oA 6 .move [.c (.slice none 0 0)]] [0,3,6])
 (.seq (cR [oM 22 0,
 oA 23 (.iface 118) [.t 22],
 oA 24 (.load true 4) [.t 3],
 oA 25 .call [.c (.func (.func 93) #[] #[]),.t 23,.t 24],
 oM 21 25,
 oA 26 (.extract 0) [.t 21],
 oA 27 (.extract 1) [.t 21],
 oM 7 26,
 oM 8 27] [0,3,6,7,8])
 (.seq (.seq (cR [oM 28 8,
 oA 29 (.bin .neq) [.t 28,.c (.int .i64 (0))]] [0,3,6,7,8,29])
 (.cond (.t 29) (.seq (cR [oM 30 8,
 oA 4 .move [.c (.slice none 0 0)],
 oM 5 30] [4,5])
 (.ret))
 (.skip)))
 (.seq (.seq (cR [oM 31 7,
 oA 32 .lenS [.t 31],
 oA 33 .move [.c (.int .i64 (0))]] [0,3,6,31,32,33])
 (.block 0 (.loop [0,3,6,31,32,33] l56_0)))
 (.seq (cR [oM 50 0,
 oA 51 (.iface 118) [.t 50],
 oA 52 (.load true 4) [.t 3],
 oA 53 .call [.c (.func (.func 94) #[] #[]),.t 51,.t 52],
 oM 49 53,
 oA 54 (.extract 0) [.t 49],
 oA 55 (.extract 1) [.t 49],
 oM 11 54,
 oM 8 55] [6,8,11])
 (.seq (.seq (cR [oM 56 8,
 oA 57 (.bin .neq) [.t 56,.c (.int .i64 (0))]] [6,8,11,57])
 (.cond (.t 57) (.seq (cR [oM 58 8,
 oA 4 .move [.c (.slice none 0 0)],
 oM 5 58] [4,5])
 (.ret))
 (.skip)))
 (.seq (cR [oA 59 .newMap [],
 oM 12 59] [6,11,12])
 (.seq (.seq (cR [oM 60 11,
 oA 61 .lenS [.t 60],
 oA 62 .move [.c (.int .i64 (0))]] [6,12,60,61,62])
 (.block 2 (.loop [6,12,60,61,62] l56_1)))
 (.seq (cR [oM 112 6,
 oA 113 .call [.c (.func (.func 95) #[] #[]),.t 112,.c (.func (.func 96) #[] #[])]] [6])
 (.seq (.seq (cR [oA 17 .move [.c (.int .i64 (1))]] [6,17])
 (.block 4 (.loop [6,17] l56_2)))
 (.seq (cR [oM 138 6,
 oM 4 138,
 oA 5 .move [.c (.int .i64 (0))]] [4,5])
 (.ret))))))))))))),
 [.tmp 4, .tmp 5], none⟩

def f57 : Func := ⟨.seq (cR [oA 2 .move [.c (.slice none 0 0)]] [0])
 (.seq (.seq (cR [oM 3 0,
 oA 4 (.isNil .slice false) [.t 3]] [0,4])
 (.cond (.t 4) (.seq (cR [oA 2 .move [.c (.slice none 0 0)]] [2])
 (.ret))
 (.skip)))
 (.seq (cR [oA 5 (.buildSlice 132 2 0 [] []) [],
 oM 6 0,
 oA 7 (.append 132 2 16) [.t 5,.t 6],
 oM 2 7] [2])
 (.ret))),
 [.tmp 2], none⟩

def f58 : Func := ⟨.seq (cR [oA 2 .move [.c (.bool false)]] [0])
 (.seq (cR [oM 3 0,
 oA 4 .call [.c (.func (.func 55) #[] #[]),.t 3],
 oM 5 4,
 oG (some 6) .move [.t 0] 5 true,
 oG (some 7) .nilCheck [.t 6] 5 true,
 oG (some 8) (.fieldAddr 12) [.t 7] 5 true,
 oG (some 9) (.load false 1) [.t 8] 5 true,
 oA 10 .pick [.t 5,.t 9,.c (.bool false)],
 oM 2 10] [2])
 (.ret)),
 [.tmp 2], none⟩
end Go.Proofs.YtdbbkaeoinalpaaGreat.AM
