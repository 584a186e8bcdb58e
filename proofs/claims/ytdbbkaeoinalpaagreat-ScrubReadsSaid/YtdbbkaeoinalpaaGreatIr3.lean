/- The program as the abstract machine reads it (printed by gen_ir.py), part 3. -/
import Derived.Test.YtdbbkaeoinalpaaGreatAm
namespace Go.Proofs.YtdbbkaeoinalpaaGreat.AM
def f230 : Func := ⟨.seq (.seq (cR [oM 9 1,
 oA 10 .nilCheck [.t 9],
 oA 11 (.fieldAddr 0) [.t 10],
 oA 12 (.fieldAddr 1) [.t 11],
 oA 13 (.load false 1) [.t 12],
 oA 14 .lenS [.t 13],
 oA 15 (.bin .eql) [.t 14,.c (.int .i64 (1))]] [0,1,2,15])
 (.cond (.t 15) (.seq (.seq (cR [oM 16 1,
 oA 17 .nilCheck [.t 16],
 oA 18 (.fieldAddr 7) [.t 17],
 oA 19 (.load false 1) [.t 18],
 oA 20 (.idxAddr 1) [.t 19,.c (.int .i64 (0))],
 oA 21 (.load false 1) [.t 20],
 oA 22 .nilCheck [.t 21],
 oA 23 (.fieldAddr 0) [.t 22],
 oA 24 (.fieldAddr 1) [.t 23],
 oA 25 (.load false 1) [.t 24],
 oA 26 .lenS [.t 25],
 oA 27 (.bin .eql) [.t 26,.c (.int .i64 (0))]] [1,27])
 (.cond (.t 27) (cR [oM 28 1,
 oA 29 .call [.c (.func (.func 264) #[] #[]),.t 28,.c (.int .i64 (0))]] [])
 (.skip)))
 (.ret))
 (.skip)))
 (.seq (cR [oM 30 2,
 oM 31 1,
 oA 32 .nilCheck [.t 31],
 oA 33 (.fieldAddr 0) [.t 32],
 oA 34 (.fieldAddr 1) [.t 33],
 oA 35 (.load false 1) [.t 34],
 oA 36 .lenS [.t 35],
 oA 37 (.bin .sub) [.t 36,.c (.int .i64 (2))],
 oA 38 .min [.t 30,.t 37],
 oM 2 38] [0,1,2])
 (.seq (cR [oM 39 0,
 oM 40 1,
 oM 41 2,
 oA 42 .call [.c (.func (.func 229) #[] #[]),.t 39,.t 40,.t 41],
 oM 43 0,
 oM 44 1,
 oM 45 2,
 oA 46 (.bin .add) [.t 45,.c (.int .i64 (1))],
 oA 47 .call [.c (.func (.func 229) #[] #[]),.t 43,.t 44,.t 46],
 oM 6 42,
 oM 7 47] [1,2,6,7])
 (.seq (cR [oM 48 6,
 oM 49 7,
 oA 50 .call [.c (.func (.func 265) #[] #[]),.t 48,.t 49]] [1,2,6])
 (.seq (cR [oM 51 1,
 oM 52 2,
 oA 53 (.bin .add) [.t 52,.c (.int .i64 (1))],
 oA 54 .call [.c (.func (.func 264) #[] #[]),.t 51,.t 53]] [1,2,6])
 (.seq (.seq (cR [oM 55 6,
 oA 56 .nilCheck [.t 55],
 oA 57 (.fieldAddr 0) [.t 56],
 oA 58 (.fieldAddr 1) [.t 57],
 oA 59 (.load false 1) [.t 58],
 oA 60 .lenS [.t 59],
 oM 8 60] [1,2,6,8])
 (.seq (cR [oM 61 8,
 oA 62 (.bin .gtr) [.t 61,.c (.int .i64 (8))]] [1,2,6,8,62])
 (.cond (.t 62) (cR [oM 63 1,
 oM 64 2,
 oA 65 (.bin .add) [.t 64,.c (.int .i64 (1))],
 oM 66 6,
 oM 67 8,
 oA 68 (.bin .quo) [.t 67,.c (.int .i64 (2))],
 oA 69 .call [.c (.func (.func 266) #[] #[]),.t 66,.t 68],
 oA 70 .call [.c (.func (.func 234) #[] #[]),.t 63,.t 65,.t 69]] [1,2,6])
 (.skip))))
 (.seq (cR [oM 71 6,
 oA 72 .nilCheck [.t 71],
 oA 73 (.fieldAddr 0) [.t 72],
 oA 74 (.fieldAddr 1) [.t 73],
 oA 75 (.load false 1) [.t 74],
 oA 76 .lenS [.t 75],
 oA 77 (.bin .eql) [.t 76,.c (.int .i64 (0))]] [1,2,77])
 (.cond (.t 77) (cR [oM 78 1,
 oM 79 2,
 oA 80 .call [.c (.func (.func 264) #[] #[]),.t 78,.t 79]] [])
 (.skip)))))))),
 [], none⟩

def f231 : Func := ⟨.seq (cR [oA 6 .move [.c (.slice none 0 0)]] [0,1,2])
 (.seq (cR [oM 10 0,
 oM 11 1,
 oA 12 (.slice 1 true false false) [.t 10,.t 11]] [0,1,2])
 (.seq (cR [oM 13 2,
 oA 14 .lenS [.t 13],
 oM 7 14] [0,1,2,7])
 (.seq (.seq (cR [oM 15 7,
 oA 16 (.bin .eql) [.t 15,.c (.int .i64 (0))]] [0,1,2,7,16])
 (.cond (.t 16) (.seq (cR [oM 17 0,
 oM 6 17] [6])
 (.ret))
 (.skip)))
 (.seq (cR [oM 18 0,
 oA 19 .lenS [.t 18],
 oM 8 19] [0,1,2,7,8])
 (.seq (.seq (cR [oM 20 1,
 oM 21 8,
 oA 22 (.bin .eql) [.t 20,.t 21]] [0,1,2,7,8,22])
 (.cond (.t 22) (.seq (cR [oM 23 0,
 oM 24 2,
 oA 25 (.append 3 1 8) [.t 23,.t 24],
 oM 6 25] [6])
 (.ret))
 (.skip)))
 (.seq (.seq (cR [oM 26 8,
 oM 27 7,
 oA 28 (.bin .add) [.t 26,.t 27],
 oM 29 0,
 oA 30 .cap [.t 29],
 oA 31 (.bin .gtr) [.t 28,.t 30]] [0,1,2,7,8,31])
 (.cond (.t 31) (.seq (cR [oM 32 0,
 oM 33 1,
 oA 34 (.slice 1 false true false) [.t 32,.t 33],
 oM 35 8,
 oM 36 7,
 oA 37 (.bin .add) [.t 35,.t 36],
 oM 38 1,
 oA 39 (.bin .sub) [.t 37,.t 38],
 oA 40 (.appendZ 3 1 8 [(.int .i64 (0))]) [.t 34,.t 39],
 oM 9 40] [0,1,2,7,9])
 (.seq (cR [oM 41 9,
 oM 42 1,
 oA 43 (.slice 1 true false false) [.t 41,.t 42],
 oM 44 2,
 oA 45 (.copy 1) [.t 43,.t 44]] [0,1,7,9])
 (.seq (cD [⟨[oM 46 9,
 oM 47 1,
 oM 48 7,
 oA 49 (.bin .add) [.t 47,.t 48],
 oA 50 (.slice 1 true false false) [.t 46,.t 49],
 oM 51 0,
 oM 52 1,
 oA 53 (.slice 1 true false false) [.t 51,.t 52]],some (oA 54 (.copy 1) [.t 50,.t 53]),[],[]⟩] [46,47,48,49,50,51,52,53,54] [9])
 (.seq (cR [oM 55 9,
 oM 6 55] [6])
 (.ret)))))
 (.skip)))
 (.seq (cR [oM 56 0,
 oM 57 8,
 oM 58 7,
 oA 59 (.bin .add) [.t 57,.t 58],
 oA 60 (.slice 1 false true false) [.t 56,.t 59],
 oM 0 60] [0,1,2,7,8])
 (.seq (.seq (cR [oM 61 2,
 oM 62 0,
 oM 63 1,
 oM 64 7,
 oA 65 (.bin .add) [.t 63,.t 64],
 oA 66 (.slice 1 true false false) [.t 62,.t 65],
 oA 67 .overlaps [.t 61,.t 66],
 oA 68 (.un .not) [.t 67]] [0,1,2,7,8,68])
 (.cond (.t 68) (.seq (cD [⟨[oM 69 0,
 oM 70 1,
 oM 71 7,
 oA 72 (.bin .add) [.t 70,.t 71],
 oA 73 (.slice 1 true false false) [.t 69,.t 72],
 oM 74 0,
 oM 75 1,
 oA 76 (.slice 1 true false false) [.t 74,.t 75]],some (oA 77 (.copy 1) [.t 73,.t 76]),[],[]⟩] [69,70,71,72,73,74,75,76,77] [0,1,2])
 (.seq (cR [oM 78 0,
 oM 79 1,
 oA 80 (.slice 1 true false false) [.t 78,.t 79],
 oM 81 2,
 oA 82 (.copy 1) [.t 80,.t 81]] [0])
 (.seq (cR [oM 83 0,
 oM 6 83] [6])
 (.ret))))
 (.skip)))
 (.seq (cR [oM 84 0,
 oM 85 8,
 oA 86 (.slice 1 true false false) [.t 84,.t 85],
 oM 87 2,
 oA 88 (.copy 1) [.t 86,.t 87]] [0,1,7])
 (.seq (cR [oM 89 0,
 oM 90 1,
 oA 91 (.slice 1 true false false) [.t 89,.t 90],
 oM 92 7,
 oA 93 .call [.c (.func (.func 268) #[] #[]),.t 91,.t 92]] [0])
 (.seq (cR [oM 94 0,
 oM 6 94] [6])
 (.ret)))))))))))),
 [.tmp 6], none⟩

def f232 : Func := ⟨.seq (cR [oA 6 .move [.c (.slice none 0 0)]] [0,1,2])
 (.seq (cR [oM 10 0,
 oM 11 1,
 oA 12 (.slice 3 true false false) [.t 10,.t 11]] [0,1,2])
 (.seq (cR [oM 13 2,
 oA 14 .lenS [.t 13],
 oM 7 14] [0,1,2,7])
 (.seq (.seq (cR [oM 15 7,
 oA 16 (.bin .eql) [.t 15,.c (.int .i64 (0))]] [0,1,2,7,16])
 (.cond (.t 16) (.seq (cR [oM 17 0,
 oM 6 17] [6])
 (.ret))
 (.skip)))
 (.seq (cR [oM 18 0,
 oA 19 .lenS [.t 18],
 oM 8 19] [0,1,2,7,8])
 (.seq (.seq (cR [oM 20 1,
 oM 21 8,
 oA 22 (.bin .eql) [.t 20,.t 21]] [0,1,2,7,8,22])
 (.cond (.t 22) (.seq (cR [oM 23 0,
 oM 24 2,
 oA 25 (.append 110 3 24) [.t 23,.t 24],
 oM 6 25] [6])
 (.ret))
 (.skip)))
 (.seq (.seq (cR [oM 26 8,
 oM 27 7,
 oA 28 (.bin .add) [.t 26,.t 27],
 oM 29 0,
 oA 30 .cap [.t 29],
 oA 31 (.bin .gtr) [.t 28,.t 30]] [0,1,2,7,8,31])
 (.cond (.t 31) (.seq (cR [oM 32 0,
 oM 33 1,
 oA 34 (.slice 3 false true false) [.t 32,.t 33],
 oM 35 8,
 oM 36 7,
 oA 37 (.bin .add) [.t 35,.t 36],
 oM 38 1,
 oA 39 (.bin .sub) [.t 37,.t 38],
 oA 40 (.appendZ 110 3 24 [(.int .i64 (0)), (.int .i64 (0)), (.int .i64 (0))]) [.t 34,.t 39],
 oM 9 40] [0,1,2,7,9])
 (.seq (cR [oM 41 9,
 oM 42 1,
 oA 43 (.slice 3 true false false) [.t 41,.t 42],
 oM 44 2,
 oA 45 (.copy 3) [.t 43,.t 44]] [0,1,7,9])
 (.seq (cD [⟨[oM 46 9,
 oM 47 1,
 oM 48 7,
 oA 49 (.bin .add) [.t 47,.t 48],
 oA 50 (.slice 3 true false false) [.t 46,.t 49],
 oM 51 0,
 oM 52 1,
 oA 53 (.slice 3 true false false) [.t 51,.t 52]],some (oA 54 (.copy 3) [.t 50,.t 53]),[],[]⟩] [46,47,48,49,50,51,52,53,54] [9])
 (.seq (cR [oM 55 9,
 oM 6 55] [6])
 (.ret)))))
 (.skip)))
 (.seq (cR [oM 56 0,
 oM 57 8,
 oM 58 7,
 oA 59 (.bin .add) [.t 57,.t 58],
 oA 60 (.slice 3 false true false) [.t 56,.t 59],
 oM 0 60] [0,1,2,7,8])
 (.seq (.seq (cR [oM 61 2,
 oM 62 0,
 oM 63 1,
 oM 64 7,
 oA 65 (.bin .add) [.t 63,.t 64],
 oA 66 (.slice 3 true false false) [.t 62,.t 65],
 oA 67 .overlaps [.t 61,.t 66],
 oA 68 (.un .not) [.t 67]] [0,1,2,7,8,68])
 (.cond (.t 68) (.seq (cD [⟨[oM 69 0,
 oM 70 1,
 oM 71 7,
 oA 72 (.bin .add) [.t 70,.t 71],
 oA 73 (.slice 3 true false false) [.t 69,.t 72],
 oM 74 0,
 oM 75 1,
 oA 76 (.slice 3 true false false) [.t 74,.t 75]],some (oA 77 (.copy 3) [.t 73,.t 76]),[],[]⟩] [69,70,71,72,73,74,75,76,77] [0,1,2])
 (.seq (cR [oM 78 0,
 oM 79 1,
 oA 80 (.slice 3 true false false) [.t 78,.t 79],
 oM 81 2,
 oA 82 (.copy 3) [.t 80,.t 81]] [0])
 (.seq (cR [oM 83 0,
 oM 6 83] [6])
 (.ret))))
 (.skip)))
 (.seq (cR [oM 84 0,
 oM 85 8,
 oA 86 (.slice 3 true false false) [.t 84,.t 85],
 oM 87 2,
 oA 88 (.copy 3) [.t 86,.t 87]] [0,1,7])
 (.seq (cR [oM 89 0,
 oM 90 1,
 oA 91 (.slice 3 true false false) [.t 89,.t 90],
 oM 92 7,
 oA 93 .call [.c (.func (.func 270) #[] #[]),.t 91,.t 92]] [0])
 (.seq (cR [oM 94 0,
 oM 6 94] [6])
 (.ret)))))))))))),
 [.tmp 6], none⟩

def f233 : Func := ⟨.seq (cR [oA 2 .move [.c (.pointer none)]] [0])
 (.seq (cR [oM 4 0,
 oA 5 .nilCheck [.t 4],
 oA 6 (.fieldAddr 0) [.t 5],
 oA 7 (.fieldAddr 1) [.t 6],
 oA 8 (.load false 1) [.t 7],
 oA 9 .lenS [.t 8],
 oA 10 (.bin .quo) [.t 9,.c (.int .i64 (2))],
 oM 3 10] [0,3])
 (.seq (cR [oM 11 0,
 oM 12 3,
 oA 13 .call [.c (.func (.func 266) #[] #[]),.t 11,.t 12],
 oM 2 13] [2])
 (.ret))),
 [.tmp 2], none⟩

def f234 : Func := ⟨.seq (cD [⟨[oM 6 0,
 oM 7 0,
 oA 8 .nilCheck [.t 7],
 oA 9 (.fieldAddr 0) [.t 8],
 oA 10 (.fieldAddr 1) [.t 9],
 oA 11 (.load false 1) [.t 10],
 oM 12 1,
 oM 13 2,
 oA 14 .nilCheck [.t 13],
 oA 15 (.fieldAddr 5) [.t 14],
 oA 16 (.load false 1) [.t 15]],some (oA 17 (.buildSlice 3 1 1 [(.int .i64 (0))] [(0, 1)]) [.t 16]),[11],[]⟩,
 ⟨[],some (oA 18 .call [.c (.func (.func 231) #[] #[]),.t 11,.t 12,.t 17]),[],[]⟩,
 ⟨[oA 19 .nilCheck [.t 6],
 oA 20 (.fieldAddr 0) [.t 19],
 oA 21 (.fieldAddr 1) [.t 20]],some (oN (.store 1) [.t 21,.t 18]),[],[]⟩] [6,7,8,9,10,11,12,13,14,15,16,17,18,19,20,21] [0,1,2])
 (.seq (cD [⟨[oM 22 0,
 oM 23 0,
 oA 24 .nilCheck [.t 23],
 oA 25 (.fieldAddr 0) [.t 24],
 oA 26 (.fieldAddr 4) [.t 25],
 oA 27 (.load false 1) [.t 26],
 oM 28 1,
 oM 29 2,
 oA 30 .nilCheck [.t 29],
 oA 31 (.fieldAddr 8) [.t 30],
 oA 32 (.load true 3) [.t 31]],some (oA 33 (.buildSlice 73 3 1 [(.int .i64 (0)), (.int .i64 (0)), (.int .i64 (0))] [(0, 3)]) [.t 32]),[27],[]⟩,
 ⟨[],some (oA 34 .call [.c (.func (.func 271) #[] #[]),.t 27,.t 28,.t 33]),[],[]⟩,
 ⟨[oA 35 .nilCheck [.t 22],
 oA 36 (.fieldAddr 0) [.t 35],
 oA 37 (.fieldAddr 4) [.t 36]],some (oN (.store 1) [.t 37,.t 34]),[],[]⟩] [22,23,24,25,26,27,28,29,30,31,32,33,34,35,36,37] [0,1,2])
 (.seq (cR [oM 38 0,
 oM 39 0,
 oA 40 .nilCheck [.t 39],
 oA 41 (.fieldAddr 7) [.t 40],
 oA 42 (.load false 1) [.t 41],
 oM 43 1,
 oM 44 2,
 oA 45 (.buildSlice 261 1 1 [(.pointer none)] [(0, 1)]) [.t 44],
 oA 46 .call [.c (.func (.func 272) #[] #[]),.t 42,.t 43,.t 45],
 oA 47 .nilCheck [.t 38],
 oA 48 (.fieldAddr 7) [.t 47],
 oN (.store 1) [.t 48,.t 46]] [0])
 (cR [oM 49 0,
 oA 50 .nilCheck [.t 49],
 oA 51 (.fieldAddr 11) [.t 50],
 oN (.store 1) [.t 51,.c (.bool true)]] []))),
 [], none⟩

def l235_0 : Code :=
 .seq (cR [oA 8 (.bin .lss) [.t 7,.t 6]] [0,1,6,7,8])
 (.seq (.cond (.t 8) (.skip)
 (.exit 0))
 (.seq (.block 1 (.seq (cR [oM 9 7,
 oM 4 9] [0,1,4,6,7])
 (cR [oM 10 0,
 oM 11 4,
 oM 12 1,
 oM 13 4,
 oA 14 (.bin .mul) [.c (.int .i64 (8)),.t 13],
 oA 15 (.bin .shr) [.t 12,.t 14],
 oA 16 (.toInt .u8) [.t 15],
 oA 17 (.idxAddr 1) [.t 10,.t 11],
 oN (.store 1) [.t 17,.t 16]] [0,1,6,7])))
 (cR [oA 18 (.bin .add) [.t 7,.c (.int .i64 (1))],
 oM 7 18] [0,1,6,7])))
def f235 : Func := ⟨.seq (cR [oM 5 0,
 oA 6 .lenS [.t 5],
 oA 7 .move [.c (.int .i64 (0))]] [0,1,6,7])
 (.block 0 (.loop [0,1,6,7] l235_0)),
 [], none⟩

def l237_0 : Code :=
 .seq (cR [oA 11 (.bin .lss) [.t 10,.t 9]] [0,3,8,9,10,11])
 (.seq (.cond (.t 11) (.skip)
 (.exit 0))
 (.seq (.block 1 (.seq (cR [oA 12 (.idxAddr 1) [.t 8,.t 10],
 oA 13 (.load false 1) [.t 12],
 oM 5 13] [0,3,5,8,9,10])
 (cR [oM 14 3,
 oM 15 0,
 oM 16 5,
 oA 17 (.lookup none (.agg #[(.int .i64 (0)), (.int .i64 (0)), (.int .i64 (0))]) false) [.t 15,.t 16],
 oA 18 (.field 0 true 2) [.t 17],
 oA 19 (.buildSlice 67 2 1 [(.int .i64 (0)), (.int .i64 (0))] [(0, 2)]) [.t 18],
 oA 20 (.append 67 2 16) [.t 14,.t 19],
 oM 3 20] [0,3,8,9,10])))
 (cR [oA 21 (.bin .add) [.t 10,.c (.int .i64 (1))],
 oM 10 21] [0,3,8,9,10])))
def f237 : Func := ⟨.seq (cR [oA 2 .move [.c (.slice none 0 0)]] [0])
 (.seq (cR [oA 3 .move [.c (.slice none 0 0)]] [0,3])
 (.seq (.seq (cR [oM 6 0,
 oA 7 .call [.c (.func (.func 273) #[] #[]),.t 6],
 oA 8 .call [.c (.func (.func 156) #[] #[]),.t 7],
 oA 9 .lenS [.t 8],
 oA 10 .move [.c (.int .i64 (0))]] [0,3,8,9,10])
 (.block 0 (.loop [0,3,8,9,10] l237_0)))
 (.seq (cR [oM 22 3,
 oM 2 22] [2])
 (.ret)))),
 [.tmp 2], none⟩

def l238_0 : Code :=
 .seq (cR [oA 11 (.bin .lss) [.t 10,.t 9]] [0,8,9,10,11])
 (.seq (.cond (.t 11) (.skip)
 (.exit 0))
 (.seq (.block 1 (.seq (cR [oM 12 10,
 oA 13 (.idxAddr 1) [.t 8,.t 10],
 oA 14 (.load false 1) [.t 13],
 oM 3 12,
 oM 4 14] [0,3,4,8,9,10])
 (.seq (cR [oM 15 4,
 oA 16 .call [.c (.func (.func 219) #[] #[]),.t 15,.c (.int .i64 (0)),.c (.int .i64 (511))],
 oA 17 (.un .not) [.t 16],
 oM 18 17,
 oG (some 19) .move [.t 3] 18 false,
 oG (some 20) (.bin .gtr) [.t 19,.c (.int .i64 (0))] 18 false,
 oG (some 21) .move [.t 20] 18 false,
 oG (some 22) .move [.t 4] 21 true,
 oG (some 23) .move [.t 0] 21 true,
 oG (some 24) .move [.t 3] 21 true,
 oG (some 25) (.bin .sub) [.t 24,.c (.int .i64 (1))] 21 true,
 oG (some 26) (.idxAddr 1) [.t 23,.t 25] 21 true,
 oG (some 27) (.load false 1) [.t 26] 21 true,
 oG (some 28) (.bin .leq) [.t 22,.t 27] 21 true,
 oG (some 29) .pick [.t 21,.t 28,.c (.bool false)] 18 false,
 oA 30 .pick [.t 18,.c (.bool true),.t 29]] [0,8,9,10,30])
 (.cond (.t 30) (.seq (cR [oA 2 .move [.c (.bool false)]] [2])
 (.ret))
 (.skip)))))
 (cR [oA 31 (.bin .add) [.t 10,.c (.int .i64 (1))],
 oM 10 31] [0,8,9,10])))
def f238 : Func := ⟨.seq (cR [oA 2 .move [.c (.bool false)]] [0])
 (.seq (.seq (cR [oM 5 0,
 oA 6 .lenS [.t 5],
 oA 7 (.bin .gtr) [.t 6,.c (.int .i64 (8))]] [0,7])
 (.cond (.t 7) (.seq (cR [oA 2 .move [.c (.bool false)]] [2])
 (.ret))
 (.skip)))
 (.seq (.seq (cR [oM 8 0,
 oA 9 .lenS [.t 8],
 oA 10 .move [.c (.int .i64 (0))]] [0,8,9,10])
 (.block 0 (.loop [0,8,9,10] l238_0)))
 (.seq (cR [oA 2 .move [.c (.bool true)]] [2])
 (.ret)))),
 [.tmp 2], none⟩

def l239_0 : Code :=
 .seq (cR [oA 31 (.bin .lss) [.t 30,.t 29]] [1,28,29,30,31])
 (.seq (.cond (.t 31) (.skip)
 (.exit 0))
 (.seq (.block 1 (.seq (cR [oM 32 30,
 oA 33 (.idxAddr 3) [.t 28,.t 30],
 oA 34 (.load true 3) [.t 33],
 oA 4 (.new 110 3 [(.int .i64 (0)), (.int .i64 (0)), (.int .i64 (0))]) [],
 oM 3 32,
 oN (.store 3) [.t 4,.t 34]] [1,3,4,28,29,30])
 (.seq (cD [⟨[oA 35 (.load true 3) [.t 4],
 oA 36 (.fieldAddr 3) [.t 1],
 oA 37 (.load false 1) [.t 36],
 oM 38 3,
 oA 39 (.idxAddr 1) [.t 37,.t 38],
 oA 40 (.load false 1) [.t 39]],some (oA 41 .call [.c (.func (.func 162) #[] #[]),.t 35,.t 40]),[],[]⟩,
 ⟨[oA 42 (.un .not) [.t 41]],none,[],[]⟩] [35,36,37,38,39,40,41,42] [1,28,29,30,42])
 (.cond (.t 42) (.seq (cR [oA 2 .move [.c (.bool false)]] [2])
 (.ret))
 (.skip)))))
 (cR [oA 43 (.bin .add) [.t 30,.c (.int .i64 (1))],
 oM 30 43] [1,28,29,30])))
def f239 : Func := ⟨.seq (cR [oA 1 (.box 205 5) [.t 0],
 oA 2 .move [.c (.bool false)]] [1])
 (.seq (.seq (cR [oA 5 (.fieldAddr 2) [.t 1],
 oA 6 (.load false 1) [.t 5],
 oA 7 .lenS [.t 6],
 oA 8 (.fieldAddr 1) [.t 1],
 oA 9 (.load false 1) [.t 8],
 oA 10 .lenS [.t 9],
 oA 11 (.bin .neq) [.t 7,.t 10],
 oM 12 11,
 oG (some 13) (.fieldAddr 3) [.t 1] 12 false,
 oG (some 14) (.load false 1) [.t 13] 12 false,
 oG (some 15) .lenS [.t 14] 12 false,
 oG (some 16) (.fieldAddr 1) [.t 1] 12 false,
 oG (some 17) (.load false 1) [.t 16] 12 false,
 oG (some 18) .lenS [.t 17] 12 false,
 oG (some 19) (.bin .neq) [.t 15,.t 18] 12 false,
 oA 20 .pick [.t 12,.c (.bool true),.t 19],
 oM 21 20,
 oG (some 22) (.fieldAddr 4) [.t 1] 21 false,
 oG (some 23) (.load false 1) [.t 22] 21 false,
 oG (some 24) .lenS [.t 23] 21 false,
 oG (some 25) (.bin .gtr) [.t 24,.c (.int .i64 (0))] 21 false,
 oA 26 .pick [.t 21,.c (.bool true),.t 25]] [1,26])
 (.cond (.t 26) (.seq (cR [oA 2 .move [.c (.bool false)]] [2])
 (.ret))
 (.skip)))
 (.seq (.seq (cR [oA 27 (.fieldAddr 2) [.t 1],
 oA 28 (.load false 1) [.t 27],
 oA 29 .lenS [.t 28],
 oA 30 .move [.c (.int .i64 (0))]] [1,28,29,30])
 (.block 0 (.loop [1,28,29,30] l239_0)))
 (.seq (cR [oA 2 .move [.c (.bool true)]] [2])
 (.ret)))),
 [.tmp 2], none⟩

def f240 : Func := ⟨.seq (cR [oA 1 (.box 205 5) [.t 0],
 oA 2 .move [.c (.bool false)]] [1])
 (.seq (cR [oA 3 .move [.c (.func (.func 274) #[] #[])]] [1,3])
 (.seq (cR [oA 4 (.fieldAddr 1) [.t 1],
 oA 5 (.load false 1) [.t 4],
 oA 6 .lenS [.t 5],
 oA 7 (.bin .gtr) [.t 6,.c (.int .i64 (0))],
 oM 8 7,
 oG (some 9) (.fieldAddr 4) [.t 1] 8 true,
 oG (some 10) (.load false 1) [.t 9] 8 true,
 oG (some 11) .lenS [.t 10] 8 true,
 oG (some 12) (.fieldAddr 1) [.t 1] 8 true,
 oG (some 13) (.load false 1) [.t 12] 8 true,
 oG (some 14) .lenS [.t 13] 8 true,
 oG (some 15) (.bin .eql) [.t 11,.t 14] 8 true,
 oA 16 .pick [.t 8,.t 15,.c (.bool false)],
 oM 17 16,
 oG (some 18) (.fieldAddr 2) [.t 1] 17 true,
 oG (some 19) (.load false 1) [.t 18] 17 true,
 oG (some 20) .lenS [.t 19] 17 true,
 oG (some 21) (.fieldAddr 3) [.t 1] 17 true,
 oG (some 22) (.load false 1) [.t 21] 17 true,
 oG (some 23) .lenS [.t 22] 17 true,
 oG (some 24) (.bin .add) [.t 20,.t 23] 17 true,
 oG (some 25) (.bin .eql) [.t 24,.c (.int .i64 (0))] 17 true,
 oA 26 .pick [.t 17,.t 25,.c (.bool false)],
 oM 27 26,
 oG (some 28) (.fieldAddr 4) [.t 1] 27 true,
 oG (some 29) (.load false 1) [.t 28] 27 true,
 oG (some 30) .move [.t 3] 27 true,
 oG (some 31) .call [.c (.func (.func 275) #[] #[]),.t 29,.t 30] 27 true,
 oG (some 32) (.un .not) [.t 31] 27 true,
 oA 33 .pick [.t 27,.t 32,.c (.bool false)],
 oM 2 33] [2])
 (.ret))),
 [.tmp 2], none⟩

def l241_0 : Code :=
 .seq (cR [oA 23 (.bin .lss) [.t 22,.c (.int .i64 (8))]] [5,11,12,13,22,23])
 (.seq (.cond (.t 23) (.skip)
 (.exit 2))
 (.seq (.block 3 (.seq (cR [oM 24 5,
 oA 25 (.bin .and) [.t 24,.c (.int .u32 (2147483648))],
 oA 26 (.bin .neq) [.t 25,.c (.int .u32 (0))],
 oM 8 26] [5,8,11,12,13,22])
 (.seq (cR [oM 27 5,
 oA 28 (.bin .shl) [.t 27,.c (.int .u64 (1))],
 oM 5 28] [5,8,11,12,13,22])
 (.seq (cR [oM 29 8] [5,11,12,13,22,29])
 (.cond (.t 29) (cR [oM 30 5,
 oA 31 (.bin .xor) [.t 30,.c (.int .u32 (1947962583))],
 oM 5 31] [5,11,12,13,22])
 (.skip))))))
 (cR [oA 32 (.bin .add) [.t 22,.c (.int .i64 (1))],
 oM 22 32] [5,11,12,13,22])))
def l241_1 : Code :=
 .seq (cR [oA 14 (.bin .lss) [.t 13,.t 12]] [5,11,12,13,14])
 (.seq (.cond (.t 14) (.skip)
 (.exit 0))
 (.seq (.block 1 (.seq (cR [oA 15 (.idxAddr 1) [.t 11,.t 13],
 oA 16 (.load false 1) [.t 15],
 oM 7 16] [5,7,11,12,13])
 (.seq (cR [oM 17 5,
 oM 18 7,
 oA 19 (.toInt .u32) [.t 18],
 oA 20 (.bin .shl) [.t 19,.c (.int .u64 (24))],
 oA 21 (.bin .xor) [.t 17,.t 20],
 oM 5 21] [5,11,12,13])
 (.seq (cR [oA 22 .move [.c (.int .i64 (0))]] [5,11,12,13,22])
 (.block 2 (.loop [5,11,12,13,22] l241_0))))))
 (cR [oA 33 (.bin .add) [.t 13,.c (.int .i64 (1))],
 oM 13 33] [5,11,12,13])))
def f241 : Func := ⟨.seq (cR [oA 4 .move [.c (.int .u32 (0))]] [0,1])
 (.seq (cR [oM 9 0,
 oA 10 (.un .xor) [.t 9],
 oM 5 10] [1,5])
 (.seq (.seq (cR [oM 11 1,
 oA 12 .lenS [.t 11],
 oA 13 .move [.c (.int .i64 (0))]] [5,11,12,13])
 (.block 0 (.loop [5,11,12,13] l241_1)))
 (.seq (cR [oM 34 5,
 oA 35 (.un .xor) [.t 34],
 oM 4 35] [4])
 (.ret)))),
 [.tmp 4], none⟩

def f242 : Func := ⟨.seq (cR [oA 6 .move [.c (.bool false)]] [0,1,2])
 (.seq (cR [oM 7 0,
 oM 8 1,
 oA 9 (.bin .geq) [.t 7,.t 8],
 oM 10 9,
 oG (some 11) .move [.t 0] 10 true,
 oG (some 12) .move [.t 2] 10 true,
 oG (some 13) (.bin .leq) [.t 11,.t 12] 10 true,
 oA 14 .pick [.t 10,.t 13,.c (.bool false)],
 oM 6 14] [6])
 (.ret)),
 [.tmp 6], none⟩

def l243_0 : Code :=
 .seq (.seq (cR [oM 16 6,
 oM 17 0,
 oA 18 .lenS [.t 17],
 oA 19 (.bin .lss) [.t 16,.t 18]] [0,1,5,6,19])
 (.cond (.t 19) (.skip)
 (.exit 0)))
 (.seq (.block 1 (.seq (cR [oM 22 0,
 oM 23 6,
 oA 24 (.idxAddr 2) [.t 22,.t 23],
 oA 25 (.load true 2) [.t 24],
 oA 7 (.new 67 2 [(.int .i64 (0)), (.int .i64 (0))]) [],
 oN (.store 2) [.t 7,.t 25]] [0,1,5,6,7])
 (.seq (cR [oM 26 1,
 oA 27 (.load true 2) [.t 7],
 oA 28 .call [.t 26,.t 27],
 oA 29 (.un .not) [.t 28]] [0,1,5,6,7,29])
 (.cond (.t 29) (.seq (cR [oM 30 0,
 oM 31 5,
 oA 32 (.load true 2) [.t 7],
 oA 33 (.idxAddr 2) [.t 30,.t 31],
 oN (.store 2) [.t 33,.t 32]] [0,1,5,6])
 (cR [oM 34 5,
 oA 35 (.bin .add) [.t 34,.c (.int .i64 (1))],
 oM 5 35] [0,1,5,6]))
 (.skip)))))
 (cR [oM 20 6,
 oA 21 (.bin .add) [.t 20,.c (.int .i64 (1))],
 oM 6 21] [0,1,5,6]))
def f243 : Func := ⟨.seq (cR [oA 4 .move [.c (.slice none 0 0)]] [0,1])
 (.seq (cR [oM 8 0,
 oM 9 1,
 oA 10 .call [.c (.func (.func 276) #[] #[]),.t 8,.t 9],
 oM 5 10] [0,1,5])
 (.seq (.seq (cR [oM 11 5,
 oA 12 (.bin .eql) [.t 11,.c (.int .i64 (-1))]] [0,1,5,12])
 (.cond (.t 12) (.seq (cR [oM 13 0,
 oM 4 13] [4])
 (.ret))
 (.skip)))
 (.seq (.seq (cR [oM 14 5,
 oA 15 (.bin .add) [.t 14,.c (.int .i64 (1))],
 oM 6 15] [0,1,5,6])
 (.block 0 (.loop [0,1,5,6] l243_0)))
 (.seq (cR [oM 36 0,
 oM 37 5,
 oA 38 (.slice 2 true false false) [.t 36,.t 37],
 oN (.clearS [(.int .i64 (0)), (.int .i64 (0))]) [.t 38]] [0,5])
 (.seq (cR [oM 39 0,
 oM 40 5,
 oA 41 (.slice 2 false true false) [.t 39,.t 40],
 oM 4 41] [4])
 (.ret)))))),
 [.tmp 4], none⟩

def f244 : Func := ⟨.seq (cR [oA 1 (.box 67 2) [.t 0],
 oA 2 .move [.c (.bool false)]] [1])
 (.seq (cR [oA 3 (.fieldAddr 1) [.t 1],
 oA 4 (.load false 1) [.t 3],
 oA 5 (.bin .eql) [.t 4,.c (.int .i64 (0))],
 oM 2 5] [2])
 (.ret)),
 [.tmp 2], none⟩

def f245 : Func := ⟨.seq (cR [oM 2 5] [0,1,2])
 (.seq (cR [oM 6 2,
 oA 7 (.isNil .iface true) [.t 6]] [0,1,2,7])
 (.cond (.t 7) (.seq (cR [oM 9 2,
 oA 10 (.assert 336 (.agg #[(.int .i64 (0))]) true) [.t 9],
 oM 8 10,
 oA 11 (.extract 0) [.t 8],
 oA 12 (.extract 1) [.t 8],
 oA 3 (.new 336 1 [(.int .i64 (0))]) [],
 oN (.store 1) [.t 3,.t 11],
 oM 4 12] [0,1,2,3,4])
 (.seq (.seq (cR [oM 13 4,
 oA 14 (.un .not) [.t 13]] [0,1,2,3,14])
 (.cond (.t 14) (cR [oM 15 2,
 oN .panic [.t 15]] [0,1,3])
 (.skip)))
 (cD [⟨[oA 16 (.fieldAddr 0) [.t 3],
 oA 17 (.load false 1) [.t 16]],some (oN (.store 1) [.t 0,.c (.slice none 0 0)]),[17],[]⟩,
 ⟨[],some (oN (.store 1) [.t 1,.t 17]),[],[]⟩] [16,17] [])))
 (.skip))),
 [], some 5⟩

def l246_0 : Code :=
 .seq (cR [oA 91 (.bin .lss) [.t 90,.t 89]] [0,1,6,89,90,91])
 (.seq (.cond (.t 91) (.skip)
 (.exit 2))
 (.seq (.block 3 (cD [⟨[oM 92 0,
 oM 93 0,
 oA 94 .nilCheck [.t 93],
 oA 95 (.fieldAddr 1) [.t 94],
 oA 96 (.load false 1) [.t 95],
 oM 97 0,
 oA 98 .nilCheck [.t 97],
 oA 99 (.fieldAddr 1) [.t 98],
 oA 100 (.load false 1) [.t 99],
 oM 101 0,
 oA 102 .nilCheck [.t 101],
 oA 103 (.fieldAddr 1) [.t 102],
 oA 104 (.load false 1) [.t 103],
 oA 105 .lenS [.t 104],
 oM 106 6,
 oA 107 (.bin .sub) [.t 105,.t 106],
 oA 108 (.idxAddr 1) [.t 100,.t 107],
 oA 109 (.load false 1) [.t 108]],some (oA 110 (.buildSlice 5 1 1 [(.int .u8 (0))] [(0, 1)]) [.t 109]),[96],[]⟩,
 ⟨[],some (oA 111 (.append 5 1 1) [.t 96,.t 110]),[],[]⟩,
 ⟨[oA 112 .nilCheck [.t 92],
 oA 113 (.fieldAddr 1) [.t 112]],some (oN (.store 1) [.t 113,.t 111]),[],[]⟩] [92,93,94,95,96,97,98,99,100,101,102,103,104,105,106,107,108,109,110,111,112,113] [0,1,6,89,90]))
 (cR [oA 114 (.bin .add) [.t 90,.c (.int .i64 (1))],
 oM 90 114] [0,1,6,89,90])))
def l246_1 : Code :=
 .block 1 (.seq (cR [oM 10 0,
 oA 11 .call [.c (.func (.func 277) #[] #[]),.t 10,.c (.int .i64 (1))],
 oA 12 (.idxAddr 1) [.t 11,.c (.int .i64 (0))],
 oA 13 (.load false 1) [.t 12],
 oA 14 (.toInt .i64) [.t 13],
 oM 4 14] [0,1,4])
 (.seq (cR [oM 15 0,
 oM 16 0,
 oM 17 4,
 oA 18 (.bin .shr) [.t 17,.c (.int .u64 (4))],
 oA 19 .call [.c (.func (.func 278) #[] #[]),.t 16,.t 18],
 oA 20 .call [.c (.func (.func 277) #[] #[]),.t 15,.t 19],
 oM 5 20] [0,1,4,5])
 (.seq (cR [oA 6 .move [.c (.int .i64 (0))],
 oA 7 .move [.c (.int .i64 (0))]] [0,1,4,5,6,7])
 (.seq (cR [oM 21 0,
 oA 22 .nilCheck [.t 21],
 oA 23 (.fieldAddr 0) [.t 22],
 oA 24 (.load false 1) [.t 23],
 oA 25 .lenS [.t 24],
 oA 26 (.bin .eql) [.t 25,.c (.int .i64 (0))],
 oM 8 26] [0,1,4,5,6,7,8])
 (.seq (.seq (cR [oM 27 8,
 oA 28 (.un .not) [.t 27]] [0,1,4,5,6,7,8,28])
 (.cond (.t 28) (.seq (cR [oM 29 0,
 oA 30 .call [.c (.func (.func 277) #[] #[]),.t 29,.c (.int .i64 (2))],
 oM 9 30] [0,1,4,5,8,9])
 (.seq (cD [⟨[oM 31 9,
 oA 32 (.idxAddr 1) [.t 31,.c (.int .i64 (0))],
 oA 33 (.load false 1) [.t 32],
 oA 34 (.toInt .i64) [.t 33],
 oM 35 9,
 oA 36 (.idxAddr 1) [.t 35,.c (.int .i64 (1))],
 oA 37 (.load false 1) [.t 36],
 oA 38 (.toInt .i64) [.t 37],
 oA 39 (.bin .shl) [.t 38,.c (.int .u64 (8))],
 oA 40 (.bin .or) [.t 34,.t 39],
 oM 6 40],none,[],[]⟩] [31,32,33,34,35,36,37,38,39,40,6] [0,1,4,5,6,8])
 (cR [oM 41 0,
 oM 42 4,
 oA 43 (.bin .and) [.t 42,.c (.int .i64 (15))],
 oA 44 .call [.c (.func (.func 278) #[] #[]),.t 41,.t 43],
 oA 45 (.bin .add) [.t 44,.c (.int .i64 (4))],
 oM 7 45] [0,1,5,6,7,8])))
 (.skip)))
 (.seq (cR [oM 46 5,
 oA 47 .lenS [.t 46],
 oM 48 1,
 oM 49 0,
 oA 50 .nilCheck [.t 49],
 oA 51 (.fieldAddr 1) [.t 50],
 oA 52 (.load false 1) [.t 51],
 oA 53 .lenS [.t 52],
 oA 54 (.bin .sub) [.t 48,.t 53],
 oA 55 (.bin .leq) [.t 47,.t 54],
 oA 56 .call [.c (.func (.func 279) #[] #[]),.t 55,.c (.int .i64 (3))]] [0,1,5,6,7,8])
 (.seq (cR [oM 57 0,
 oM 58 0,
 oA 59 .nilCheck [.t 58],
 oA 60 (.fieldAddr 1) [.t 59],
 oA 61 (.load false 1) [.t 60],
 oM 62 5,
 oA 63 (.append 5 1 1) [.t 61,.t 62],
 oA 64 .nilCheck [.t 57],
 oA 65 (.fieldAddr 1) [.t 64],
 oN (.store 1) [.t 65,.t 63]] [0,1,6,7,8])
 (.seq (.seq (cR [oM 66 8] [0,1,6,7,66])
 (.cond (.t 66) (.exit 0)
 (.skip)))
 (.seq (cR [oM 67 6,
 oA 68 (.bin .gtr) [.t 67,.c (.int .i64 (0))],
 oM 69 68,
 oG (some 70) .move [.t 6] 69 true,
 oG (some 71) .move [.t 0] 69 true,
 oG (some 72) .nilCheck [.t 71] 69 true,
 oG (some 73) (.fieldAddr 1) [.t 72] 69 true,
 oG (some 74) (.load false 1) [.t 73] 69 true,
 oG (some 75) .lenS [.t 74] 69 true,
 oG (some 76) (.bin .leq) [.t 70,.t 75] 69 true,
 oA 77 .pick [.t 69,.t 76,.c (.bool false)],
 oA 78 .call [.c (.func (.func 279) #[] #[]),.t 77,.c (.int .i64 (4))]] [0,1,6,7])
 (.seq (cR [oM 79 7,
 oM 80 1,
 oM 81 0,
 oA 82 .nilCheck [.t 81],
 oA 83 (.fieldAddr 1) [.t 82],
 oA 84 (.load false 1) [.t 83],
 oA 85 .lenS [.t 84],
 oA 86 (.bin .sub) [.t 80,.t 85],
 oA 87 (.bin .leq) [.t 79,.t 86],
 oA 88 .call [.c (.func (.func 279) #[] #[]),.t 87,.c (.int .i64 (3))]] [0,1,6,7])
 (.seq (cR [oM 89 7,
 oA 90 .move [.c (.int .i64 (0))]] [0,1,6,89,90])
 (.block 2 (.loop [0,1,6,89,90] l246_0)))))))))))))
def f246 : Func := ⟨.seq (.block 0 (.loop [0,1] l246_1))
 (cR [oM 115 0,
 oA 116 .nilCheck [.t 115],
 oA 117 (.fieldAddr 1) [.t 116],
 oA 118 (.load false 1) [.t 117],
 oA 119 .lenS [.t 118],
 oM 120 1,
 oA 121 (.bin .eql) [.t 119,.t 120],
 oA 122 .call [.c (.func (.func 279) #[] #[]),.t 121,.c (.int .i64 (2))]] []),
 [], none⟩

def l247_0 : Code :=
 .seq (cR [oA 25 (.bin .lss) [.t 24,.t 23]] [4,5,6,7,23,24,25])
 (.seq (.cond (.t 25) (.skip)
 (.exit 0))
 (.seq (.block 1 (cD [⟨[oA 26 (.load false 1) [.t 4],
 oM 27 6,
 oM 28 7],some (oA 29 .call [.c (.func (.func 283) #[] #[]),.t 27,.t 28]),[26],[]⟩,
 ⟨[],some (oA 30 (.buildSlice 5 1 1 [(.int .u8 (0))] [(0, 1)]) [.t 29]),[26],[]⟩,
 ⟨[],some (oA 31 (.append 5 1 1) [.t 26,.t 30]),[],[]⟩,
 ⟨[],some (oN (.store 1) [.t 4,.t 31]),[],[]⟩] [26,27,28,29,30,31] [4,5,6,7,23,24]))
 (cR [oA 32 (.bin .add) [.t 24,.c (.int .i64 (1))],
 oM 24 32] [4,5,6,7,23,24])))
def f247 : Func := ⟨.seq (cR [oA 4 (.new 40 1 [(.slice none 0 0)]) [],
 oA 5 (.new 41 1 [(.int .i64 (0))]) []] [0,1,4,5])
 (.seq (.seq (cR [oM 8 1,
 oA 9 (.bin .lss) [.t 8,.c (.int .i64 (0))],
 oM 10 9,
 oG (some 11) .move [.t 1] 10 false,
 oG (some 12) (.bin .gtr) [.t 11,.c (.int .i64 (4096))] 10 false,
 oA 13 .pick [.t 10,.c (.bool true),.t 12]] [0,1,4,5,13])
 (.cond (.t 13) (.seq (cR [oN (.store 1) [.t 4,.c (.slice none 0 0)],
 oN (.store 1) [.t 5,.c (.int .i64 (1))]] [4,5])
 (.ret))
 (.skip)))
 (.seq (cR [oA 14 (.func 280 0) [.t 4,.t 5],
 oN .defer [.t 14]] [0,1,4,5])
 (.seq (cR [oM 15 0,
 oA 16 (.build [(.slice none 0 0), (.int .i64 (0))] [(0, 1)]) [.t 15],
 oA 17 (.box 381 2) [.t 16],
 oM 6 17] [1,4,5,6])
 (.seq (cR [oM 18 6,
 oA 19 .call [.c (.func (.func 281) #[] #[]),.t 18],
 oA 20 .call [.c (.func (.func 254) #[] #[]),.t 19],
 oM 7 20] [1,4,5,6,7])
 (.seq (cR [oM 21 7,
 oA 22 .call [.c (.func (.func 282) #[] #[]),.t 21]] [1,4,5,6,7])
 (.seq (.seq (cR [oM 23 1,
 oA 24 .move [.c (.int .i64 (0))]] [4,5,6,7,23,24])
 (.block 0 (.loop [4,5,6,7,23,24] l247_0)))
 (.seq (cR [oM 33 6,
 oA 34 .call [.c (.func (.func 284) #[] #[]),.t 33]] [4,5])
 (.seq (cR [oA 35 (.load false 1) [.t 4],
 oN (.store 1) [.t 4,.t 35],
 oN (.store 1) [.t 5,.c (.int .i64 (0))]] [4,5])
 (.ret))))))))),
 [.cell 4 false 1, .cell 5 false 1], none⟩

def f248 : Func := ⟨.seq (cR [oA 3 (.box 132 2) [.t 1],
 oA 4 .move [.c (.bool false)]] [0,3])
 (.seq (cR [oM 5 0,
 oA 6 (.load true 2) [.t 3],
 oA 7 .call [.c (.func (.func 285) #[] #[]),.t 5,.t 6],
 oA 8 (.bin .geq) [.t 7,.c (.int .i64 (0))],
 oM 4 8] [4])
 (.ret)),
 [.tmp 4], none⟩

def l249_0 : Code :=
 .seq (.seq (cR [oM 18 10,
 oM 19 11,
 oA 20 (.bin .neq) [.t 18,.t 19]] [0,2,4,10,11,20])
 (.cond (.t 20) (.skip)
 (.exit 0)))
 (.block 1 (.seq (cR [oM 21 10,
 oM 22 11,
 oA 23 (.bin .gtr) [.t 21,.t 22]] [0,2,4,10,11,23])
 (.cond (.t 23) (.seq (cR [oM 24 0,
 oM 25 2,
 oM 26 10,
 oA 27 (.bin .sub) [.t 25,.t 26],
 oM 28 2,
 oM 29 11,
 oM 30 4,
 oA 31 .call [.c (.func (.func 286) #[] #[]),.t 24,.t 27,.t 28,.t 29,.t 30]] [0,2,4,10,11])
 (cR [oM 32 10,
 oM 33 11,
 oA 34 (.bin .sub) [.t 32,.t 33],
 oM 10 34] [0,2,4,10,11]))
 (.seq (cR [oM 35 0,
 oM 36 2,
 oM 37 10,
 oA 38 (.bin .sub) [.t 36,.t 37],
 oM 39 2,
 oM 40 11,
 oA 41 (.bin .add) [.t 39,.t 40],
 oM 42 10,
 oA 43 (.bin .sub) [.t 41,.t 42],
 oM 44 10,
 oM 45 4,
 oA 46 .call [.c (.func (.func 286) #[] #[]),.t 35,.t 38,.t 43,.t 44,.t 45]] [0,2,4,10,11])
 (cR [oM 47 11,
 oM 48 10,
 oA 49 (.bin .sub) [.t 47,.t 48],
 oM 11 49] [0,2,4,10,11])))))
def f249 : Func := ⟨.seq (cR [oM 12 2,
 oM 13 1,
 oA 14 (.bin .sub) [.t 12,.t 13],
 oM 10 14] [0,2,3,4,10])
 (.seq (cR [oM 15 3,
 oM 16 2,
 oA 17 (.bin .sub) [.t 15,.t 16],
 oM 11 17] [0,2,4,10,11])
 (.seq (.block 0 (.loop [0,2,4,10,11] l249_0))
 (cR [oM 50 0,
 oM 51 2,
 oM 52 10,
 oA 53 (.bin .sub) [.t 51,.t 52],
 oM 54 2,
 oM 55 10,
 oM 56 4,
 oA 57 .call [.c (.func (.func 286) #[] #[]),.t 50,.t 53,.t 54,.t 55,.t 56]] []))),
 [], none⟩

def f250 : Func := ⟨.seq (cR [oM 6 0,
 oA 7 (.bin .add) [.t 6,.c (.int .i64 (4))],
 oA 8 (.load false 1) [.t 1],
 oA 9 .lenS [.t 8],
 oA 10 (.bin .leq) [.t 7,.t 9]] [0,1,2,3,10])
 (.cond (.t 10) (.seq (cR [oA 11 (.load false 1) [.t 1],
 oM 12 0,
 oM 13 0,
 oA 14 (.bin .add) [.t 13,.c (.int .i64 (4))],
 oA 15 (.slice 1 true true false) [.t 11,.t 12,.t 14],
 oA 16 (.arrPtr 4) [.t 15],
 oA 17 (.load true 4) [.t 16],
 oA 5 (.new 345 4 [(.int .u8 (0)), (.int .u8 (0)), (.int .u8 (0)), (.int .u8 (0))]) [],
 oN (.store 4) [.t 5,.t 17]] [0,2,3,5])
 (.seq (cD [⟨[oA 18 (.load false 1) [.t 3],
 oM 19 0,
 oA 20 (.load false 1) [.t 2],
 oA 21 (.load true 4) [.t 5],
 oA 22 (.lookup (some 4) (.int .i64 (0)) false) [.t 20,.t 21],
 oA 23 (.idxAddr 1) [.t 18,.t 19]],some (oN (.store 1) [.t 23,.t 22]),[],[]⟩] [18,19,20,21,22,23] [0,2,5])
 (cR [oA 24 (.load false 1) [.t 2],
 oA 25 (.load true 4) [.t 5],
 oM 26 0,
 oA 27 (.bin .add) [.t 26,.c (.int .i64 (1))],
 oN (.mapSet (some 4)) [.t 24,.t 25,.t 27]] [])))
 (.skip)),
 [], none⟩

def l251_0 : Code :=
 .seq (.seq (cD [⟨[oM 10 2,
 oM 11 9,
 oA 12 (.bin .add) [.t 10,.t 11],
 oM 13 3,
 oA 14 (.bin .lss) [.t 12,.t 13],
 oM 15 14,
 oG (some 16) .move [.t 0] 15 true,
 oG (some 17) .move [.t 1] 15 true,
 oG (some 18) .move [.t 9] 15 true,
 oG (some 19) (.bin .add) [.t 17,.t 18] 15 true,
 oG (some 20) (.idxAddr 1) [.t 16,.t 19] 15 true,
 oG (some 21) (.load false 1) [.t 20] 15 true,
 oG (some 22) .move [.t 0] 15 true,
 oG (some 23) .move [.t 2] 15 true,
 oG (some 24) .move [.t 9] 15 true,
 oG (some 25) (.bin .add) [.t 23,.t 24] 15 true,
 oG (some 26) (.idxAddr 1) [.t 22,.t 25] 15 true,
 oG (some 27) (.load false 1) [.t 26] 15 true,
 oG (some 28) (.bin .eql) [.t 21,.t 27] 15 true,
 oA 29 .pick [.t 15,.t 28,.c (.bool false)]],none,[],[]⟩] [10,11,12,13,14,15,16,17,18,19,20,21,22,23,24,25,26,27,28,29] [0,1,2,3,9,29])
 (.cond (.t 29) (.skip)
 (.exit 0)))
 (.block 1 (cR [oM 30 9,
 oA 31 (.bin .add) [.t 30,.c (.int .i64 (1))],
 oM 9 31] [0,1,2,3,9]))
def f251 : Func := ⟨.seq (cR [oA 8 .move [.c (.int .i64 (0))]] [0,1,2,3])
 (.seq (cR [oA 9 .move [.c (.int .i64 (0))]] [0,1,2,3,9])
 (.seq (.block 0 (.loop [0,1,2,3,9] l251_0))
 (.seq (cR [oM 32 9,
 oM 8 32] [8])
 (.ret)))),
 [.tmp 8], none⟩

def f252 : Func := ⟨.seq (cR [oM 9 1,
 oA 10 .lenS [.t 9],
 oA 11 .min [.t 10,.c (.int .i64 (15))],
 oA 12 (.bin .shl) [.t 11,.c (.int .u64 (4))],
 oM 8 12] [0,1,2,3,8])
 (.seq (.seq (cR [oM 13 2,
 oA 14 (.bin .gtr) [.t 13,.c (.int .i64 (0))]] [0,1,2,3,8,14])
 (.cond (.t 14) (cR [oM 15 8,
 oM 16 3,
 oA 17 (.bin .sub) [.t 16,.c (.int .i64 (4))],
 oA 18 .min [.t 17,.c (.int .i64 (15))],
 oA 19 (.bin .or) [.t 15,.t 18],
 oM 8 19] [0,1,2,3,8])
 (.skip)))
 (.seq (cR [oM 20 0,
 oM 21 0,
 oA 22 .nilCheck [.t 21],
 oA 23 (.fieldAddr 1) [.t 22],
 oA 24 (.load false 1) [.t 23],
 oM 25 8,
 oA 26 (.toInt .u8) [.t 25],
 oA 27 (.buildSlice 5 1 1 [(.int .u8 (0))] [(0, 1)]) [.t 26],
 oA 28 (.append 5 1 1) [.t 24,.t 27],
 oA 29 .nilCheck [.t 20],
 oA 30 (.fieldAddr 1) [.t 29],
 oN (.store 1) [.t 30,.t 28]] [0,1,2,3])
 (.seq (cR [oM 31 0,
 oM 32 1,
 oA 33 .lenS [.t 32],
 oA 34 .call [.c (.func (.func 287) #[] #[]),.t 31,.t 33]] [0,1,2,3])
 (.seq (cR [oM 35 0,
 oM 36 0,
 oA 37 .nilCheck [.t 36],
 oA 38 (.fieldAddr 1) [.t 37],
 oA 39 (.load false 1) [.t 38],
 oM 40 1,
 oA 41 (.append 5 1 1) [.t 39,.t 40],
 oA 42 .nilCheck [.t 35],
 oA 43 (.fieldAddr 1) [.t 42],
 oN (.store 1) [.t 43,.t 41]] [0,2,3])
 (.seq (cR [oM 44 2,
 oA 45 (.bin .gtr) [.t 44,.c (.int .i64 (0))]] [0,2,3,45])
 (.cond (.t 45) (.seq (cR [oM 46 0,
 oM 47 0,
 oA 48 .nilCheck [.t 47],
 oA 49 (.fieldAddr 1) [.t 48],
 oA 50 (.load false 1) [.t 49],
 oM 51 2,
 oA 52 (.toInt .u8) [.t 51],
 oM 53 2,
 oA 54 (.bin .shr) [.t 53,.c (.int .u64 (8))],
 oA 55 (.toInt .u8) [.t 54],
 oA 56 (.buildSlice 5 1 2 [(.int .u8 (0)), (.int .u8 (0))] [(0, 1), (1, 1)]) [.t 52,.t 55],
 oA 57 (.append 5 1 1) [.t 50,.t 56],
 oA 58 .nilCheck [.t 46],
 oA 59 (.fieldAddr 1) [.t 58],
 oN (.store 1) [.t 59,.t 57]] [0,3])
 (cR [oM 60 0,
 oM 61 3,
 oA 62 (.bin .sub) [.t 61,.c (.int .i64 (4))],
 oA 63 .call [.c (.func (.func 287) #[] #[]),.t 60,.t 62]] []))
 (.skip))))))),
 [], none⟩

def l253_0 : Code :=
 .seq (cR [oA 22 (.bin .lss) [.t 21,.c (.int .i64 (256))]] [1,2,4,5,6,20,21,22])
 (.seq (.cond (.t 22) (.skip)
 (.exit 0))
 (.seq (.block 1 (.seq (cR [oM 23 21,
 oA 24 (.idx 256 1 false) [.t 20,.t 21],
 oM 7 23,
 oM 8 24] [1,2,4,5,6,7,8,20,21])
 (.seq (cR [oM 25 8,
 oA 26 (.bin .gtr) [.t 25,.c (.int .i64 (0))]] [1,2,4,5,6,7,20,21,26])
 (.cond (.t 26) (cR [oM 27 5,
 oM 28 7,
 oA 29 (.buildSlice 3 1 1 [(.int .i64 (0))] [(0, 1)]) [.t 28],
 oA 30 (.append 3 1 8) [.t 27,.t 29],
 oM 5 30] [1,2,4,5,6,20,21])
 (.skip)))))
 (cR [oA 31 (.bin .add) [.t 21,.c (.int .i64 (1))],
 oM 21 31] [1,2,4,5,6,20,21])))
def l253_1 : Code :=
 .seq (cR [oA 46 (.bin .lss) [.t 45,.t 44]] [1,2,4,5,6,43,44,45,46])
 (.seq (.cond (.t 46) (.skip)
 (.exit 2))
 (.seq (.block 3 (.seq (cR [oA 47 (.idxAddr 1) [.t 43,.t 45],
 oA 48 (.load false 1) [.t 47],
 oM 10 48] [1,2,4,5,6,10,43,44,45])
 (cR [oM 49 6,
 oM 50 10,
 oA 51 (.idxAddrA 256 1) [.t 1,.t 50],
 oA 52 (.load false 1) [.t 51],
 oA 53 (.buildSlice 3 1 1 [(.int .i64 (0))] [(0, 1)]) [.t 52],
 oA 54 (.append 3 1 8) [.t 49,.t 53],
 oM 6 54] [1,2,4,5,6,43,44,45])))
 (cR [oA 55 (.bin .add) [.t 45,.c (.int .i64 (1))],
 oM 45 55] [1,2,4,5,6,43,44,45])))
def l253_2 : Code :=
 .seq (cR [oA 69 (.bin .lss) [.t 68,.t 67]] [2,4,5,6,66,67,68,69])
 (.seq (.cond (.t 69) (.skip)
 (.exit 6))
 (.seq (.block 7 (.seq (cR [oM 70 68,
 oA 71 (.idxAddr 1) [.t 66,.t 68],
 oA 72 (.load false 1) [.t 71],
 oM 12 70,
 oM 13 72] [2,4,5,6,12,13,66,67,68])
 (cR [oM 73 6,
 oM 74 12,
 oM 75 13,
 oA 76 (.bin .add) [.t 75,.c (.int .i64 (1))],
 oA 77 (.bin .quo) [.t 76,.c (.int .i64 (2))],
 oA 78 (.idxAddr 1) [.t 73,.t 74],
 oN (.store 1) [.t 78,.t 77]] [2,4,5,6,66,67,68])))
 (cR [oA 79 (.bin .add) [.t 68,.c (.int .i64 (1))],
 oM 68 79] [2,4,5,6,66,67,68])))
def l253_3 : Code :=
 .seq (.seq (cR [oM 58 11,
 oA 59 .lenS [.t 58],
 oA 60 (.bin .gtr) [.t 59,.c (.int .i64 (0))],
 oM 61 60,
 oG (some 62) .move [.t 11] 61 true,
 oG (some 63) .call [.c (.func (.func 292) #[] #[]),.t 62] 61 true,
 oG (some 64) (.bin .gtr) [.t 63,.c (.int .i64 (11))] 61 true,
 oA 65 .pick [.t 61,.t 64,.c (.bool false)]] [2,4,5,6,11,65])
 (.cond (.t 65) (.skip)
 (.exit 4)))
 (.block 5 (.seq (.seq (cR [oM 66 6,
 oA 67 .lenS [.t 66],
 oA 68 .move [.c (.int .i64 (0))]] [2,4,5,6,66,67,68])
 (.block 6 (.loop [2,4,5,6,66,67,68] l253_2)))
 (cR [oM 80 6,
 oA 81 .call [.c (.func (.func 291) #[] #[]),.t 80],
 oM 11 81] [2,4,5,6,11])))
def l253_4 : Code :=
 .seq (cR [oA 87 (.bin .lss) [.t 86,.t 85]] [2,4,5,84,85,86,87])
 (.seq (.cond (.t 87) (.skip)
 (.exit 8))
 (.seq (.block 9 (.seq (cR [oM 88 86,
 oA 89 (.idxAddr 1) [.t 84,.t 86],
 oA 90 (.load false 1) [.t 89],
 oM 14 88,
 oM 15 90] [2,4,5,14,15,84,85,86])
 (cR [oM 91 5,
 oM 92 14,
 oA 93 (.idxAddr 1) [.t 91,.t 92],
 oA 94 (.load false 1) [.t 93],
 oM 95 15,
 oA 96 (.idxAddrA 256 1) [.t 4,.t 94],
 oN (.store 1) [.t 96,.t 95]] [2,4,5,84,85,86])))
 (cR [oA 97 (.bin .add) [.t 86,.c (.int .i64 (1))],
 oM 86 97] [2,4,5,84,85,86])))
def f253 : Func := ⟨.seq (cR [oA 1 (.box 348 256) [.t 0],
 oA 2 (.new 348 256 (List.replicate 256 (.int .i64 (0)))) [],
 oA 3 .move [.c (.bool false)]] [1,2])
 (.seq (cR [oA 4 (.new 348 256 (List.replicate 256 (.int .i64 (0)))) []] [1,2,4])
 (.seq (.seq (cR [oA 16 (.load true 256) [.t 1],
 oA 17 .call [.c (.func (.func 288) #[] #[]),.t 16],
 oA 18 (.un .not) [.t 17]] [1,2,4,18])
 (.cond (.t 18) (.seq (cR [oA 19 (.load true 256) [.t 4],
 oN (.store 256) [.t 2,.t 19],
 oA 3 .move [.c (.bool false)]] [2,3])
 (.ret))
 (.skip)))
 (.seq (cR [oA 5 .move [.c (.slice none 0 0)],
 oA 6 .move [.c (.slice none 0 0)]] [1,2,4,5,6])
 (.seq (.seq (cR [oA 20 (.load true 256) [.t 1],
 oA 21 .move [.c (.int .i64 (0))]] [1,2,4,5,6,20,21])
 (.block 0 (.loop [1,2,4,5,6,20,21] l253_0)))
 (.seq (cR [oM 32 5,
 oA 33 (.func 290 0) [.t 1],
 oA 34 .call [.c (.func (.func 289) #[] #[]),.t 32,.t 33]] [1,2,4,5,6])
 (.seq (.seq (cR [oM 35 5,
 oA 36 .lenS [.t 35],
 oA 37 (.bin .eql) [.t 36,.c (.int .i64 (1))]] [1,2,4,5,6,37])
 (.cond (.t 37) (.seq (cR [oM 38 5,
 oA 39 (.idxAddr 1) [.t 38,.c (.int .i64 (0))],
 oA 40 (.load false 1) [.t 39],
 oA 41 (.idxAddrA 256 1) [.t 4,.t 40],
 oN (.store 1) [.t 41,.c (.int .i64 (1))]] [2,4])
 (.seq (cR [oA 42 (.load true 256) [.t 4],
 oN (.store 256) [.t 2,.t 42],
 oA 3 .move [.c (.bool true)]] [2,3])
 (.ret)))
 (.skip)))
 (.seq (.seq (cR [oM 43 5,
 oA 44 .lenS [.t 43],
 oA 45 .move [.c (.int .i64 (0))]] [1,2,4,5,6,43,44,45])
 (.block 2 (.loop [1,2,4,5,6,43,44,45] l253_1)))
 (.seq (cR [oM 56 6,
 oA 57 .call [.c (.func (.func 291) #[] #[]),.t 56],
 oM 11 57] [2,4,5,6,11])
 (.seq (.block 4 (.loop [2,4,5,6,11] l253_3))
 (.seq (cR [oM 82 11,
 oA 83 .call [.c (.func (.func 214) #[] #[]),.t 82]] [2,4,5,11])
 (.seq (.seq (cR [oM 84 11,
 oA 85 .lenS [.t 84],
 oA 86 .move [.c (.int .i64 (0))]] [2,4,5,84,85,86])
 (.block 8 (.loop [2,4,5,84,85,86] l253_4)))
 (.seq (cR [oA 98 (.load true 256) [.t 4],
 oN (.store 256) [.t 2,.t 98],
 oA 3 .move [.c (.bool true)]] [2,3])
 (.ret))))))))))))),
 [.cell 2 true 256, .tmp 3], none⟩

def l254_0 : Code :=
 .seq (cR [oA 16 (.bin .lss) [.t 15,.c (.int .i64 (256))]] [1,3,4,14,15,16])
 (.seq (.cond (.t 16) (.skip)
 (.exit 2))
 (.seq (.block 3 (.seq (cR [oM 17 15,
 oA 18 (.idx 256 1 false) [.t 14,.t 15],
 oM 5 17,
 oM 6 18] [1,3,4,5,6,14,15])
 (.seq (cR [oM 19 6,
 oM 20 4,
 oA 21 (.bin .eql) [.t 19,.t 20]] [1,3,4,5,14,15,21])
 (.cond (.t 21) (.seq (cD [⟨[oM 22 3,
 oM 23 4,
 oA 24 .nilCheck [.t 22],
 oA 25 (.fieldAddr 256) [.t 24],
 oA 26 (.idxAddrA 12 1) [.t 25,.t 23],
 oA 27 (.load false 1) [.t 26],
 oA 28 (.bin .add) [.t 27,.c (.int .i64 (1))],
 oA 29 .nilCheck [.t 22],
 oA 30 (.fieldAddr 256) [.t 29],
 oA 31 (.idxAddrA 12 1) [.t 30,.t 23]],some (oN (.store 1) [.t 31,.t 28]),[],[]⟩] [22,23,24,25,26,27,28,29,30,31] [1,3,4,5,14,15])
 (cR [oM 32 3,
 oM 33 3,
 oA 34 .nilCheck [.t 33],
 oA 35 (.fieldAddr 268) [.t 34],
 oA 36 (.load false 1) [.t 35],
 oM 37 5,
 oA 38 (.toInt .u8) [.t 37],
 oA 39 (.buildSlice 5 1 1 [(.int .u8 (0))] [(0, 1)]) [.t 38],
 oA 40 (.append 5 1 1) [.t 36,.t 39],
 oA 41 .nilCheck [.t 32],
 oA 42 (.fieldAddr 268) [.t 41],
 oN (.store 1) [.t 42,.t 40]] [1,3,4,14,15]))
 (.skip)))))
 (cR [oA 43 (.bin .add) [.t 15,.c (.int .i64 (1))],
 oM 15 43] [1,3,4,14,15])))
def l254_1 : Code :=
 .seq (.seq (cR [oM 10 4,
 oA 11 (.bin .leq) [.t 10,.c (.int .i64 (11))]] [1,3,4,11])
 (.cond (.t 11) (.skip)
 (.exit 0)))
 (.seq (.block 1 (.seq (cR [oA 14 (.load true 256) [.t 1],
 oA 15 .move [.c (.int .i64 (0))]] [1,3,4,14,15])
 (.block 2 (.loop [1,3,4,14,15] l254_0))))
 (cR [oM 12 4,
 oA 13 (.bin .add) [.t 12,.c (.int .i64 (1))],
 oM 4 13] [1,3,4]))
def f254 : Func := ⟨.seq (cR [oA 1 (.box 348 256) [.t 0],
 oA 2 .move [.c (.pointer none)]] [1])
 (.seq (cR [oA 7 (.load true 256) [.t 1],
 oA 8 (.build [(.int .i64 (0)), (.int .i64 (0)), (.int .i64 (0)), (.int .i64 (0)), (.int .i64 (0)), (.int .i64 (0)), (.int .i64 (0)), (.int .i64 (0)), (.int .i64 (0)), (.int .i64 (0)), (.int .i64 (0)), (.int .i64 (0)), (.int .i64 (0)), (.int .i64 (0)), (.int .i64 (0)), (.int .i64 (0)), (.int .i64 (0)), (.int .i64 (0)), (.int .i64 (0)), (.int .i64 (0)), (.int .i64 (0)), (.int .i64 (0)), (.int .i64 (0)), (.int .i64 (0)), (.int .i64 (0)), (.int .i64 (0)), (.int .i64 (0)), (.int .i64 (0)), (.int .i64 (0)), (.int .i64 (0)), (.int .i64 (0)), (.int .i64 (0)), (.int .i64 (0)), (.int .i64 (0)), (.int .i64 (0)), (.int .i64 (0)), (.int .i64 (0)), (.int .i64 (0)), (.int .i64 (0)), (.int .i64 (0)), (.int .i64 (0)), (.int .i64 (0)), (.int .i64 (0)), (.int .i64 (0)), (.int .i64 (0)), (.int .i64 (0)), (.int .i64 (0)), (.int .i64 (0)), (.int .i64 (0)), (.int .i64 (0)), (.int .i64 (0)), (.int .i64 (0)), (.int .i64 (0)), (.int .i64 (0)), (.int .i64 (0)), (.int .i64 (0)), (.int .i64 (0)), (.int .i64 (0)), (.int .i64 (0)), (.int .i64 (0)), (.int .i64 (0)), (.int .i64 (0)), (.int .i64 (0)), (.int .i64 (0)), (.int .i64 (0)), (.int .i64 (0)), (.int .i64 (0)), (.int .i64 (0)), (.int .i64 (0)), (.int .i64 (0)), (.int .i64 (0)), (.int .i64 (0)), (.int .i64 (0)), (.int .i64 (0)), (.int .i64 (0)), (.int .i64 (0)), (.int .i64 (0)), (.int .i64 (0)), (.int .i64 (0)), (.int .i64 (0)), (.int .i64 (0)), (.int .i64 (0)), (.int .i64 (0)), (.int .i64 (0)), (.int .i64 (0)), (.int .i64 (0)), (.int .i64 (0)), (.int .i64 (0)), (.int .i64 (0)), (.int .i64 (0)), (.int .i64 (0)), (.int .i64 (0)), (.int .i64 (0)), (.int .i64 (0)), (.int .i64 (0)), (.int .i64 (0)), (.int .i64 (0)), (.int .i64 (0)), (.int .i64 (0)), (.int .i64 (0)), (.int .i64 (0)), (.int .i64 (0)), (.int .i64 (0)), (.int .i64 (0)), (.int .i64 (0)), (.int .i64 (0)), (.int .i64 (0)), (.int .i64 (0)), (.int .i64 (0)), (.int .i64 (0)), (.int .i64 (0)), (.int .i64 (0)), (.int .i64 (0)), (.int .i64 (0)), (.int .i64 (0)), (.int .i64 (0)), (.int .i64 (0)), (.int .i64 (0)), (.int .i64 (0)), (.int .i64 (0)), (.int .i64 (0)), (.int .i64 (0)), (.int .i64 (0)), (.int .i64 (0)), (.int .i64 (0)), (.int .i64 (0)), (.int .i64 (0)), (.int .i64 (0)), (.int .i64 (0)), (.int .i64 (0)), (.int .i64 (0)), (.int .i64 (0)), (.int .i64 (0)), (.int .i64 (0)), (.int .i64 (0)), (.int .i64 (0)), (.int .i64 (0)), (.int .i64 (0)), (.int .i64 (0)), (.int .i64 (0)), (.int .i64 (0)), (.int .i64 (0)), (.int .i64 (0)), (.int .i64 (0)), (.int .i64 (0)), (.int .i64 (0)), (.int .i64 (0)), (.int .i64 (0)), (.int .i64 (0)), (.int .i64 (0)), (.int .i64 (0)), (.int .i64 (0)), (.int .i64 (0)), (.int .i64 (0)), (.int .i64 (0)), (.int .i64 (0)), (.int .i64 (0)), (.int .i64 (0)), (.int .i64 (0)), (.int .i64 (0)), (.int .i64 (0)), (.int .i64 (0)), (.int .i64 (0)), (.int .i64 (0)), (.int .i64 (0)), (.int .i64 (0)), (.int .i64 (0)), (.int .i64 (0)), (.int .i64 (0)), (.int .i64 (0)), (.int .i64 (0)), (.int .i64 (0)), (.int .i64 (0)), (.int .i64 (0)), (.int .i64 (0)), (.int .i64 (0)), (.int .i64 (0)), (.int .i64 (0)), (.int .i64 (0)), (.int .i64 (0)), (.int .i64 (0)), (.int .i64 (0)), (.int .i64 (0)), (.int .i64 (0)), (.int .i64 (0)), (.int .i64 (0)), (.int .i64 (0)), (.int .i64 (0)), (.int .i64 (0)), (.int .i64 (0)), (.int .i64 (0)), (.int .i64 (0)), (.int .i64 (0)), (.int .i64 (0)), (.int .i64 (0)), (.int .i64 (0)), (.int .i64 (0)), (.int .i64 (0)), (.int .i64 (0)), (.int .i64 (0)), (.int .i64 (0)), (.int .i64 (0)), (.int .i64 (0)), (.int .i64 (0)), (.int .i64 (0)), (.int .i64 (0)), (.int .i64 (0)), (.int .i64 (0)), (.int .i64 (0)), (.int .i64 (0)), (.int .i64 (0)), (.int .i64 (0)), (.int .i64 (0)), (.int .i64 (0)), (.int .i64 (0)), (.int .i64 (0)), (.int .i64 (0)), (.int .i64 (0)), (.int .i64 (0)), (.int .i64 (0)), (.int .i64 (0)), (.int .i64 (0)), (.int .i64 (0)), (.int .i64 (0)), (.int .i64 (0)), (.int .i64 (0)), (.int .i64 (0)), (.int .i64 (0)), (.int .i64 (0)), (.int .i64 (0)), (.int .i64 (0)), (.int .i64 (0)), (.int .i64 (0)), (.int .i64 (0)), (.int .i64 (0)), (.int .i64 (0)), (.int .i64 (0)), (.int .i64 (0)), (.int .i64 (0)), (.int .i64 (0)), (.int .i64 (0)), (.int .i64 (0)), (.int .i64 (0)), (.int .i64 (0)), (.int .i64 (0)), (.int .i64 (0)), (.int .i64 (0)), (.int .i64 (0)), (.int .i64 (0)), (.int .i64 (0)), (.int .i64 (0)), (.int .i64 (0)), (.int .i64 (0)), (.int .i64 (0)), (.int .i64 (0)), (.int .i64 (0)), (.int .i64 (0)), (.int .i64 (0)), (.int .i64 (0)), (.int .i64 (0)), (.int .i64 (0)), (.int .i64 (0)), (.int .i64 (0)), (.int .i64 (0)), (.int .i64 (0)), (.int .i64 (0)), (.int .i64 (0)), (.int .i64 (0)), (.slice none 0 0)] [(0, 256)]) [.t 7],
 oA 9 (.box 389 269) [.t 8],
 oM 3 9] [1,3])
 (.seq (.seq (cR [oA 4 .move [.c (.int .i64 (1))]] [1,3,4])
 (.block 0 (.loop [1,3,4] l254_1)))
 (.seq (cR [oM 44 3,
 oM 2 44] [2])
 (.ret)))),
 [.tmp 2], none⟩

def l255_0 : Code :=
 .seq (cR [oA 20 (.bin .lss) [.t 19,.t 18]] [0,2,3,4,5,6,18,19,20])
 (.seq (.cond (.t 20) (.skip)
 (.exit 2))
 (.seq (.block 3 (.seq (cR [oM 21 0,
 oA 22 .nilCheck [.t 21],
 oA 23 (.fieldAddr 268) [.t 22],
 oA 24 (.load false 1) [.t 23],
 oM 25 5,
 oA 26 (.idxAddr 1) [.t 24,.t 25],
 oA 27 (.load false 1) [.t 26],
 oM 28 4,
 oA 29 (.idxAddrA 256 1) [.t 3,.t 27],
 oN (.store 1) [.t 29,.t 28]] [0,2,3,4,5,6,18,19])
 (.seq (cR [oM 30 4,
 oA 31 (.bin .add) [.t 30,.c (.int .i64 (1))],
 oM 4 31] [0,2,3,4,5,6,18,19])
 (cR [oM 32 5,
 oA 33 (.bin .add) [.t 32,.c (.int .i64 (1))],
 oM 5 33] [0,2,3,4,5,6,18,19]))))
 (cR [oA 34 (.bin .add) [.t 19,.c (.int .i64 (1))],
 oM 19 34] [0,2,3,4,5,6,18,19])))
def l255_1 : Code :=
 .seq (.seq (cR [oM 7 6,
 oA 8 (.bin .leq) [.t 7,.c (.int .i64 (11))]] [0,2,3,4,5,6,8])
 (.cond (.t 8) (.skip)
 (.exit 0)))
 (.seq (.block 1 (.seq (cR [oM 11 4,
 oA 12 (.bin .shl) [.t 11,.c (.int .u64 (1))],
 oM 4 12] [0,2,3,4,5,6])
 (.seq (cR [oM 13 0,
 oM 14 6,
 oA 15 .nilCheck [.t 13],
 oA 16 (.fieldAddr 256) [.t 15],
 oA 17 (.idxAddrA 12 1) [.t 16,.t 14],
 oA 18 (.load false 1) [.t 17],
 oA 19 .move [.c (.int .i64 (0))]] [0,2,3,4,5,6,18,19])
 (.block 2 (.loop [0,2,3,4,5,6,18,19] l255_0)))))
 (cR [oM 9 6,
 oA 10 (.bin .add) [.t 9,.c (.int .i64 (1))],
 oM 6 10] [0,2,3,4,5,6]))
def f255 : Func := ⟨.seq (cR [oA 2 (.new 348 256 (List.replicate 256 (.int .i64 (0)))) []] [0,2])
 (.seq (cR [oA 3 (.new 348 256 (List.replicate 256 (.int .i64 (0)))) []] [0,2,3])
 (.seq (cR [oA 4 .move [.c (.int .i64 (0))],
 oA 5 .move [.c (.int .i64 (0))]] [0,2,3,4,5])
 (.seq (.seq (cR [oA 6 .move [.c (.int .i64 (1))]] [0,2,3,4,5,6])
 (.block 0 (.loop [0,2,3,4,5,6] l255_1)))
 (.seq (cR [oA 35 (.load true 256) [.t 3],
 oN (.store 256) [.t 2,.t 35]] [2])
 (.ret))))),
 [.cell 2 true 256], none⟩

def l256_0 : Code :=
 .seq (.seq (cR [oM 9 6,
 oA 10 (.bin .geq) [.t 9,.c (.int .i64 (0))]] [0,1,6,10])
 (.cond (.t 10) (.skip)
 (.exit 0)))
 (.seq (.block 1 (.seq (.seq (cR [oM 13 0,
 oA 14 .nilCheck [.t 13],
 oA 15 (.fieldAddr 1) [.t 14],
 oA 16 (.load false 1) [.t 15],
 oA 17 (.bin .eql) [.t 16,.c (.int .i64 (0))]] [0,1,6,17])
 (.cond (.t 17) (cR [oM 18 0,
 oM 19 0,
 oM 20 0,
 oA 21 .nilCheck [.t 20],
 oA 22 (.fieldAddr 0) [.t 21],
 oA 23 (.load false 1) [.t 22],
 oA 24 (.buildSlice 5 1 1 [(.int .u8 (0))] [(0, 1)]) [.c (.int .u8 (0))],
 oA 25 (.append 5 1 1) [.t 23,.t 24],
 oA 26 .nilCheck [.t 18],
 oA 27 (.fieldAddr 0) [.t 26],
 oN (.store 1) [.t 27,.t 25],
 oA 28 .nilCheck [.t 19],
 oA 29 (.fieldAddr 1) [.t 28],
 oN (.store 1) [.t 29,.c (.int .i64 (8))]] [0,1,6])
 (.skip)))
 (.seq (cR [oM 30 0,
 oA 31 .nilCheck [.t 30],
 oA 32 (.fieldAddr 1) [.t 31],
 oA 33 (.load false 1) [.t 32],
 oA 34 (.bin .sub) [.t 33,.c (.int .i64 (1))],
 oA 35 .nilCheck [.t 30],
 oA 36 (.fieldAddr 1) [.t 35],
 oN (.store 1) [.t 36,.t 34]] [0,1,6])
 (cD [⟨[oM 37 0,
 oA 38 .nilCheck [.t 37],
 oA 39 (.fieldAddr 0) [.t 38],
 oA 40 (.load false 1) [.t 39],
 oM 41 0,
 oA 42 .nilCheck [.t 41],
 oA 43 (.fieldAddr 0) [.t 42],
 oA 44 (.load false 1) [.t 43],
 oA 45 .lenS [.t 44],
 oA 46 (.bin .sub) [.t 45,.c (.int .i64 (1))],
 oA 47 (.idxAddr 1) [.t 40,.t 46],
 oA 48 (.load false 1) [.t 47],
 oM 49 1,
 oM 50 6,
 oA 51 (.bin .shr) [.t 49,.t 50],
 oA 52 (.bin .and) [.t 51,.c (.int .i64 (1))],
 oA 53 (.toInt .u8) [.t 52],
 oM 54 0,
 oA 55 .nilCheck [.t 54],
 oA 56 (.fieldAddr 1) [.t 55],
 oA 57 (.load false 1) [.t 56],
 oA 58 (.bin .shl) [.t 53,.t 57],
 oA 59 (.bin .or) [.t 48,.t 58],
 oA 60 (.idxAddr 1) [.t 40,.t 46]],some (oN (.store 1) [.t 60,.t 59]),[],[]⟩] [37,38,39,40,41,42,43,44,45,46,47,48,49,50,51,52,53,54,55,56,57,58,59,60] [0,1,6]))))
 (cR [oM 11 6,
 oA 12 (.bin .sub) [.t 11,.c (.int .i64 (1))],
 oM 6 12] [0,1,6]))
def f256 : Func := ⟨.seq (cR [oM 7 2,
 oA 8 (.bin .sub) [.t 7,.c (.int .i64 (1))],
 oM 6 8] [0,1,6])
 (.block 0 (.loop [0,1,6] l256_0)),
 [], none⟩

def l258_0 : Code :=
 .block 1 (.seq (cR [oM 19 2,
 oM 20 1,
 oA 21 (.bin .sub) [.t 19,.t 20],
 oM 10 21] [0,1,2,3,8,9,10])
 (.seq (.seq (cR [oM 22 10,
 oA 23 (.bin .leq) [.t 22,.c (.int .i64 (12))]] [0,1,2,3,8,9,10,23])
 (.cond (.t 23) (.seq (cR [oM 24 0,
 oM 25 1,
 oM 26 2,
 oA 27 .call [.c (.func (.func 293) #[] #[]),.t 24,.t 25,.t 26]] [])
 (.ret))
 (.skip)))
 (.seq (.seq (cR [oM 28 3,
 oA 29 (.bin .eql) [.t 28,.c (.int .i64 (0))]] [0,1,2,3,8,9,10,29])
 (.cond (.t 29) (.seq (cR [oM 30 0,
 oM 31 1,
 oM 32 2,
 oA 33 .call [.c (.func (.func 294) #[] #[]),.t 30,.t 31,.t 32]] [])
 (.ret))
 (.skip)))
 (.seq (.seq (cR [oM 34 8,
 oA 35 (.un .not) [.t 34]] [0,1,2,3,8,9,10,35])
 (.cond (.t 35) (.seq (cR [oM 36 0,
 oM 37 1,
 oM 38 2,
 oA 39 .call [.c (.func (.func 295) #[] #[]),.t 36,.t 37,.t 38]] [0,1,2,3,8,9,10])
 (cR [oM 40 3,
 oA 41 (.bin .sub) [.t 40,.c (.int .i64 (1))],
 oM 3 41] [0,1,2,3,8,9,10]))
 (.skip)))
 (.seq (cR [oM 43 0,
 oM 44 1,
 oM 45 2,
 oA 46 .call [.c (.func (.func 296) #[] #[]),.t 43,.t 44,.t 45],
 oM 42 46,
 oA 47 (.extract 0) [.t 42],
 oA 48 (.extract 1) [.t 42],
 oM 11 47,
 oM 12 48] [0,1,2,3,8,9,10,11,12])
 (.seq (.seq (cR [oM 49 12,
 oA 50 (.bin .eql) [.t 49,.c (.int .i64 (2))]] [0,1,2,3,8,9,10,11,12,50])
 (.cond (.t 50) (.seq (cR [oM 51 0,
 oM 52 1,
 oM 53 2,
 oA 54 .call [.c (.func (.func 297) #[] #[]),.t 51,.t 52,.t 53]] [0,1,2,3,8,9,10,11])
 (.seq (cR [oM 55 2,
 oA 56 (.bin .sub) [.t 55,.c (.int .i64 (1))],
 oM 57 11,
 oM 58 1,
 oA 59 (.bin .sub) [.t 57,.t 58],
 oA 60 (.bin .sub) [.t 56,.t 59],
 oM 11 60] [0,1,2,3,8,9,10,11])
 (cR [oA 12 .move [.c (.int .i64 (1))]] [0,1,2,3,8,9,10,11,12])))
 (.skip)))
 (.seq (.seq (cR [oM 61 8,
 oM 62 61,
 oG (some 63) .move [.t 9] 62 true,
 oA 64 .pick [.t 62,.t 63,.c (.bool false)],
 oM 65 64,
 oG (some 66) .move [.t 12] 65 true,
 oG (some 67) (.bin .eql) [.t 66,.c (.int .i64 (1))] 65 true,
 oA 68 .pick [.t 65,.t 67,.c (.bool false)]] [0,1,2,3,8,9,10,11,68])
 (.cond (.t 68) (.seq (cR [oM 69 0,
 oM 70 1,
 oM 71 2,
 oA 72 .call [.c (.func (.func 298) #[] #[]),.t 69,.t 70,.t 71]] [0,1,2,3,8,9,10,11,72])
 (.cond (.t 72) (.ret)
 (.skip)))
 (.skip)))
 (.seq (.seq (cD [⟨[oM 73 1,
 oA 74 (.bin .gtr) [.t 73,.c (.int .i64 (0))],
 oM 75 74,
 oG (some 76) .move [.t 0] 75 true,
 oG (some 77) .move [.t 1] 75 true,
 oG (some 78) (.bin .sub) [.t 77,.c (.int .i64 (1))] 75 true,
 oG (some 79) (.idxAddr 1) [.t 76,.t 78] 75 true,
 oG (some 80) (.load false 1) [.t 79] 75 true,
 oG (some 81) .move [.t 0] 75 true,
 oG (some 82) .move [.t 11] 75 true,
 oG (some 83) (.idxAddr 1) [.t 81,.t 82] 75 true,
 oG (some 84) (.load false 1) [.t 83] 75 true],some (oG (some 85) .call [.c (.func (.func 299) #[] #[]),.t 80,.t 84] 75 true),[],[]⟩,
 ⟨[oG (some 86) (.un .not) [.t 85] 75 true,
 oA 87 .pick [.t 75,.t 86,.c (.bool false)]],none,[],[]⟩] [73,74,75,76,77,78,79,80,81,82,83,84,85,86,87] [0,1,2,3,8,9,10,11,87])
 (.cond (.t 87) (.seq (cR [oM 88 0,
 oM 89 1,
 oM 90 2,
 oM 91 11,
 oA 92 .call [.c (.func (.func 300) #[] #[]),.t 88,.t 89,.t 90,.t 91],
 oM 13 92] [0,2,3,8,9,13])
 (.seq (cR [oM 93 13,
 oM 1 93] [0,1,2,3,8,9])
 (.exit 1)))
 (.skip)))
 (.seq (cR [oM 95 0,
 oM 96 1,
 oM 97 2,
 oM 98 11,
 oA 99 .call [.c (.func (.func 301) #[] #[]),.t 95,.t 96,.t 97,.t 98],
 oM 94 99,
 oA 100 (.extract 0) [.t 94],
 oA 101 (.extract 1) [.t 94],
 oM 14 100,
 oM 15 101] [0,1,2,3,10,14,15])
 (.seq (cR [oM 102 15,
 oM 9 102] [0,1,2,3,9,10,14])
 (.seq (cR [oM 103 14,
 oM 104 1,
 oA 105 (.bin .sub) [.t 103,.t 104],
 oM 106 2,
 oM 107 14,
 oA 108 (.bin .sub) [.t 106,.t 107],
 oM 16 105,
 oM 17 108] [0,1,2,3,9,10,14,16,17])
 (.seq (cR [oM 109 10,
 oA 110 (.bin .quo) [.t 109,.c (.int .i64 (8))],
 oM 18 110] [0,1,2,3,9,14,16,17,18])
 (.seq (cR [oM 111 16,
 oM 112 17,
 oA 113 (.bin .lss) [.t 111,.t 112]] [0,1,2,3,9,14,16,17,18,113])
 (.cond (.t 113) (.seq (cR [oM 114 16,
 oM 115 18,
 oA 116 (.bin .geq) [.t 114,.t 115],
 oM 8 116] [0,1,2,3,8,9,14])
 (.seq (cR [oM 117 0,
 oM 118 1,
 oM 119 14,
 oM 120 3,
 oA 121 .call [.c (.func (.func 258) #[] #[]),.t 117,.t 118,.t 119,.t 120]] [0,2,3,8,9,14])
 (cR [oM 122 14,
 oA 123 (.bin .add) [.t 122,.c (.int .i64 (1))],
 oM 1 123] [0,1,2,3,8,9])))
 (.seq (cR [oM 124 17,
 oM 125 18,
 oA 126 (.bin .geq) [.t 124,.t 125],
 oM 8 126] [0,1,2,3,8,9,14])
 (.seq (cR [oM 127 0,
 oM 128 14,
 oA 129 (.bin .add) [.t 128,.c (.int .i64 (1))],
 oM 130 2,
 oM 131 3,
 oA 132 .call [.c (.func (.func 258) #[] #[]),.t 127,.t 129,.t 130,.t 131]] [0,1,3,8,9,14])
 (cR [oM 133 14,
 oM 2 133] [0,1,2,3,8,9])))))))))))))))))
def f258 : Func := ⟨.seq (cR [oA 8 .move [.c (.bool true)]] [0,1,2,3,8])
 (.seq (cR [oA 9 .move [.c (.bool true)]] [0,1,2,3,8,9])
 (.block 0 (.loop [0,1,2,3,8,9] l258_0))),
 [], none⟩

def f259 : Func := ⟨.seq (cR [oA 2 .move [.c (.int .i64 (0))]] [0])
 (.seq (.cond (.c (.bool false)) (.seq (cR [oM 3 0,
 oA 4 (.toInt .u32) [.t 3],
 oA 5 .call [.c (.func (.func 302) #[] #[]),.t 4],
 oM 2 5] [2])
 (.ret))
 (.skip))
 (.seq (cR [oM 6 0,
 oA 7 .call [.c (.func (.func 303) #[] #[]),.t 6],
 oM 2 7] [2])
 (.ret))),
 [.tmp 2], none⟩

def f260 : Func := ⟨.seq (cR [oA 6 .move [.c (.slice none 0 0)]] [0,1,2])
 (.seq (cR [oM 10 0,
 oM 11 1,
 oA 12 (.slice 2 true false false) [.t 10,.t 11]] [0,1,2])
 (.seq (cR [oM 13 2,
 oA 14 .lenS [.t 13],
 oM 7 14] [0,1,2,7])
 (.seq (.seq (cR [oM 15 7,
 oA 16 (.bin .eql) [.t 15,.c (.int .i64 (0))]] [0,1,2,7,16])
 (.cond (.t 16) (.seq (cR [oM 17 0,
 oM 6 17] [6])
 (.ret))
 (.skip)))
 (.seq (cR [oM 18 0,
 oA 19 .lenS [.t 18],
 oM 8 19] [0,1,2,7,8])
 (.seq (.seq (cR [oM 20 1,
 oM 21 8,
 oA 22 (.bin .eql) [.t 20,.t 21]] [0,1,2,7,8,22])
 (.cond (.t 22) (.seq (cR [oM 23 0,
 oM 24 2,
 oA 25 (.append 67 2 16) [.t 23,.t 24],
 oM 6 25] [6])
 (.ret))
 (.skip)))
 (.seq (.seq (cR [oM 26 8,
 oM 27 7,
 oA 28 (.bin .add) [.t 26,.t 27],
 oM 29 0,
 oA 30 .cap [.t 29],
 oA 31 (.bin .gtr) [.t 28,.t 30]] [0,1,2,7,8,31])
 (.cond (.t 31) (.seq (cR [oM 32 0,
 oM 33 1,
 oA 34 (.slice 2 false true false) [.t 32,.t 33],
 oM 35 8,
 oM 36 7,
 oA 37 (.bin .add) [.t 35,.t 36],
 oM 38 1,
 oA 39 (.bin .sub) [.t 37,.t 38],
 oA 40 (.appendZ 67 2 16 [(.int .i64 (0)), (.int .i64 (0))]) [.t 34,.t 39],
 oM 9 40] [0,1,2,7,9])
 (.seq (cR [oM 41 9,
 oM 42 1,
 oA 43 (.slice 2 true false false) [.t 41,.t 42],
 oM 44 2,
 oA 45 (.copy 2) [.t 43,.t 44]] [0,1,7,9])
 (.seq (cD [⟨[oM 46 9,
 oM 47 1,
 oM 48 7,
 oA 49 (.bin .add) [.t 47,.t 48],
 oA 50 (.slice 2 true false false) [.t 46,.t 49],
 oM 51 0,
 oM 52 1,
 oA 53 (.slice 2 true false false) [.t 51,.t 52]],some (oA 54 (.copy 2) [.t 50,.t 53]),[],[]⟩] [46,47,48,49,50,51,52,53,54] [9])
 (.seq (cR [oM 55 9,
 oM 6 55] [6])
 (.ret)))))
 (.skip)))
 (.seq (cR [oM 56 0,
 oM 57 8,
 oM 58 7,
 oA 59 (.bin .add) [.t 57,.t 58],
 oA 60 (.slice 2 false true false) [.t 56,.t 59],
 oM 0 60] [0,1,2,7,8])
 (.seq (.seq (cR [oM 61 2,
 oM 62 0,
 oM 63 1,
 oM 64 7,
 oA 65 (.bin .add) [.t 63,.t 64],
 oA 66 (.slice 2 true false false) [.t 62,.t 65],
 oA 67 .overlaps [.t 61,.t 66],
 oA 68 (.un .not) [.t 67]] [0,1,2,7,8,68])
 (.cond (.t 68) (.seq (cD [⟨[oM 69 0,
 oM 70 1,
 oM 71 7,
 oA 72 (.bin .add) [.t 70,.t 71],
 oA 73 (.slice 2 true false false) [.t 69,.t 72],
 oM 74 0,
 oM 75 1,
 oA 76 (.slice 2 true false false) [.t 74,.t 75]],some (oA 77 (.copy 2) [.t 73,.t 76]),[],[]⟩] [69,70,71,72,73,74,75,76,77] [0,1,2])
 (.seq (cR [oM 78 0,
 oM 79 1,
 oA 80 (.slice 2 true false false) [.t 78,.t 79],
 oM 81 2,
 oA 82 (.copy 2) [.t 80,.t 81]] [0])
 (.seq (cR [oM 83 0,
 oM 6 83] [6])
 (.ret))))
 (.skip)))
 (.seq (cR [oM 84 0,
 oM 85 8,
 oA 86 (.slice 2 true false false) [.t 84,.t 85],
 oM 87 2,
 oA 88 (.copy 2) [.t 86,.t 87]] [0,1,7])
 (.seq (cR [oM 89 0,
 oM 90 1,
 oA 91 (.slice 2 true false false) [.t 89,.t 90],
 oM 92 7,
 oA 93 .call [.c (.func (.func 262) #[] #[]),.t 91,.t 92]] [0])
 (.seq (cR [oM 94 0,
 oM 6 94] [6])
 (.ret)))))))))))),
 [.tmp 6], none⟩

def f262 : Func := ⟨cR [oM 4 0,
 oM 5 0,
 oA 6 .lenS [.t 5],
 oM 7 1,
 oA 8 (.bin .sub) [.t 6,.t 7],
 oA 9 .call [.c (.func (.func 304) #[] #[]),.t 4,.t 8]] [],
 [], none⟩

def l263_0 : Code :=
 .seq (cR [oA 12 (.bin .lss) [.t 11,.t 10]] [0,4,5,10,11,12])
 (.seq (.cond (.t 12) (.skip)
 (.exit 0))
 (.seq (.block 1 (.seq (cR [oM 13 11,
 oM 6 13] [0,4,5,6,10,11])
 (.seq (cR [oM 14 5,
 oM 15 0,
 oM 16 6,
 oA 17 (.idxAddr 2) [.t 15,.t 16],
 oA 18 (.eqPtr false) [.t 14,.t 17]] [0,4,5,6,10,11,18])
 (.cond (.t 18) (.seq (cR [oM 19 6,
 oM 4 19] [4])
 (.ret))
 (.skip)))))
 (cR [oA 20 (.bin .add) [.t 11,.c (.int .i64 (1))],
 oM 11 20] [0,4,5,10,11])))
def f263 : Func := ⟨.seq (cR [oA 4 .move [.c (.int .i64 (0))]] [0,1,4])
 (.seq (cR [oM 7 1,
 oA 8 (.idxAddr 2) [.t 7,.c (.int .i64 (0))],
 oM 5 8] [0,4,5])
 (.seq (.seq (cR [oM 9 0,
 oA 10 .lenS [.t 9],
 oA 11 .move [.c (.int .i64 (0))]] [0,4,5,10,11])
 (.block 0 (.loop [0,4,5,10,11] l263_0)))
 (cR [oA 21 (.iface 9) [.c (.string ⟨⟨[110, 101, 101, 100, 108, 101, 32, 110, 111, 116, 32, 102, 111, 117, 110, 100]⟩⟩)],
 oN .panic [.t 21]] [4]))),
 [.tmp 4], none⟩

def f264 : Func := ⟨.seq (cR [oM 4 0,
 oM 5 0,
 oA 6 .nilCheck [.t 5],
 oA 7 (.fieldAddr 0) [.t 6],
 oA 8 (.fieldAddr 1) [.t 7],
 oA 9 (.load false 1) [.t 8],
 oM 10 1,
 oM 11 1,
 oA 12 (.bin .add) [.t 11,.c (.int .i64 (1))],
 oA 13 .call [.c (.func (.func 227) #[] #[]),.t 9,.t 10,.t 12],
 oA 14 .nilCheck [.t 4],
 oA 15 (.fieldAddr 0) [.t 14],
 oA 16 (.fieldAddr 1) [.t 15],
 oN (.store 1) [.t 16,.t 13]] [0,1])
 (.seq (cR [oM 17 0,
 oM 18 0,
 oA 19 .nilCheck [.t 18],
 oA 20 (.fieldAddr 0) [.t 19],
 oA 21 (.fieldAddr 4) [.t 20],
 oA 22 (.load false 1) [.t 21],
 oM 23 1,
 oM 24 1,
 oA 25 (.bin .add) [.t 24,.c (.int .i64 (1))],
 oA 26 .call [.c (.func (.func 305) #[] #[]),.t 22,.t 23,.t 25],
 oA 27 .nilCheck [.t 17],
 oA 28 (.fieldAddr 0) [.t 27],
 oA 29 (.fieldAddr 4) [.t 28],
 oN (.store 1) [.t 29,.t 26]] [0,1])
 (.seq (cR [oM 30 0,
 oM 31 0,
 oA 32 .nilCheck [.t 31],
 oA 33 (.fieldAddr 7) [.t 32],
 oA 34 (.load false 1) [.t 33],
 oM 35 1,
 oM 36 1,
 oA 37 (.bin .add) [.t 36,.c (.int .i64 (1))],
 oA 38 .call [.c (.func (.func 306) #[] #[]),.t 34,.t 35,.t 37],
 oA 39 .nilCheck [.t 30],
 oA 40 (.fieldAddr 7) [.t 39],
 oN (.store 1) [.t 40,.t 38]] [0])
 (cR [oM 41 0,
 oA 42 .nilCheck [.t 41],
 oA 43 (.fieldAddr 11) [.t 42],
 oN (.store 1) [.t 43,.c (.bool true)]] []))),
 [], none⟩

def f265 : Func := ⟨.seq (cD [⟨[oM 4 0,
 oM 5 0,
 oA 6 .nilCheck [.t 5],
 oA 7 (.fieldAddr 0) [.t 6],
 oA 8 (.fieldAddr 1) [.t 7],
 oA 9 (.load false 1) [.t 8],
 oM 10 1,
 oA 11 .nilCheck [.t 10],
 oA 12 (.fieldAddr 0) [.t 11],
 oA 13 (.fieldAddr 1) [.t 12],
 oA 14 (.load false 1) [.t 13]],some (oA 15 (.append 3 1 8) [.t 9,.t 14]),[],[]⟩,
 ⟨[oA 16 .nilCheck [.t 4],
 oA 17 (.fieldAddr 0) [.t 16],
 oA 18 (.fieldAddr 1) [.t 17]],some (oN (.store 1) [.t 18,.t 15]),[],[]⟩] [4,5,6,7,8,9,10,11,12,13,14,15,16,17,18] [0,1])
 (.seq (cD [⟨[oM 19 0,
 oM 20 0,
 oA 21 .nilCheck [.t 20],
 oA 22 (.fieldAddr 0) [.t 21],
 oA 23 (.fieldAddr 2) [.t 22],
 oA 24 (.load false 1) [.t 23],
 oM 25 1,
 oA 26 .nilCheck [.t 25],
 oA 27 (.fieldAddr 0) [.t 26],
 oA 28 (.fieldAddr 2) [.t 27],
 oA 29 (.load false 1) [.t 28]],some (oA 30 (.append 110 3 24) [.t 24,.t 29]),[],[]⟩,
 ⟨[oA 31 .nilCheck [.t 19],
 oA 32 (.fieldAddr 0) [.t 31],
 oA 33 (.fieldAddr 2) [.t 32]],some (oN (.store 1) [.t 33,.t 30]),[],[]⟩] [19,20,21,22,23,24,25,26,27,28,29,30,31,32,33] [0,1])
 (.seq (cD [⟨[oM 34 0,
 oM 35 0,
 oA 36 .nilCheck [.t 35],
 oA 37 (.fieldAddr 0) [.t 36],
 oA 38 (.fieldAddr 3) [.t 37],
 oA 39 (.load false 1) [.t 38],
 oM 40 1,
 oA 41 .nilCheck [.t 40],
 oA 42 (.fieldAddr 0) [.t 41],
 oA 43 (.fieldAddr 3) [.t 42],
 oA 44 (.load false 1) [.t 43]],some (oA 45 (.append 3 1 8) [.t 39,.t 44]),[],[]⟩,
 ⟨[oA 46 .nilCheck [.t 34],
 oA 47 (.fieldAddr 0) [.t 46],
 oA 48 (.fieldAddr 3) [.t 47]],some (oN (.store 1) [.t 48,.t 45]),[],[]⟩] [34,35,36,37,38,39,40,41,42,43,44,45,46,47,48] [0,1])
 (.seq (cD [⟨[oM 49 0,
 oM 50 0,
 oA 51 .nilCheck [.t 50],
 oA 52 (.fieldAddr 0) [.t 51],
 oA 53 (.fieldAddr 4) [.t 52],
 oA 54 (.load false 1) [.t 53],
 oM 55 1,
 oA 56 .nilCheck [.t 55],
 oA 57 (.fieldAddr 0) [.t 56],
 oA 58 (.fieldAddr 4) [.t 57],
 oA 59 (.load false 1) [.t 58]],some (oA 60 (.append 73 3 24) [.t 54,.t 59]),[],[]⟩,
 ⟨[oA 61 .nilCheck [.t 49],
 oA 62 (.fieldAddr 0) [.t 61],
 oA 63 (.fieldAddr 4) [.t 62]],some (oN (.store 1) [.t 63,.t 60]),[],[]⟩] [49,50,51,52,53,54,55,56,57,58,59,60,61,62,63] [0,1])
 (.seq (cD [⟨[oM 64 0,
 oM 65 0,
 oA 66 .nilCheck [.t 65],
 oA 67 (.fieldAddr 7) [.t 66],
 oA 68 (.load false 1) [.t 67],
 oM 69 1,
 oA 70 .nilCheck [.t 69],
 oA 71 (.fieldAddr 7) [.t 70],
 oA 72 (.load false 1) [.t 71]],some (oA 73 (.append 261 1 8) [.t 68,.t 72]),[],[]⟩,
 ⟨[oA 74 .nilCheck [.t 64],
 oA 75 (.fieldAddr 7) [.t 74]],some (oN (.store 1) [.t 75,.t 73]),[],[]⟩] [64,65,66,67,68,69,70,71,72,73,74,75] [0,1])
 (cR [oM 76 0,
 oM 77 0,
 oM 78 1,
 oA 79 .nilCheck [.t 78],
 oA 80 (.fieldAddr 6) [.t 79],
 oA 81 (.load false 1) [.t 80],
 oA 82 .nilCheck [.t 76],
 oA 83 (.fieldAddr 6) [.t 82],
 oN (.store 1) [.t 83,.t 81],
 oA 84 .nilCheck [.t 77],
 oA 85 (.fieldAddr 11) [.t 84],
 oN (.store 1) [.t 85,.c (.bool true)]] []))))),
 [], none⟩

def f266 : Func := ⟨.seq (cR [oA 4 .move [.c (.pointer none)]] [0,1])
 (.seq (cD [⟨[oM 6 0,
 oA 7 .nilCheck [.t 6],
 oA 8 (.fieldAddr 0) [.t 7],
 oA 9 (.fieldAddr 0) [.t 8],
 oA 10 (.load false 1) [.t 9],
 oA 11 (.build [(.int .i64 (0)), (.slice none 0 0), (.slice none 0 0), (.slice none 0 0), (.slice none 0 0)] [(0, 1)]) [.t 10],
 oM 12 0,
 oA 13 .nilCheck [.t 12],
 oA 14 (.fieldAddr 0) [.t 13],
 oA 15 (.fieldAddr 1) [.t 14],
 oA 16 (.load false 1) [.t 15],
 oM 17 1,
 oA 18 (.idxAddr 1) [.t 16,.t 17],
 oA 19 (.load false 1) [.t 18],
 oM 20 0,
 oA 21 .nilCheck [.t 20],
 oA 22 (.fieldAddr 6) [.t 21],
 oA 23 (.load false 1) [.t 22],
 oA 24 (.build [(.int .i64 (0)), (.slice none 0 0), (.slice none 0 0), (.slice none 0 0), (.slice none 0 0), (.int .i64 (0)), (.int .i64 (0)), (.slice none 0 0), (.int .i64 (0)), (.int .i64 (0)), (.int .i64 (0)), (.bool false)] [(0, 5), (5, 1), (6, 1), (11, 1)]) [.t 11,.t 19,.t 23,.c (.bool true)]],some (oA 25 (.box 270 12) [.t 24]),[],[]⟩,
 ⟨[oM 5 25],none,[],[]⟩] [6,7,8,9,10,11,12,13,14,15,16,17,18,19,20,21,22,23,24,25,5] [0,1,5])
 (.seq (cR [oM 26 0,
 oM 27 0,
 oM 28 5,
 oA 29 .nilCheck [.t 28],
 oA 30 (.fieldAddr 5) [.t 29],
 oA 31 (.load false 1) [.t 30],
 oA 32 .nilCheck [.t 26],
 oA 33 (.fieldAddr 6) [.t 32],
 oN (.store 1) [.t 33,.t 31],
 oA 34 .nilCheck [.t 27],
 oA 35 (.fieldAddr 11) [.t 34],
 oN (.store 1) [.t 35,.c (.bool true)]] [0,1,5])
 (.seq (cD [⟨[oM 36 0,
 oM 37 5,
 oM 38 0,
 oA 39 .nilCheck [.t 38],
 oA 40 (.fieldAddr 0) [.t 39],
 oA 41 (.fieldAddr 1) [.t 40],
 oA 42 (.load false 1) [.t 41],
 oM 43 1,
 oM 44 1,
 oA 45 (.slice 1 false true true) [.t 42,.t 43,.t 44],
 oM 46 0,
 oA 47 .nilCheck [.t 46],
 oA 48 (.fieldAddr 0) [.t 47],
 oA 49 (.fieldAddr 1) [.t 48],
 oA 50 (.load false 1) [.t 49],
 oM 51 1,
 oA 52 (.slice 1 true false false) [.t 50,.t 51]],some (oA 53 .call [.c (.func (.func 224) #[] #[]),.t 52]),[42],[]⟩,
 ⟨[oA 54 .nilCheck [.t 36],
 oA 55 (.fieldAddr 0) [.t 54],
 oA 56 (.fieldAddr 1) [.t 55]],some (oN (.store 1) [.t 56,.t 45]),[],[]⟩,
 ⟨[oA 57 .nilCheck [.t 37],
 oA 58 (.fieldAddr 0) [.t 57],
 oA 59 (.fieldAddr 1) [.t 58]],some (oN (.store 1) [.t 59,.t 53]),[],[]⟩] [36,37,38,39,40,41,42,43,44,45,46,47,48,49,50,51,52,53,54,55,56,57,58,59] [0,1,5])
 (.seq (.seq (cR [oM 60 0,
 oA 61 .nilCheck [.t 60],
 oA 62 (.fieldAddr 0) [.t 61],
 oA 63 (.fieldAddr 0) [.t 62],
 oA 64 (.load false 1) [.t 63],
 oA 65 (.bin .eql) [.t 64,.c (.int .i64 (0))]] [0,1,5,65])
 (.cond (.t 65) (.seq (cD [⟨[oM 66 0,
 oM 67 5,
 oM 68 0,
 oA 69 .nilCheck [.t 68],
 oA 70 (.fieldAddr 0) [.t 69],
 oA 71 (.fieldAddr 2) [.t 70],
 oA 72 (.load false 1) [.t 71],
 oM 73 1,
 oM 74 1,
 oA 75 (.slice 3 false true true) [.t 72,.t 73,.t 74],
 oM 76 0,
 oA 77 .nilCheck [.t 76],
 oA 78 (.fieldAddr 0) [.t 77],
 oA 79 (.fieldAddr 2) [.t 78],
 oA 80 (.load false 1) [.t 79],
 oM 81 1,
 oA 82 (.slice 3 true false false) [.t 80,.t 81]],some (oA 83 .call [.c (.func (.func 225) #[] #[]),.t 82]),[72],[]⟩,
 ⟨[oA 84 .nilCheck [.t 66],
 oA 85 (.fieldAddr 0) [.t 84],
 oA 86 (.fieldAddr 2) [.t 85]],some (oN (.store 1) [.t 86,.t 75]),[],[]⟩,
 ⟨[oA 87 .nilCheck [.t 67],
 oA 88 (.fieldAddr 0) [.t 87],
 oA 89 (.fieldAddr 2) [.t 88]],some (oN (.store 1) [.t 89,.t 83]),[],[]⟩] [66,67,68,69,70,71,72,73,74,75,76,77,78,79,80,81,82,83,84,85,86,87,88,89] [0,1,5])
 (.seq (cD [⟨[oM 90 0,
 oM 91 5,
 oM 92 0,
 oA 93 .nilCheck [.t 92],
 oA 94 (.fieldAddr 0) [.t 93],
 oA 95 (.fieldAddr 3) [.t 94],
 oA 96 (.load false 1) [.t 95],
 oM 97 1,
 oM 98 1,
 oA 99 (.slice 1 false true true) [.t 96,.t 97,.t 98],
 oM 100 0,
 oA 101 .nilCheck [.t 100],
 oA 102 (.fieldAddr 0) [.t 101],
 oA 103 (.fieldAddr 3) [.t 102],
 oA 104 (.load false 1) [.t 103],
 oM 105 1,
 oA 106 (.slice 1 true false false) [.t 104,.t 105]],some (oA 107 .call [.c (.func (.func 224) #[] #[]),.t 106]),[96],[]⟩,
 ⟨[oA 108 .nilCheck [.t 90],
 oA 109 (.fieldAddr 0) [.t 108],
 oA 110 (.fieldAddr 3) [.t 109]],some (oN (.store 1) [.t 110,.t 99]),[],[]⟩,
 ⟨[oA 111 .nilCheck [.t 91],
 oA 112 (.fieldAddr 0) [.t 111],
 oA 113 (.fieldAddr 3) [.t 112]],some (oN (.store 1) [.t 113,.t 107]),[],[]⟩] [90,91,92,93,94,95,96,97,98,99,100,101,102,103,104,105,106,107,108,109,110,111,112,113] [5])
 (.seq (cR [oM 114 5,
 oM 4 114] [4])
 (.ret))))
 (.skip)))
 (.seq (cD [⟨[oM 115 0,
 oM 116 5,
 oM 117 0,
 oA 118 .nilCheck [.t 117],
 oA 119 (.fieldAddr 0) [.t 118],
 oA 120 (.fieldAddr 4) [.t 119],
 oA 121 (.load false 1) [.t 120],
 oM 122 1,
 oM 123 1,
 oA 124 (.slice 3 false true true) [.t 121,.t 122,.t 123],
 oM 125 0,
 oA 126 .nilCheck [.t 125],
 oA 127 (.fieldAddr 0) [.t 126],
 oA 128 (.fieldAddr 4) [.t 127],
 oA 129 (.load false 1) [.t 128],
 oM 130 1,
 oA 131 (.slice 3 true false false) [.t 129,.t 130]],some (oA 132 .call [.c (.func (.func 226) #[] #[]),.t 131]),[121],[]⟩,
 ⟨[oA 133 .nilCheck [.t 115],
 oA 134 (.fieldAddr 0) [.t 133],
 oA 135 (.fieldAddr 4) [.t 134]],some (oN (.store 1) [.t 135,.t 124]),[],[]⟩,
 ⟨[oA 136 .nilCheck [.t 116],
 oA 137 (.fieldAddr 0) [.t 136],
 oA 138 (.fieldAddr 4) [.t 137]],some (oN (.store 1) [.t 138,.t 132]),[],[]⟩] [115,116,117,118,119,120,121,122,123,124,125,126,127,128,129,130,131,132,133,134,135,136,137,138] [0,1,5])
 (.seq (cD [⟨[oM 139 0,
 oM 140 5,
 oM 141 0,
 oA 142 .nilCheck [.t 141],
 oA 143 (.fieldAddr 7) [.t 142],
 oA 144 (.load false 1) [.t 143],
 oM 145 1,
 oM 146 1,
 oA 147 (.slice 1 false true true) [.t 144,.t 145,.t 146],
 oM 148 0,
 oA 149 .nilCheck [.t 148],
 oA 150 (.fieldAddr 7) [.t 149],
 oA 151 (.load false 1) [.t 150],
 oM 152 1,
 oA 153 (.slice 1 true false false) [.t 151,.t 152]],some (oA 154 .call [.c (.func (.func 307) #[] #[]),.t 153]),[144],[]⟩,
 ⟨[oA 155 .nilCheck [.t 139],
 oA 156 (.fieldAddr 7) [.t 155]],some (oN (.store 1) [.t 156,.t 147]),[],[]⟩,
 ⟨[oA 157 .nilCheck [.t 140],
 oA 158 (.fieldAddr 7) [.t 157]],some (oN (.store 1) [.t 158,.t 154]),[],[]⟩] [139,140,141,142,143,144,145,146,147,148,149,150,151,152,153,154,155,156,157,158] [5])
 (.seq (cR [oM 159 5,
 oM 4 159] [4])
 (.ret)))))))),
 [.tmp 4], none⟩

def f268 : Func := ⟨cR [oM 4 0,
 oM 5 0,
 oA 6 .lenS [.t 5],
 oM 7 1,
 oA 8 (.bin .sub) [.t 6,.t 7],
 oA 9 .call [.c (.func (.func 308) #[] #[]),.t 4,.t 8]] [],
 [], none⟩

def f270 : Func := ⟨cR [oM 4 0,
 oM 5 0,
 oA 6 .lenS [.t 5],
 oM 7 1,
 oA 8 (.bin .sub) [.t 6,.t 7],
 oA 9 .call [.c (.func (.func 309) #[] #[]),.t 4,.t 8]] [],
 [], none⟩

def f271 : Func := ⟨.seq (cR [oA 6 .move [.c (.slice none 0 0)]] [0,1,2])
 (.seq (cR [oM 10 0,
 oM 11 1,
 oA 12 (.slice 3 true false false) [.t 10,.t 11]] [0,1,2])
 (.seq (cR [oM 13 2,
 oA 14 .lenS [.t 13],
 oM 7 14] [0,1,2,7])
 (.seq (.seq (cR [oM 15 7,
 oA 16 (.bin .eql) [.t 15,.c (.int .i64 (0))]] [0,1,2,7,16])
 (.cond (.t 16) (.seq (cR [oM 17 0,
 oM 6 17] [6])
 (.ret))
 (.skip)))
 (.seq (cR [oM 18 0,
 oA 19 .lenS [.t 18],
 oM 8 19] [0,1,2,7,8])
 (.seq (.seq (cR [oM 20 1,
 oM 21 8,
 oA 22 (.bin .eql) [.t 20,.t 21]] [0,1,2,7,8,22])
 (.cond (.t 22) (.seq (cR [oM 23 0,
 oM 24 2,
 oA 25 (.append 73 3 24) [.t 23,.t 24],
 oM 6 25] [6])
 (.ret))
 (.skip)))
 (.seq (.seq (cR [oM 26 8,
 oM 27 7,
 oA 28 (.bin .add) [.t 26,.t 27],
 oM 29 0,
 oA 30 .cap [.t 29],
 oA 31 (.bin .gtr) [.t 28,.t 30]] [0,1,2,7,8,31])
 (.cond (.t 31) (.seq (cR [oM 32 0,
 oM 33 1,
 oA 34 (.slice 3 false true false) [.t 32,.t 33],
 oM 35 8,
 oM 36 7,
 oA 37 (.bin .add) [.t 35,.t 36],
 oM 38 1,
 oA 39 (.bin .sub) [.t 37,.t 38],
 oA 40 (.appendZ 73 3 24 [(.int .i64 (0)), (.int .i64 (0)), (.int .i64 (0))]) [.t 34,.t 39],
 oM 9 40] [0,1,2,7,9])
 (.seq (cR [oM 41 9,
 oM 42 1,
 oA 43 (.slice 3 true false false) [.t 41,.t 42],
 oM 44 2,
 oA 45 (.copy 3) [.t 43,.t 44]] [0,1,7,9])
 (.seq (cD [⟨[oM 46 9,
 oM 47 1,
 oM 48 7,
 oA 49 (.bin .add) [.t 47,.t 48],
 oA 50 (.slice 3 true false false) [.t 46,.t 49],
 oM 51 0,
 oM 52 1,
 oA 53 (.slice 3 true false false) [.t 51,.t 52]],some (oA 54 (.copy 3) [.t 50,.t 53]),[],[]⟩] [46,47,48,49,50,51,52,53,54] [9])
 (.seq (cR [oM 55 9,
 oM 6 55] [6])
 (.ret)))))
 (.skip)))
 (.seq (cR [oM 56 0,
 oM 57 8,
 oM 58 7,
 oA 59 (.bin .add) [.t 57,.t 58],
 oA 60 (.slice 3 false true false) [.t 56,.t 59],
 oM 0 60] [0,1,2,7,8])
 (.seq (.seq (cR [oM 61 2,
 oM 62 0,
 oM 63 1,
 oM 64 7,
 oA 65 (.bin .add) [.t 63,.t 64],
 oA 66 (.slice 3 true false false) [.t 62,.t 65],
 oA 67 .overlaps [.t 61,.t 66],
 oA 68 (.un .not) [.t 67]] [0,1,2,7,8,68])
 (.cond (.t 68) (.seq (cD [⟨[oM 69 0,
 oM 70 1,
 oM 71 7,
 oA 72 (.bin .add) [.t 70,.t 71],
 oA 73 (.slice 3 true false false) [.t 69,.t 72],
 oM 74 0,
 oM 75 1,
 oA 76 (.slice 3 true false false) [.t 74,.t 75]],some (oA 77 (.copy 3) [.t 73,.t 76]),[],[]⟩] [69,70,71,72,73,74,75,76,77] [0,1,2])
 (.seq (cR [oM 78 0,
 oM 79 1,
 oA 80 (.slice 3 true false false) [.t 78,.t 79],
 oM 81 2,
 oA 82 (.copy 3) [.t 80,.t 81]] [0])
 (.seq (cR [oM 83 0,
 oM 6 83] [6])
 (.ret))))
 (.skip)))
 (.seq (cR [oM 84 0,
 oM 85 8,
 oA 86 (.slice 3 true false false) [.t 84,.t 85],
 oM 87 2,
 oA 88 (.copy 3) [.t 86,.t 87]] [0,1,7])
 (.seq (cR [oM 89 0,
 oM 90 1,
 oA 91 (.slice 3 true false false) [.t 89,.t 90],
 oM 92 7,
 oA 93 .call [.c (.func (.func 311) #[] #[]),.t 91,.t 92]] [0])
 (.seq (cR [oM 94 0,
 oM 6 94] [6])
 (.ret)))))))))))),
 [.tmp 6], none⟩

def f272 : Func := ⟨.seq (cR [oA 6 .move [.c (.slice none 0 0)]] [0,1,2])
 (.seq (cR [oM 10 0,
 oM 11 1,
 oA 12 (.slice 1 true false false) [.t 10,.t 11]] [0,1,2])
 (.seq (cR [oM 13 2,
 oA 14 .lenS [.t 13],
 oM 7 14] [0,1,2,7])
 (.seq (.seq (cR [oM 15 7,
 oA 16 (.bin .eql) [.t 15,.c (.int .i64 (0))]] [0,1,2,7,16])
 (.cond (.t 16) (.seq (cR [oM 17 0,
 oM 6 17] [6])
 (.ret))
 (.skip)))
 (.seq (cR [oM 18 0,
 oA 19 .lenS [.t 18],
 oM 8 19] [0,1,2,7,8])
 (.seq (.seq (cR [oM 20 1,
 oM 21 8,
 oA 22 (.bin .eql) [.t 20,.t 21]] [0,1,2,7,8,22])
 (.cond (.t 22) (.seq (cR [oM 23 0,
 oM 24 2,
 oA 25 (.append 261 1 8) [.t 23,.t 24],
 oM 6 25] [6])
 (.ret))
 (.skip)))
 (.seq (.seq (cR [oM 26 8,
 oM 27 7,
 oA 28 (.bin .add) [.t 26,.t 27],
 oM 29 0,
 oA 30 .cap [.t 29],
 oA 31 (.bin .gtr) [.t 28,.t 30]] [0,1,2,7,8,31])
 (.cond (.t 31) (.seq (cR [oM 32 0,
 oM 33 1,
 oA 34 (.slice 1 false true false) [.t 32,.t 33],
 oM 35 8,
 oM 36 7,
 oA 37 (.bin .add) [.t 35,.t 36],
 oM 38 1,
 oA 39 (.bin .sub) [.t 37,.t 38],
 oA 40 (.appendZ 261 1 8 [(.pointer none)]) [.t 34,.t 39],
 oM 9 40] [0,1,2,7,9])
 (.seq (cR [oM 41 9,
 oM 42 1,
 oA 43 (.slice 1 true false false) [.t 41,.t 42],
 oM 44 2,
 oA 45 (.copy 1) [.t 43,.t 44]] [0,1,7,9])
 (.seq (cD [⟨[oM 46 9,
 oM 47 1,
 oM 48 7,
 oA 49 (.bin .add) [.t 47,.t 48],
 oA 50 (.slice 1 true false false) [.t 46,.t 49],
 oM 51 0,
 oM 52 1,
 oA 53 (.slice 1 true false false) [.t 51,.t 52]],some (oA 54 (.copy 1) [.t 50,.t 53]),[],[]⟩] [46,47,48,49,50,51,52,53,54] [9])
 (.seq (cR [oM 55 9,
 oM 6 55] [6])
 (.ret)))))
 (.skip)))
 (.seq (cR [oM 56 0,
 oM 57 8,
 oM 58 7,
 oA 59 (.bin .add) [.t 57,.t 58],
 oA 60 (.slice 1 false true false) [.t 56,.t 59],
 oM 0 60] [0,1,2,7,8])
 (.seq (.seq (cR [oM 61 2,
 oM 62 0,
 oM 63 1,
 oM 64 7,
 oA 65 (.bin .add) [.t 63,.t 64],
 oA 66 (.slice 1 true false false) [.t 62,.t 65],
 oA 67 .overlaps [.t 61,.t 66],
 oA 68 (.un .not) [.t 67]] [0,1,2,7,8,68])
 (.cond (.t 68) (.seq (cD [⟨[oM 69 0,
 oM 70 1,
 oM 71 7,
 oA 72 (.bin .add) [.t 70,.t 71],
 oA 73 (.slice 1 true false false) [.t 69,.t 72],
 oM 74 0,
 oM 75 1,
 oA 76 (.slice 1 true false false) [.t 74,.t 75]],some (oA 77 (.copy 1) [.t 73,.t 76]),[],[]⟩] [69,70,71,72,73,74,75,76,77] [0,1,2])
 (.seq (cR [oM 78 0,
 oM 79 1,
 oA 80 (.slice 1 true false false) [.t 78,.t 79],
 oM 81 2,
 oA 82 (.copy 1) [.t 80,.t 81]] [0])
 (.seq (cR [oM 83 0,
 oM 6 83] [6])
 (.ret))))
 (.skip)))
 (.seq (cR [oM 84 0,
 oM 85 8,
 oA 86 (.slice 1 true false false) [.t 84,.t 85],
 oM 87 2,
 oA 88 (.copy 1) [.t 86,.t 87]] [0,1,7])
 (.seq (cR [oM 89 0,
 oM 90 1,
 oA 91 (.slice 1 true false false) [.t 89,.t 90],
 oM 92 7,
 oA 93 .call [.c (.func (.func 313) #[] #[]),.t 91,.t 92]] [0])
 (.seq (cR [oM 94 0,
 oM 6 94] [6])
 (.ret)))))))))))),
 [.tmp 6], none⟩

def f273 : Func := ⟨.seq (cR [oA 1 (.box 233 1) [.t 0],
 oA 2 .move [.c .nilFunc]] [1])
 (.seq (cR [oA 3 (.func 314 0) [.t 1],
 oM 2 3] [2])
 (.ret)),
 [.tmp 2], none⟩

def f274 : Func := ⟨.seq (cR [oA 1 (.box 73 3) [.t 0],
 oA 2 .move [.c (.bool false)]] [1])
 (.seq (cR [oA 3 (.fieldAddr 0) [.t 1],
 oA 4 (.load false 1) [.t 3],
 oA 5 (.fieldAddr 1) [.t 1],
 oA 6 (.load false 1) [.t 5],
 oA 7 (.fieldAddr 2) [.t 1],
 oA 8 (.load false 1) [.t 7],
 oA 9 .call [.c (.func (.func 218) #[] #[]),.t 4,.t 6,.t 8],
 oA 10 (.un .not) [.t 9],
 oM 2 10] [2])
 (.ret)),
 [.tmp 2], none⟩

def f275 : Func := ⟨.seq (cR [oA 4 .move [.c (.bool false)]] [0,1])
 (.seq (cR [oM 5 0,
 oM 6 1,
 oA 7 .call [.c (.func (.func 315) #[] #[]),.t 5,.t 6],
 oA 8 (.bin .geq) [.t 7,.c (.int .i64 (0))],
 oM 4 8] [4])
 (.ret)),
 [.tmp 4], none⟩

def l276_0 : Code :=
 .seq (cR [oA 9 (.bin .lss) [.t 8,.t 7]] [0,1,7,8,9])
 (.seq (.cond (.t 9) (.skip)
 (.exit 0))
 (.seq (.block 1 (.seq (cR [oM 10 8,
 oM 5 10] [0,1,5,7,8])
 (.seq (cR [oM 11 1,
 oM 12 0,
 oM 13 5,
 oA 14 (.idxAddr 2) [.t 12,.t 13],
 oA 15 (.load true 2) [.t 14],
 oA 16 .call [.t 11,.t 15]] [0,1,5,7,8,16])
 (.cond (.t 16) (.seq (cR [oM 17 5,
 oM 4 17] [4])
 (.ret))
 (.skip)))))
 (cR [oA 18 (.bin .add) [.t 8,.c (.int .i64 (1))],
 oM 8 18] [0,1,7,8])))
def f276 : Func := ⟨.seq (cR [oA 4 .move [.c (.int .i64 (0))]] [0,1])
 (.seq (.seq (cR [oM 6 0,
 oA 7 .lenS [.t 6],
 oA 8 .move [.c (.int .i64 (0))]] [0,1,7,8])
 (.block 0 (.loop [0,1,7,8] l276_0)))
 (.seq (cR [oA 4 .move [.c (.int .i64 (-1))]] [4])
 (.ret))),
 [.tmp 4], none⟩

def f277 : Func := ⟨.seq (cR [oA 4 .move [.c (.slice none 0 0)]] [0,1])
 (.seq (cR [oM 6 1,
 oM 7 0,
 oA 8 .nilCheck [.t 7],
 oA 9 (.fieldAddr 0) [.t 8],
 oA 10 (.load false 1) [.t 9],
 oA 11 .lenS [.t 10],
 oA 12 (.bin .leq) [.t 6,.t 11],
 oA 13 .call [.c (.func (.func 279) #[] #[]),.t 12,.c (.int .i64 (2))]] [0,1])
 (.seq (cR [oM 14 0,
 oA 15 .nilCheck [.t 14],
 oA 16 (.fieldAddr 0) [.t 15],
 oA 17 (.load false 1) [.t 16],
 oM 18 1,
 oA 19 (.slice 1 false true false) [.t 17,.t 18],
 oM 5 19] [0,1,5])
 (.seq (cR [oM 20 0,
 oM 21 0,
 oA 22 .nilCheck [.t 21],
 oA 23 (.fieldAddr 0) [.t 22],
 oA 24 (.load false 1) [.t 23],
 oM 25 1,
 oA 26 (.slice 1 true false false) [.t 24,.t 25],
 oA 27 .nilCheck [.t 20],
 oA 28 (.fieldAddr 0) [.t 27],
 oN (.store 1) [.t 28,.t 26]] [5])
 (.seq (cR [oM 29 5,
 oM 4 29] [4])
 (.ret))))),
 [.tmp 4], none⟩

def l278_0 : Code :=
 .block 1 (.seq (cR [oM 9 0,
 oA 10 .call [.c (.func (.func 277) #[] #[]),.t 9,.c (.int .i64 (1))],
 oA 11 (.idxAddr 1) [.t 10,.c (.int .i64 (0))],
 oA 12 (.load false 1) [.t 11],
 oA 13 (.toInt .i64) [.t 12],
 oM 5 13] [0,1,5])
 (.seq (cR [oM 14 1,
 oM 15 5,
 oA 16 (.bin .add) [.t 14,.t 15],
 oM 1 16] [0,1,5])
 (.seq (cR [oM 17 5,
 oA 18 (.bin .lss) [.t 17,.c (.int .i64 (255))]] [0,1,18])
 (.cond (.t 18) (.seq (cR [oM 19 1,
 oM 4 19] [4])
 (.ret))
 (.skip)))))
def f278 : Func := ⟨.seq (cR [oA 4 .move [.c (.int .i64 (0))]] [0,1])
 (.seq (.seq (cR [oM 6 1,
 oA 7 (.bin .lss) [.t 6,.c (.int .i64 (15))]] [0,1,7])
 (.cond (.t 7) (.seq (cR [oM 8 1,
 oM 4 8] [4])
 (.ret))
 (.skip)))
 (.block 0 (.loop [0,1] l278_0))),
 [.tmp 4], none⟩

def f279 : Func := ⟨.seq (cR [oM 4 0,
 oA 5 (.un .not) [.t 4]] [1,5])
 (.cond (.t 5) (cR [oM 6 1,
 oA 7 (.build [(.int .i64 (0))] [(0, 1)]) [.t 6],
 oA 8 (.iface 336) [.t 7],
 oN .panic [.t 8]] [])
 (.skip)),
 [], none⟩

def f280 : Func := ⟨.seq (cR [oM 2 5] [0,1,2])
 (.seq (cR [oM 6 2,
 oA 7 (.isNil .iface true) [.t 6]] [0,1,2,7])
 (.cond (.t 7) (.seq (cR [oM 9 2,
 oA 10 (.assert 377 (.agg #[(.int .i64 (0))]) true) [.t 9],
 oM 8 10,
 oA 11 (.extract 0) [.t 8],
 oA 12 (.extract 1) [.t 8],
 oA 3 (.new 377 1 [(.int .i64 (0))]) [],
 oN (.store 1) [.t 3,.t 11],
 oM 4 12] [0,1,2,3,4])
 (.seq (.seq (cR [oM 13 4,
 oA 14 (.un .not) [.t 13]] [0,1,2,3,14])
 (.cond (.t 14) (cR [oM 15 2,
 oN .panic [.t 15]] [0,1,3])
 (.skip)))
 (cD [⟨[oA 16 (.fieldAddr 0) [.t 3],
 oA 17 (.load false 1) [.t 16]],some (oN (.store 1) [.t 0,.c (.slice none 0 0)]),[17],[]⟩,
 ⟨[],some (oN (.store 1) [.t 1,.t 17]),[],[]⟩] [16,17] [])))
 (.skip))),
 [], some 5⟩

def l281_0 : Code :=
 .seq (cR [oA 28 (.bin .lss) [.t 27,.t 26]] [0,2,3,4,6,26,27,28])
 (.seq (.cond (.t 28) (.skip)
 (.exit 2))
 (.seq (.block 3 (.seq (cR [oM 29 4,
 oM 30 6,
 oA 31 (.idxAddrA 256 1) [.t 3,.t 29],
 oN (.store 1) [.t 31,.t 30]] [0,2,3,4,6,26,27])
 (cR [oM 32 4,
 oA 33 (.bin .add) [.t 32,.c (.int .i64 (1))],
 oM 4 33] [0,2,3,4,6,26,27])))
 (cR [oA 34 (.bin .add) [.t 27,.c (.int .i64 (1))],
 oM 27 34] [0,2,3,4,6,26,27])))
def l281_1 : Code :=
 .seq (.seq (cR [oM 8 4,
 oA 9 (.bin .lss) [.t 8,.c (.int .i64 (256))]] [0,2,3,4,9])
 (.cond (.t 9) (.skip)
 (.exit 0)))
 (.block 1 (.seq (cR [oM 10 0,
 oA 11 .call [.c (.func (.func 316) #[] #[]),.t 10],
 oA 12 (.toInt .i64) [.t 11],
 oM 5 12] [0,2,3,4,5])
 (.seq (cR [oM 13 5,
 oA 14 (.bin .shr) [.t 13,.c (.int .u64 (4))],
 oM 15 5,
 oA 16 (.bin .and) [.t 15,.c (.int .i64 (15))],
 oA 17 (.bin .add) [.t 16,.c (.int .i64 (1))],
 oM 6 14,
 oM 7 17] [0,2,3,4,6,7])
 (.seq (cR [oM 18 6,
 oA 19 (.bin .leq) [.t 18,.c (.int .i64 (11))],
 oA 20 .call [.c (.func (.func 317) #[] #[]),.t 19,.c (.int .i64 (4))]] [0,2,3,4,6,7])
 (.seq (cR [oM 21 7,
 oM 22 4,
 oA 23 (.bin .sub) [.c (.int .i64 (256)),.t 22],
 oA 24 (.bin .leq) [.t 21,.t 23],
 oA 25 .call [.c (.func (.func 317) #[] #[]),.t 24,.c (.int .i64 (4))]] [0,2,3,4,6,7])
 (.seq (cR [oM 26 7,
 oA 27 .move [.c (.int .i64 (0))]] [0,2,3,4,6,26,27])
 (.block 2 (.loop [0,2,3,4,6,26,27] l281_0))))))))
def f281 : Func := ⟨.seq (cR [oA 2 (.new 348 256 (List.replicate 256 (.int .i64 (0)))) []] [0,2])
 (.seq (cR [oA 3 (.new 348 256 (List.replicate 256 (.int .i64 (0)))) []] [0,2,3])
 (.seq (.seq (cR [oA 4 .move [.c (.int .i64 (0))]] [0,2,3,4])
 (.block 0 (.loop [0,2,3,4] l281_1)))
 (.seq (cR [oA 35 (.load true 256) [.t 3],
 oN (.store 256) [.t 2,.t 35]] [2])
 (.ret)))),
 [.cell 2 true 256], none⟩

def f282 : Func := ⟨.seq (cR [oM 7 0,
 oA 8 .nilCheck [.t 7],
 oA 9 (.fieldAddr 0) [.t 8],
 oA 10 (.load true 256) [.t 9],
 oA 11 .call [.c (.func (.func 318) #[] #[]),.t 10],
 oM 6 11,
 oA 12 (.extract 0) [.t 6],
 oA 13 (.extract 1) [.t 6],
 oM 2 12,
 oM 3 13] [0,2])
 (.seq (cR [oA 4 .move [.c (.int .i64 (2048))]] [0,2,4])
 (.seq (cR [oM 14 0,
 oA 15 .nilCheck [.t 14],
 oA 16 (.fieldAddr 268) [.t 15],
 oA 17 (.load false 1) [.t 16],
 oA 18 .lenS [.t 17],
 oA 19 (.bin .eql) [.t 18,.c (.int .i64 (0))],
 oM 20 19,
 oG (some 21) .move [.t 0] 20 false,
 oG (some 22) .nilCheck [.t 21] 20 false,
 oG (some 23) (.fieldAddr 268) [.t 22] 20 false,
 oG (some 24) (.load false 1) [.t 23] 20 false,
 oG (some 25) .lenS [.t 24] 20 false,
 oG (some 26) (.bin .eql) [.t 25,.c (.int .i64 (1))] 20 false,
 oG (some 27) .move [.t 26] 20 false,
 oG (some 28) .move [.t 0] 27 true,
 oG (some 29) .nilCheck [.t 28] 27 true,
 oG (some 30) (.fieldAddr 256) [.t 29] 27 true,
 oG (some 31) (.idxAddrA 12 1) [.t 30,.c (.int .i64 (1))] 27 true,
 oG (some 32) (.load false 1) [.t 31] 27 true,
 oG (some 33) (.bin .eql) [.t 32,.c (.int .i64 (1))] 27 true,
 oG (some 34) .pick [.t 27,.t 33,.c (.bool false)] 20 false,
 oA 35 .pick [.t 20,.c (.bool true),.t 34],
 oM 5 35] [2,4,5])
 (cR [oM 36 2,
 oM 37 4,
 oA 38 (.bin .eql) [.t 36,.t 37],
 oM 39 38,
 oG (some 40) .move [.t 5] 39 false,
 oA 41 .pick [.t 39,.c (.bool true),.t 40],
 oA 42 .call [.c (.func (.func 317) #[] #[]),.t 41,.c (.int .i64 (4))]] []))),
 [], none⟩

def l283_0 : Code :=
 .seq (.seq (cR [oM 16 8,
 oA 17 (.bin .leq) [.t 16,.c (.int .i64 (11))]] [0,1,4,5,6,7,8,17])
 (.cond (.t 17) (.skip)
 (.exit 0)))
 (.seq (.block 1 (.seq (cR [oM 20 5,
 oA 21 (.bin .shl) [.t 20,.c (.int .u64 (1))],
 oM 22 0,
 oA 23 .call [.c (.func (.func 319) #[] #[]),.t 22],
 oA 24 (.bin .or) [.t 21,.t 23],
 oM 5 24] [0,1,4,5,6,7,8])
 (.seq (cR [oM 25 6,
 oA 26 (.bin .shl) [.t 25,.c (.int .u64 (1))],
 oM 6 26] [0,1,4,5,6,7,8])
 (.seq (.seq (cR [oM 27 5,
 oM 28 6,
 oA 29 (.bin .sub) [.t 27,.t 28],
 oM 30 1,
 oM 31 8,
 oA 32 .nilCheck [.t 30],
 oA 33 (.fieldAddr 256) [.t 32],
 oA 34 (.idxAddrA 12 1) [.t 33,.t 31],
 oA 35 (.load false 1) [.t 34],
 oA 36 (.bin .lss) [.t 29,.t 35]] [0,1,4,5,6,7,8,36])
 (.cond (.t 36) (.seq (cR [oM 37 1,
 oA 38 .nilCheck [.t 37],
 oA 39 (.fieldAddr 268) [.t 38],
 oA 40 (.load false 1) [.t 39],
 oM 41 7,
 oM 42 5,
 oA 43 (.bin .add) [.t 41,.t 42],
 oM 44 6,
 oA 45 (.bin .sub) [.t 43,.t 44],
 oA 46 (.idxAddr 1) [.t 40,.t 45],
 oA 47 (.load false 1) [.t 46],
 oM 4 47] [4])
 (.ret))
 (.skip)))
 (.seq (cR [oM 48 6,
 oM 49 1,
 oM 50 8,
 oA 51 .nilCheck [.t 49],
 oA 52 (.fieldAddr 256) [.t 51],
 oA 53 (.idxAddrA 12 1) [.t 52,.t 50],
 oA 54 (.load false 1) [.t 53],
 oA 55 (.bin .add) [.t 48,.t 54],
 oM 6 55] [0,1,4,5,6,7,8])
 (.seq (cR [oM 56 7,
 oM 57 1,
 oM 58 8,
 oA 59 .nilCheck [.t 57],
 oA 60 (.fieldAddr 256) [.t 59],
 oA 61 (.idxAddrA 12 1) [.t 60,.t 58],
 oA 62 (.load false 1) [.t 61],
 oA 63 (.bin .add) [.t 56,.t 62],
 oM 7 63] [0,1,4,5,6,7,8])
 (cR [oM 64 1,
 oA 65 .nilCheck [.t 64],
 oA 66 (.fieldAddr 268) [.t 65],
 oA 67 (.load false 1) [.t 66],
 oA 68 .lenS [.t 67],
 oA 69 (.bin .gtr) [.t 68,.c (.int .i64 (1))],
 oA 70 .call [.c (.func (.func 317) #[] #[]),.t 69,.c (.int .i64 (4))]] [0,1,4,5,6,7,8])))))))
 (cR [oM 18 8,
 oA 19 (.bin .add) [.t 18,.c (.int .i64 (1))],
 oM 8 19] [0,1,4,5,6,7,8]))
def f283 : Func := ⟨.seq (cR [oA 4 .move [.c (.int .u8 (0))]] [0,1,4])
 (.seq (cR [oM 9 1,
 oA 10 .nilCheck [.t 9],
 oA 11 (.fieldAddr 268) [.t 10],
 oA 12 (.load false 1) [.t 11],
 oA 13 .lenS [.t 12],
 oA 14 (.bin .gtr) [.t 13,.c (.int .i64 (0))],
 oA 15 .call [.c (.func (.func 317) #[] #[]),.t 14,.c (.int .i64 (4))]] [0,1,4])
 (.seq (cR [oA 5 .move [.c (.int .i64 (0))],
 oA 6 .move [.c (.int .i64 (0))],
 oA 7 .move [.c (.int .i64 (0))]] [0,1,4,5,6,7])
 (.seq (.seq (cR [oA 8 .move [.c (.int .i64 (1))]] [0,1,4,5,6,7,8])
 (.block 0 (.loop [0,1,4,5,6,7,8] l283_0)))
 (cR [oA 71 (.build [(.int .i64 (0))] [(0, 1)]) [.c (.int .i64 (4))],
 oA 72 (.iface 377) [.t 71],
 oN .panic [.t 72]] [4])))),
 [.tmp 4], none⟩

def f284 : Func := ⟨.seq (.seq (cR [oM 3 0,
 oA 4 .nilCheck [.t 3],
 oA 5 (.fieldAddr 1) [.t 4],
 oA 6 (.load false 1) [.t 5],
 oA 7 (.bin .gtr) [.t 6,.c (.int .i64 (0))]] [0,7])
 (.cond (.t 7) (.seq (cD [⟨[oM 8 0,
 oA 9 .nilCheck [.t 8],
 oA 10 (.fieldAddr 0) [.t 9],
 oA 11 (.load false 1) [.t 10],
 oA 12 (.idxAddr 1) [.t 11,.c (.int .i64 (0))],
 oA 13 (.load false 1) [.t 12],
 oM 14 0,
 oA 15 .nilCheck [.t 14],
 oA 16 (.fieldAddr 1) [.t 15],
 oA 17 (.load false 1) [.t 16],
 oA 18 (.bin .shl) [.t 13,.t 17],
 oM 2 18],none,[],[]⟩] [8,9,10,11,12,13,14,15,16,17,18,2] [0,2])
 (.seq (cR [oM 19 0,
 oM 20 0,
 oA 21 .nilCheck [.t 20],
 oA 22 (.fieldAddr 0) [.t 21],
 oA 23 (.load false 1) [.t 22],
 oA 24 (.slice 1 true false false) [.t 23,.c (.int .i64 (1))],
 oA 25 .nilCheck [.t 19],
 oA 26 (.fieldAddr 0) [.t 25],
 oN (.store 1) [.t 26,.t 24]] [0,2])
 (.seq (cR [oM 27 0,
 oA 28 .nilCheck [.t 27],
 oA 29 (.fieldAddr 0) [.t 28],
 oA 30 (.load false 1) [.t 29],
 oA 31 .lenS [.t 30],
 oA 32 (.bin .eql) [.t 31,.c (.int .i64 (0))],
 oA 33 .call [.c (.func (.func 317) #[] #[]),.t 32,.c (.int .i64 (3))]] [0,2])
 (cR [oM 34 2,
 oA 35 (.bin .eql) [.t 34,.c (.int .u8 (0))],
 oA 36 .call [.c (.func (.func 317) #[] #[]),.t 35,.c (.int .i64 (4))]] [0]))))
 (.skip)))
 (cR [oM 37 0,
 oA 38 .nilCheck [.t 37],
 oA 39 (.fieldAddr 0) [.t 38],
 oA 40 (.load false 1) [.t 39],
 oA 41 .lenS [.t 40],
 oA 42 (.bin .eql) [.t 41,.c (.int .i64 (0))],
 oA 43 .call [.c (.func (.func 317) #[] #[]),.t 42,.c (.int .i64 (3))]] []),
 [], none⟩

def l285_0 : Code :=
 .seq (cR [oA 9 (.bin .lss) [.t 8,.t 7]] [0,3,7,8,9])
 (.seq (.cond (.t 9) (.skip)
 (.exit 0))
 (.seq (.block 1 (.seq (cR [oM 10 8,
 oM 5 10] [0,3,5,7,8])
 (.seq (cD [⟨[oA 11 (.load true 2) [.t 3],
 oM 12 0,
 oM 13 5,
 oA 14 (.idxAddr 2) [.t 12,.t 13],
 oA 15 (.load true 2) [.t 14],
 oA 16 (.eqAgg false 2 false) [.t 11,.t 15]],none,[],[]⟩] [11,12,13,14,15,16] [0,3,5,7,8,16])
 (.cond (.t 16) (.seq (cR [oM 17 5,
 oM 4 17] [4])
 (.ret))
 (.skip)))))
 (cR [oA 18 (.bin .add) [.t 8,.c (.int .i64 (1))],
 oM 8 18] [0,3,7,8])))
def f285 : Func := ⟨.seq (cR [oA 3 (.box 132 2) [.t 1],
 oA 4 .move [.c (.int .i64 (0))]] [0,3])
 (.seq (.seq (cR [oM 6 0,
 oA 7 .lenS [.t 6],
 oA 8 .move [.c (.int .i64 (0))]] [0,3,7,8])
 (.block 0 (.loop [0,3,7,8] l285_0)))
 (.seq (cR [oA 4 .move [.c (.int .i64 (-1))]] [4])
 (.ret))),
 [.tmp 4], none⟩

def l286_0 : Code :=
 .seq (.seq (cR [oM 11 10,
 oM 12 3,
 oA 13 (.bin .lss) [.t 11,.t 12]] [0,1,2,3,10,13])
 (.cond (.t 13) (.skip)
 (.exit 0)))
 (.seq (.block 1 (cD [⟨[oM 16 0,
 oM 17 1,
 oM 18 10,
 oA 19 (.bin .add) [.t 17,.t 18],
 oM 20 0,
 oM 21 2,
 oM 22 10,
 oA 23 (.bin .add) [.t 21,.t 22],
 oM 24 0,
 oM 25 2,
 oM 26 10,
 oA 27 (.bin .add) [.t 25,.t 26],
 oA 28 (.idxAddr 5) [.t 24,.t 27],
 oA 29 (.load true 5) [.t 28],
 oM 30 0,
 oM 31 1,
 oM 32 10,
 oA 33 (.bin .add) [.t 31,.t 32],
 oA 34 (.idxAddr 5) [.t 30,.t 33],
 oA 35 (.load true 5) [.t 34],
 oA 36 (.idxAddr 5) [.t 16,.t 19]],some (oN (.store 5) [.t 36,.t 29]),[],[]⟩,
 ⟨[oA 37 (.idxAddr 5) [.t 20,.t 23]],some (oN (.store 5) [.t 37,.t 35]),[],[]⟩] [16,17,18,19,20,21,22,23,24,25,26,27,28,29,30,31,32,33,34,35,36,37] [0,1,2,3,10]))
 (cR [oM 14 10,
 oA 15 (.bin .add) [.t 14,.c (.int .i64 (1))],
 oM 10 15] [0,1,2,3,10]))
def f286 : Func := ⟨.seq (cR [oA 10 .move [.c (.int .i64 (0))]] [0,1,2,3,10])
 (.block 0 (.loop [0,1,2,3,10] l286_0)),
 [], none⟩

def l287_0 : Code :=
 .seq (.seq (cR [oM 8 1,
 oA 9 (.bin .geq) [.t 8,.c (.int .i64 (255))]] [0,1,9])
 (.cond (.t 9) (.skip)
 (.exit 0)))
 (.seq (.block 1 (cR [oM 12 0,
 oM 13 0,
 oA 14 .nilCheck [.t 13],
 oA 15 (.fieldAddr 1) [.t 14],
 oA 16 (.load false 1) [.t 15],
 oA 17 (.buildSlice 5 1 1 [(.int .u8 (0))] [(0, 1)]) [.c (.int .u8 (255))],
 oA 18 (.append 5 1 1) [.t 16,.t 17],
 oA 19 .nilCheck [.t 12],
 oA 20 (.fieldAddr 1) [.t 19],
 oN (.store 1) [.t 20,.t 18]] [0,1]))
 (cR [oM 10 1,
 oA 11 (.bin .sub) [.t 10,.c (.int .i64 (255))],
 oM 1 11] [0,1]))
def f287 : Func := ⟨.seq (.seq (cR [oM 4 1,
 oA 5 (.bin .lss) [.t 4,.c (.int .i64 (15))]] [0,1,5])
 (.cond (.t 5) (.ret)
 (.skip)))
 (.seq (cR [oM 6 1,
 oA 7 (.bin .sub) [.t 6,.c (.int .i64 (15))],
 oM 1 7] [0,1])
 (.seq (.block 0 (.loop [0,1] l287_0))
 (cR [oM 21 0,
 oM 22 0,
 oA 23 .nilCheck [.t 22],
 oA 24 (.fieldAddr 1) [.t 23],
 oA 25 (.load false 1) [.t 24],
 oM 26 1,
 oA 27 (.toInt .u8) [.t 26],
 oA 28 (.buildSlice 5 1 1 [(.int .u8 (0))] [(0, 1)]) [.t 27],
 oA 29 (.append 5 1 1) [.t 25,.t 28],
 oA 30 .nilCheck [.t 21],
 oA 31 (.fieldAddr 1) [.t 30],
 oN (.store 1) [.t 31,.t 29]] []))),
 [], none⟩

def l288_0 : Code :=
 .seq (cR [oA 7 (.bin .lss) [.t 6,.c (.int .i64 (256))]] [5,6,7])
 (.seq (.cond (.t 7) (.skip)
 (.exit 0))
 (.seq (.block 1 (.seq (cR [oA 8 (.idx 256 1 false) [.t 5,.t 6],
 oM 4 8] [4,5,6])
 (.seq (cR [oM 9 4,
 oA 10 (.bin .lss) [.t 9,.c (.int .i64 (0))],
 oM 11 10,
 oG (some 12) .move [.t 4] 11 false,
 oG (some 13) (.bin .gtr) [.t 12,.c (.int .i64 (1048576))] 11 false,
 oA 14 .pick [.t 11,.c (.bool true),.t 13]] [5,6,14])
 (.cond (.t 14) (.seq (cR [oA 2 .move [.c (.bool false)]] [2])
 (.ret))
 (.skip)))))
 (cR [oA 15 (.bin .add) [.t 6,.c (.int .i64 (1))],
 oM 6 15] [5,6])))
def f288 : Func := ⟨.seq (cR [oA 1 (.box 348 256) [.t 0],
 oA 2 .move [.c (.bool false)]] [1])
 (.seq (.seq (cR [oA 5 (.load true 256) [.t 1],
 oA 6 .move [.c (.int .i64 (0))]] [5,6])
 (.block 0 (.loop [5,6] l288_0)))
 (.seq (cR [oA 2 .move [.c (.bool true)]] [2])
 (.ret))),
 [.tmp 2], none⟩

def f289 : Func := ⟨cR [oM 4 0,
 oM 5 0,
 oA 6 .lenS [.t 5],
 oM 7 1,
 oA 8 .call [.c (.func (.func 320) #[] #[]),.t 4,.t 6,.t 7]] [],
 [], none⟩

def f290 : Func := ⟨.seq (cR [oA 5 .move [.c (.int .i64 (0))]] [0,1,2])
 (.seq (cD [⟨[oM 6 1,
 oA 7 (.idxAddrA 256 1) [.t 2,.t 6],
 oA 8 (.load false 1) [.t 7],
 oM 9 0,
 oA 10 (.idxAddrA 256 1) [.t 2,.t 9],
 oA 11 (.load false 1) [.t 10]],some (oA 12 .call [.c (.func (.func 97) #[] #[]),.t 8,.t 11]),[],[]⟩,
 ⟨[oM 5 12],none,[],[]⟩] [6,7,8,9,10,11,12,5] [5])
 (.ret)),
 [.tmp 5], none⟩

def l291_0 : Code :=
 .seq (cR [oA 21 (.bin .lss) [.t 20,.t 19]] [0,3,4,18,19,20,21])
 (.seq (.cond (.t 21) (.skip)
 (.exit 0))
 (.seq (.block 1 (.seq (cR [oM 22 20,
 oA 23 (.idxAddr 1) [.t 18,.t 20],
 oA 24 (.load false 1) [.t 23],
 oM 5 22,
 oM 6 24] [0,3,4,5,6,18,19,20])
 (cR [oM 25 4,
 oA 26 (.iface 411) [.t 25],
 oM 27 6,
 oM 28 5,
 oM 29 5,
 oA 30 (.buildSlice 3 1 1 [(.int .i64 (0))] [(0, 1)]) [.t 29],
 oA 31 (.build [(.int .i64 (0)), (.int .i64 (0)), (.slice none 0 0)] [(0, 1), (1, 1), (2, 1)]) [.t 27,.t 28,.t 30],
 oA 32 (.iface 416) [.t 31],
 oA 33 .call [.c (.func (.func 321) #[] #[]),.t 26,.t 32]] [0,3,4,18,19,20])))
 (cR [oA 34 (.bin .add) [.t 20,.c (.int .i64 (1))],
 oM 20 34] [0,3,4,18,19,20])))
def l291_1 : Code :=
 .seq (cR [oA 61 (.bin .lss) [.t 60,.t 59]] [3,4,7,8,9,10,58,59,60,61])
 (.seq (.cond (.t 61) (.skip)
 (.exit 4))
 (.seq (.block 5 (.seq (cR [oA 62 (.idxAddr 1) [.t 58,.t 60],
 oA 63 (.load false 1) [.t 62],
 oM 12 63] [3,4,7,8,9,10,12,58,59,60])
 (cR [oM 64 3,
 oM 65 12,
 oA 66 (.idxAddr 1) [.t 64,.t 65],
 oA 67 (.load false 1) [.t 66],
 oA 68 (.bin .add) [.t 67,.c (.int .i64 (1))],
 oA 69 (.idxAddr 1) [.t 64,.t 65],
 oN (.store 1) [.t 69,.t 68]] [3,4,7,8,9,10,58,59,60])))
 (cR [oA 70 (.bin .add) [.t 60,.c (.int .i64 (1))],
 oM 60 70] [3,4,7,8,9,10,58,59,60])))
def l291_2 : Code :=
 .seq (.seq (cR [oM 37 4,
 oA 38 .nilCheck [.t 37],
 oA 39 (.load false 1) [.t 38],
 oA 40 .call [.c (.func (.func 322) #[] #[]),.t 39],
 oA 41 (.bin .gtr) [.t 40,.c (.int .i64 (1))]] [3,4,7,41])
 (.cond (.t 41) (.skip)
 (.exit 2)))
 (.seq (.block 3 (.seq (cD [⟨[oM 44 4,
 oA 45 (.iface 411) [.t 44],
 oM 48 4,
 oA 49 (.iface 411) [.t 48]],some (oA 46 .call [.c (.func (.func 323) #[] #[]),.t 45]),[],[oA 8 (.new 416 3 [(.int .i64 (0)), (.int .i64 (0)), (.slice none 0 0)]) [], oA 9 (.new 416 3 [(.int .i64 (0)), (.int .i64 (0)), (.slice none 0 0)]) []]⟩,
 ⟨[oA 47 (.assert 416 (.agg #[(.int .i64 (0)), (.int .i64 (0)), (.slice none 0 0)]) false) [.t 46]],some (oA 50 .call [.c (.func (.func 323) #[] #[]),.t 49]),[],[oA 8 (.new 416 3 [(.int .i64 (0)), (.int .i64 (0)), (.slice none 0 0)]) [], oA 9 (.new 416 3 [(.int .i64 (0)), (.int .i64 (0)), (.slice none 0 0)]) []]⟩,
 ⟨[oA 51 (.assert 416 (.agg #[(.int .i64 (0)), (.int .i64 (0)), (.slice none 0 0)]) false) [.t 50]],some (oA 8 (.new 416 3 [(.int .i64 (0)), (.int .i64 (0)), (.slice none 0 0)]) []),[],[oA 9 (.new 416 3 [(.int .i64 (0)), (.int .i64 (0)), (.slice none 0 0)]) []]⟩,
 ⟨[],some (oA 9 (.new 416 3 [(.int .i64 (0)), (.int .i64 (0)), (.slice none 0 0)]) []),[],[]⟩,
 ⟨[],some (oN (.store 3) [.t 8,.t 47]),[],[]⟩,
 ⟨[],some (oN (.store 3) [.t 9,.t 51]),[],[]⟩] [44,45,46,47,48,49,50,51,8,9] [3,4,7,8,9])
 (.seq (cR [oA 52 (.fieldAddr 2) [.t 8],
 oA 53 (.load false 1) [.t 52],
 oA 54 (.fieldAddr 2) [.t 9],
 oA 55 (.load false 1) [.t 54],
 oA 56 (.buildSlice 68 1 2 [(.slice none 0 0), (.slice none 0 0)] [(0, 1), (1, 1)]) [.t 53,.t 55],
 oA 57 .call [.c (.func (.func 324) #[] #[]),.t 56],
 oM 10 57] [3,4,7,8,9,10])
 (.seq (.seq (cR [oM 58 10,
 oA 59 .lenS [.t 58],
 oA 60 .move [.c (.int .i64 (0))]] [3,4,7,8,9,10,58,59,60])
 (.block 4 (.loop [3,4,7,8,9,10,58,59,60] l291_1)))
 (cR [oM 71 4,
 oA 72 (.iface 411) [.t 71],
 oA 73 (.fieldAddr 0) [.t 8],
 oA 74 (.load false 1) [.t 73],
 oA 75 (.fieldAddr 0) [.t 9],
 oA 76 (.load false 1) [.t 75],
 oA 77 (.bin .add) [.t 74,.t 76],
 oM 78 7,
 oM 79 10,
 oA 80 (.build [(.int .i64 (0)), (.int .i64 (0)), (.slice none 0 0)] [(0, 1), (1, 1), (2, 1)]) [.t 77,.t 78,.t 79],
 oA 81 (.iface 416) [.t 80],
 oA 82 .call [.c (.func (.func 321) #[] #[]),.t 72,.t 81]] [3,4,7])))))
 (cR [oM 42 7,
 oA 43 (.bin .add) [.t 42,.c (.int .i64 (1))],
 oM 7 43] [3,4,7]))
def f291 : Func := ⟨.seq (cR [oA 2 .move [.c (.slice none 0 0)]] [0])
 (.seq (cR [oM 13 0,
 oA 14 .lenS [.t 13],
 oA 15 (.newSlice 3 1 8 [(.int .i64 (0))]) [.t 14,.t 14],
 oM 3 15] [0,3])
 (.seq (cR [oA 16 (.buildSlice 416 3 0 [] []) [],
 oA 17 (.box 413 1) [.t 16],
 oM 4 17] [0,3,4])
 (.seq (.seq (cR [oM 18 0,
 oA 19 .lenS [.t 18],
 oA 20 .move [.c (.int .i64 (0))]] [0,3,4,18,19,20])
 (.block 0 (.loop [0,3,4,18,19,20] l291_0)))
 (.seq (.seq (cR [oM 35 0,
 oA 36 .lenS [.t 35],
 oM 7 36] [3,4,7])
 (.block 2 (.loop [3,4,7] l291_2)))
 (.seq (cR [oM 83 3,
 oM 2 83] [2])
 (.ret)))))),
 [.tmp 2], none⟩

def l292_0 : Code :=
 .seq (.seq (cR [oM 12 4,
 oM 13 0,
 oA 14 .lenS [.t 13],
 oA 15 (.bin .lss) [.t 12,.t 14]] [0,3,4,15])
 (.cond (.t 15) (.skip)
 (.exit 0)))
 (.seq (.block 1 (cR [oM 18 3,
 oM 19 0,
 oM 20 4,
 oA 21 (.idxAddr 1) [.t 19,.t 20],
 oA 22 (.load false 1) [.t 21],
 oA 23 .max [.t 18,.t 22],
 oM 3 23] [0,3,4]))
 (cR [oM 16 4,
 oA 17 (.bin .add) [.t 16,.c (.int .i64 (1))],
 oM 4 17] [0,3,4]))
def f292 : Func := ⟨.seq (cR [oA 2 .move [.c (.int .i64 (0))]] [0])
 (.seq (.seq (cR [oM 5 0,
 oA 6 .lenS [.t 5],
 oA 7 (.bin .lss) [.t 6,.c (.int .i64 (1))]] [0,7])
 (.cond (.t 7) (cR [oA 8 (.iface 9) [.c (.string ⟨⟨[115, 108, 105, 99, 101, 115, 46, 77, 97, 120, 58, 32, 101, 109, 112, 116, 121, 32, 108, 105, 115, 116]⟩⟩)],
 oN .panic [.t 8]] [0])
 (.skip)))
 (.seq (cR [oM 9 0,
 oA 10 (.idxAddr 1) [.t 9,.c (.int .i64 (0))],
 oA 11 (.load false 1) [.t 10],
 oM 3 11] [0,3])
 (.seq (.seq (cR [oA 4 .move [.c (.int .i64 (1))]] [0,3,4])
 (.block 0 (.loop [0,3,4] l292_0)))
 (.seq (cR [oM 24 3,
 oM 2 24] [2])
 (.ret))))),
 [.tmp 2], none⟩

def l293_0 : Code :=
 .seq (.seq (cD [⟨[oM 16 7,
 oM 17 1,
 oA 18 (.bin .gtr) [.t 16,.t 17],
 oM 19 18,
 oG (some 20) .move [.t 0] 19 true,
 oG (some 21) .move [.t 7] 19 true,
 oG (some 22) (.idxAddr 1) [.t 20,.t 21] 19 true,
 oG (some 23) (.load false 1) [.t 22] 19 true,
 oG (some 24) .move [.t 0] 19 true,
 oG (some 25) .move [.t 7] 19 true,
 oG (some 26) (.bin .sub) [.t 25,.c (.int .i64 (1))] 19 true,
 oG (some 27) (.idxAddr 1) [.t 24,.t 26] 19 true,
 oG (some 28) (.load false 1) [.t 27] 19 true],some (oG (some 29) .call [.c (.func (.func 299) #[] #[]),.t 23,.t 28] 19 true),[],[]⟩,
 ⟨[oA 30 .pick [.t 19,.t 29,.c (.bool false)]],none,[],[]⟩] [16,17,18,19,20,21,22,23,24,25,26,27,28,29,30] [0,1,2,6,7,30])
 (.cond (.t 30) (.skip)
 (.exit 2)))
 (.seq (.block 3 (cD [⟨[oM 33 0,
 oM 34 7,
 oM 35 0,
 oM 36 7,
 oA 37 (.bin .sub) [.t 36,.c (.int .i64 (1))],
 oM 38 0,
 oM 39 7,
 oA 40 (.bin .sub) [.t 39,.c (.int .i64 (1))],
 oA 41 (.idxAddr 1) [.t 38,.t 40],
 oA 42 (.load false 1) [.t 41],
 oM 43 0,
 oM 44 7,
 oA 45 (.idxAddr 1) [.t 43,.t 44],
 oA 46 (.load false 1) [.t 45],
 oA 47 (.idxAddr 1) [.t 33,.t 34]],some (oN (.store 1) [.t 47,.t 42]),[],[]⟩,
 ⟨[oA 48 (.idxAddr 1) [.t 35,.t 37]],some (oN (.store 1) [.t 48,.t 46]),[],[]⟩] [33,34,35,36,37,38,39,40,41,42,43,44,45,46,47,48] [0,1,2,6,7]))
 (cR [oM 31 7,
 oA 32 (.bin .sub) [.t 31,.c (.int .i64 (1))],
 oM 7 32] [0,1,2,6,7]))
def l293_1 : Code :=
 .seq (.seq (cR [oM 10 6,
 oM 11 2,
 oA 12 (.bin .lss) [.t 10,.t 11]] [0,1,2,6,12])
 (.cond (.t 12) (.skip)
 (.exit 0)))
 (.seq (.block 1 (.seq (cR [oM 15 6,
 oM 7 15] [0,1,2,6,7])
 (.block 2 (.loop [0,1,2,6,7] l293_0))))
 (cR [oM 13 6,
 oA 14 (.bin .add) [.t 13,.c (.int .i64 (1))],
 oM 6 14] [0,1,2,6]))
def f293 : Func := ⟨.seq (cR [oM 8 1,
 oA 9 (.bin .add) [.t 8,.c (.int .i64 (1))],
 oM 6 9] [0,1,2,6])
 (.block 0 (.loop [0,1,2,6] l293_1)),
 [], none⟩

def l294_0 : Code :=
 .seq (.seq (cR [oM 18 9,
 oA 19 (.bin .geq) [.t 18,.c (.int .i64 (0))]] [0,6,7,8,9,19])
 (.cond (.t 19) (.skip)
 (.exit 0)))
 (.seq (.block 1 (cR [oM 22 0,
 oM 23 9,
 oM 24 8,
 oM 25 6,
 oA 26 .call [.c (.func (.func 325) #[] #[]),.t 22,.t 23,.t 24,.t 25]] [0,6,7,8,9]))
 (cR [oM 20 9,
 oA 21 (.bin .sub) [.t 20,.c (.int .i64 (1))],
 oM 9 21] [0,6,7,8,9]))
def l294_1 : Code :=
 .seq (.seq (cR [oM 29 10,
 oA 30 (.bin .geq) [.t 29,.c (.int .i64 (0))]] [0,6,7,10,30])
 (.cond (.t 30) (.skip)
 (.exit 2)))
 (.seq (.block 3 (.seq (cD [⟨[oM 33 0,
 oM 34 6,
 oM 35 0,
 oM 36 6,
 oM 37 10,
 oA 38 (.bin .add) [.t 36,.t 37],
 oM 39 0,
 oM 40 6,
 oM 41 10,
 oA 42 (.bin .add) [.t 40,.t 41],
 oA 43 (.idxAddr 1) [.t 39,.t 42],
 oA 44 (.load false 1) [.t 43],
 oM 45 0,
 oM 46 6,
 oA 47 (.idxAddr 1) [.t 45,.t 46],
 oA 48 (.load false 1) [.t 47],
 oA 49 (.idxAddr 1) [.t 33,.t 34]],some (oN (.store 1) [.t 49,.t 44]),[],[]⟩,
 ⟨[oA 50 (.idxAddr 1) [.t 35,.t 38]],some (oN (.store 1) [.t 50,.t 48]),[],[]⟩] [33,34,35,36,37,38,39,40,41,42,43,44,45,46,47,48,49,50] [0,6,7,10])
 (cR [oM 51 0,
 oM 52 7,
 oM 53 10,
 oM 54 6,
 oA 55 .call [.c (.func (.func 325) #[] #[]),.t 51,.t 52,.t 53,.t 54]] [0,6,7,10])))
 (cR [oM 31 10,
 oA 32 (.bin .sub) [.t 31,.c (.int .i64 (1))],
 oM 10 32] [0,6,7,10]))
def f294 : Func := ⟨.seq (cR [oM 11 1,
 oM 6 11] [0,1,2,6])
 (.seq (cR [oA 7 .move [.c (.int .i64 (0))]] [0,1,2,6,7])
 (.seq (cR [oM 12 2,
 oM 13 1,
 oA 14 (.bin .sub) [.t 12,.t 13],
 oM 8 14] [0,6,7,8])
 (.seq (.seq (cR [oM 15 8,
 oA 16 (.bin .sub) [.t 15,.c (.int .i64 (1))],
 oA 17 (.bin .quo) [.t 16,.c (.int .i64 (2))],
 oM 9 17] [0,6,7,8,9])
 (.block 0 (.loop [0,6,7,8,9] l294_0)))
 (.seq (cR [oM 27 8,
 oA 28 (.bin .sub) [.t 27,.c (.int .i64 (1))],
 oM 10 28] [0,6,7,10])
 (.block 2 (.loop [0,6,7,10] l294_1)))))),
 [], none⟩

def l295_0 : Code :=
 .seq (.seq (cR [oM 26 9,
 oM 27 1,
 oM 28 6,
 oA 29 (.bin .quo) [.t 28,.c (.int .i64 (4))],
 oA 30 (.bin .mul) [.t 29,.c (.int .i64 (2))],
 oA 31 (.bin .add) [.t 27,.t 30],
 oA 32 (.bin .add) [.t 31,.c (.int .i64 (1))],
 oA 33 (.bin .leq) [.t 26,.t 32]] [0,1,6,7,8,9,33])
 (.cond (.t 33) (.skip)
 (.exit 0)))
 (.seq (.block 1 (.seq (cR [oA 36 .call [.c (.func (.func 327) #[] #[]),.t 7],
 oM 37 8,
 oA 38 (.bin .sub) [.t 37,.c (.int .u64 (1))],
 oA 39 (.bin .and) [.t 36,.t 38],
 oA 40 (.toInt .i64) [.t 39],
 oM 10 40] [0,1,6,7,8,9,10])
 (.seq (.seq (cR [oM 41 10,
 oM 42 6,
 oA 43 (.bin .geq) [.t 41,.t 42]] [0,1,6,7,8,9,10,43])
 (.cond (.t 43) (cR [oM 44 10,
 oM 45 6,
 oA 46 (.bin .sub) [.t 44,.t 45],
 oM 10 46] [0,1,6,7,8,9,10])
 (.skip)))
 (cD [⟨[oM 47 0,
 oM 48 9,
 oM 49 0,
 oM 50 1,
 oM 51 10,
 oA 52 (.bin .add) [.t 50,.t 51],
 oM 53 0,
 oM 54 1,
 oM 55 10,
 oA 56 (.bin .add) [.t 54,.t 55],
 oA 57 (.idxAddr 1) [.t 53,.t 56],
 oA 58 (.load false 1) [.t 57],
 oM 59 0,
 oM 60 9,
 oA 61 (.idxAddr 1) [.t 59,.t 60],
 oA 62 (.load false 1) [.t 61],
 oA 63 (.idxAddr 1) [.t 47,.t 48]],some (oN (.store 1) [.t 63,.t 58]),[],[]⟩,
 ⟨[oA 64 (.idxAddr 1) [.t 49,.t 52]],some (oN (.store 1) [.t 64,.t 62]),[],[]⟩] [47,48,49,50,51,52,53,54,55,56,57,58,59,60,61,62,63,64] [0,1,6,7,8,9]))))
 (cR [oM 34 9,
 oA 35 (.bin .add) [.t 34,.c (.int .i64 (1))],
 oM 9 35] [0,1,6,7,8,9]))
def f295 : Func := ⟨.seq (cR [oM 11 2,
 oM 12 1,
 oA 13 (.bin .sub) [.t 11,.t 12],
 oM 6 13] [0,1,6])
 (.seq (cR [oM 14 6,
 oA 15 (.bin .geq) [.t 14,.c (.int .i64 (8))]] [0,1,6,15])
 (.cond (.t 15) (.seq (cR [oM 16 6,
 oA 17 (.toInt .u64) [.t 16],
 oA 7 (.new 419 1 [(.int .u64 (0))]) [],
 oN (.store 1) [.t 7,.t 17]] [0,1,6,7])
 (.seq (cR [oM 18 6,
 oA 19 .call [.c (.func (.func 326) #[] #[]),.t 18],
 oM 8 19] [0,1,6,7,8])
 (.seq (cR [oM 20 1,
 oM 21 6,
 oA 22 (.bin .quo) [.t 21,.c (.int .i64 (4))],
 oA 23 (.bin .mul) [.t 22,.c (.int .i64 (2))],
 oA 24 (.bin .add) [.t 20,.t 23],
 oA 25 (.bin .sub) [.t 24,.c (.int .i64 (1))],
 oM 9 25] [0,1,6,7,8,9])
 (.block 0 (.loop [0,1,6,7,8,9] l295_0)))))
 (.skip))),
 [], none⟩

def f296 : Func := ⟨.seq (cR [oA 6 .move [.c (.int .i64 (0))],
 oA 7 .move [.c (.int .i64 (0))]] [0,1,2])
 (.seq (cR [oM 13 2,
 oM 14 1,
 oA 15 (.bin .sub) [.t 13,.t 14],
 oM 8 15] [0,1,8])
 (.seq (cR [oA 9 (.new 3 1 [(.int .i64 (0))]) []] [0,1,8,9])
 (.seq (cR [oM 16 1,
 oM 17 8,
 oA 18 (.bin .quo) [.t 17,.c (.int .i64 (4))],
 oA 19 (.bin .mul) [.t 18,.c (.int .i64 (1))],
 oA 20 (.bin .add) [.t 16,.t 19],
 oM 10 20] [0,1,8,9,10])
 (.seq (cR [oM 21 1,
 oM 22 8,
 oA 23 (.bin .quo) [.t 22,.c (.int .i64 (4))],
 oA 24 (.bin .mul) [.t 23,.c (.int .i64 (2))],
 oA 25 (.bin .add) [.t 21,.t 24],
 oM 11 25] [0,1,8,9,10,11])
 (.seq (cR [oM 26 1,
 oM 27 8,
 oA 28 (.bin .quo) [.t 27,.c (.int .i64 (4))],
 oA 29 (.bin .mul) [.t 28,.c (.int .i64 (3))],
 oA 30 (.bin .add) [.t 26,.t 29],
 oM 12 30] [0,8,9,10,11,12])
 (.seq (.seq (cR [oM 31 8,
 oA 32 (.bin .geq) [.t 31,.c (.int .i64 (8))]] [0,8,9,10,11,12,32])
 (.cond (.t 32) (.seq (.seq (cR [oM 33 8,
 oA 34 (.bin .geq) [.t 33,.c (.int .i64 (50))]] [0,9,10,11,12,34])
 (.cond (.t 34) (.seq (cR [oM 35 0,
 oM 36 10,
 oA 37 .call [.c (.func (.func 328) #[] #[]),.t 35,.t 36,.t 9],
 oM 10 37] [0,9,10,11,12])
 (.seq (cR [oM 38 0,
 oM 39 11,
 oA 40 .call [.c (.func (.func 328) #[] #[]),.t 38,.t 39,.t 9],
 oM 11 40] [0,9,10,11,12])
 (cR [oM 41 0,
 oM 42 12,
 oA 43 .call [.c (.func (.func 328) #[] #[]),.t 41,.t 42,.t 9],
 oM 12 43] [0,9,10,11,12])))
 (.skip)))
 (cR [oM 44 0,
 oM 45 10,
 oM 46 11,
 oM 47 12,
 oA 48 .call [.c (.func (.func 329) #[] #[]),.t 44,.t 45,.t 46,.t 47,.t 9],
 oM 11 48] [9,11]))
 (.skip)))
 (.seq (cR [oA 49 (.load false 1) [.t 9]] [11,49])
 (.block 0 (.seq (cR [oA 52 (.bin .eql) [.t 49,.c (.int .i64 (0))],
 oM 51 52] [11,49,51])
 (.cond (.t 51) (.seq (cR [oM 53 11,
 oM 6 53,
 oA 7 .move [.c (.int .i64 (1))]] [6,7])
 (.ret))
 (.seq (cR [oA 55 (.bin .eql) [.t 49,.c (.int .i64 (12))],
 oM 54 55] [11,54])
 (.cond (.t 54) (.seq (cR [oM 56 11,
 oM 6 56,
 oA 7 .move [.c (.int .i64 (2))]] [6,7])
 (.ret))
 (.seq (cR [oM 50 11,
 oM 6 50,
 oA 7 .move [.c (.int .i64 (0))]] [6,7])
 (.ret)))))))))))))),
 [.tmp 6, .tmp 7], none⟩

def l297_0 : Code :=
 .seq (.seq (cR [oM 11 6,
 oM 12 7,
 oA 13 (.bin .lss) [.t 11,.t 12]] [0,6,7,13])
 (.cond (.t 13) (.skip)
 (.exit 0)))
 (.block 1 (.seq (cD [⟨[oM 14 0,
 oM 15 6,
 oM 16 0,
 oM 17 7,
 oM 18 0,
 oM 19 7,
 oA 20 (.idxAddr 1) [.t 18,.t 19],
 oA 21 (.load false 1) [.t 20],
 oM 22 0,
 oM 23 6,
 oA 24 (.idxAddr 1) [.t 22,.t 23],
 oA 25 (.load false 1) [.t 24],
 oA 26 (.idxAddr 1) [.t 14,.t 15]],some (oN (.store 1) [.t 26,.t 21]),[],[]⟩,
 ⟨[oA 27 (.idxAddr 1) [.t 16,.t 17]],some (oN (.store 1) [.t 27,.t 25]),[],[]⟩] [14,15,16,17,18,19,20,21,22,23,24,25,26,27] [0,6,7])
 (.seq (cR [oM 28 6,
 oA 29 (.bin .add) [.t 28,.c (.int .i64 (1))],
 oM 6 29] [0,6,7])
 (cR [oM 30 7,
 oA 31 (.bin .sub) [.t 30,.c (.int .i64 (1))],
 oM 7 31] [0,6,7]))))
def f297 : Func := ⟨.seq (cR [oM 8 1,
 oM 6 8] [0,2,6])
 (.seq (cR [oM 9 2,
 oA 10 (.bin .sub) [.t 9,.c (.int .i64 (1))],
 oM 7 10] [0,6,7])
 (.block 0 (.loop [0,6,7] l297_0))),
 [], none⟩

def l298_0 : Code :=
 .seq (.seq (cD [⟨[oM 17 7,
 oM 18 2,
 oA 19 (.bin .lss) [.t 17,.t 18],
 oM 20 19,
 oG (some 21) .move [.t 0] 20 true,
 oG (some 22) .move [.t 7] 20 true,
 oG (some 23) (.idxAddr 1) [.t 21,.t 22] 20 true,
 oG (some 24) (.load false 1) [.t 23] 20 true,
 oG (some 25) .move [.t 0] 20 true,
 oG (some 26) .move [.t 7] 20 true,
 oG (some 27) (.bin .sub) [.t 26,.c (.int .i64 (1))] 20 true,
 oG (some 28) (.idxAddr 1) [.t 25,.t 27] 20 true,
 oG (some 29) (.load false 1) [.t 28] 20 true],some (oG (some 30) .call [.c (.func (.func 299) #[] #[]),.t 24,.t 29] 20 true),[],[]⟩,
 ⟨[oG (some 31) (.un .not) [.t 30] 20 true,
 oA 32 .pick [.t 20,.t 31,.c (.bool false)]],none,[],[]⟩] [17,18,19,20,21,22,23,24,25,26,27,28,29,30,31,32] [0,1,2,7,8,32])
 (.cond (.t 32) (.skip)
 (.exit 2)))
 (.block 3 (cR [oM 33 7,
 oA 34 (.bin .add) [.t 33,.c (.int .i64 (1))],
 oM 7 34] [0,1,2,7,8]))
def l298_1 : Code :=
 .seq (.seq (cR [oM 64 9,
 oA 65 (.bin .geq) [.t 64,.c (.int .i64 (1))]] [0,1,2,7,8,9,65])
 (.cond (.t 65) (.skip)
 (.exit 4)))
 (.seq (.block 5 (.seq (.seq (cD [⟨[oM 68 0,
 oM 69 9,
 oA 70 (.idxAddr 1) [.t 68,.t 69],
 oA 71 (.load false 1) [.t 70],
 oM 72 0,
 oM 73 9,
 oA 74 (.bin .sub) [.t 73,.c (.int .i64 (1))],
 oA 75 (.idxAddr 1) [.t 72,.t 74],
 oA 76 (.load false 1) [.t 75]],some (oA 77 .call [.c (.func (.func 299) #[] #[]),.t 71,.t 76]),[],[]⟩,
 ⟨[oA 78 (.un .not) [.t 77]],none,[],[]⟩] [68,69,70,71,72,73,74,75,76,77,78] [0,1,2,7,8,9,78])
 (.cond (.t 78) (.exit 4)
 (.skip)))
 (cD [⟨[oM 79 0,
 oM 80 9,
 oM 81 0,
 oM 82 9,
 oA 83 (.bin .sub) [.t 82,.c (.int .i64 (1))],
 oM 84 0,
 oM 85 9,
 oA 86 (.bin .sub) [.t 85,.c (.int .i64 (1))],
 oA 87 (.idxAddr 1) [.t 84,.t 86],
 oA 88 (.load false 1) [.t 87],
 oM 89 0,
 oM 90 9,
 oA 91 (.idxAddr 1) [.t 89,.t 90],
 oA 92 (.load false 1) [.t 91],
 oA 93 (.idxAddr 1) [.t 79,.t 80]],some (oN (.store 1) [.t 93,.t 88]),[],[]⟩,
 ⟨[oA 94 (.idxAddr 1) [.t 81,.t 83]],some (oN (.store 1) [.t 94,.t 92]),[],[]⟩] [79,80,81,82,83,84,85,86,87,88,89,90,91,92,93,94] [0,1,2,7,8,9])))
 (cR [oM 66 9,
 oA 67 (.bin .sub) [.t 66,.c (.int .i64 (1))],
 oM 9 67] [0,1,2,7,8,9]))
def l298_2 : Code :=
 .seq (.seq (cR [oM 101 10,
 oM 102 2,
 oA 103 (.bin .lss) [.t 101,.t 102]] [0,1,2,7,8,10,103])
 (.cond (.t 103) (.skip)
 (.exit 6)))
 (.seq (.block 7 (.seq (.seq (cD [⟨[oM 106 0,
 oM 107 10,
 oA 108 (.idxAddr 1) [.t 106,.t 107],
 oA 109 (.load false 1) [.t 108],
 oM 110 0,
 oM 111 10,
 oA 112 (.bin .sub) [.t 111,.c (.int .i64 (1))],
 oA 113 (.idxAddr 1) [.t 110,.t 112],
 oA 114 (.load false 1) [.t 113]],some (oA 115 .call [.c (.func (.func 299) #[] #[]),.t 109,.t 114]),[],[]⟩,
 ⟨[oA 116 (.un .not) [.t 115]],none,[],[]⟩] [106,107,108,109,110,111,112,113,114,115,116] [0,1,2,7,8,10,116])
 (.cond (.t 116) (.exit 6)
 (.skip)))
 (cD [⟨[oM 117 0,
 oM 118 10,
 oM 119 0,
 oM 120 10,
 oA 121 (.bin .sub) [.t 120,.c (.int .i64 (1))],
 oM 122 0,
 oM 123 10,
 oA 124 (.bin .sub) [.t 123,.c (.int .i64 (1))],
 oA 125 (.idxAddr 1) [.t 122,.t 124],
 oA 126 (.load false 1) [.t 125],
 oM 127 0,
 oM 128 10,
 oA 129 (.idxAddr 1) [.t 127,.t 128],
 oA 130 (.load false 1) [.t 129],
 oA 131 (.idxAddr 1) [.t 117,.t 118]],some (oN (.store 1) [.t 131,.t 126]),[],[]⟩,
 ⟨[oA 132 (.idxAddr 1) [.t 119,.t 121]],some (oN (.store 1) [.t 132,.t 130]),[],[]⟩] [117,118,119,120,121,122,123,124,125,126,127,128,129,130,131,132] [0,1,2,7,8,10])))
 (cR [oM 104 10,
 oA 105 (.bin .add) [.t 104,.c (.int .i64 (1))],
 oM 10 105] [0,1,2,7,8,10]))
def l298_3 : Code :=
 .seq (.seq (cR [oM 13 8,
 oA 14 (.bin .lss) [.t 13,.c (.int .i64 (5))]] [0,1,2,7,8,14])
 (.cond (.t 14) (.skip)
 (.exit 0)))
 (.seq (.block 1 (.seq (.block 2 (.loop [0,1,2,7,8] l298_0))
 (.seq (.seq (cR [oM 35 7,
 oM 36 2,
 oA 37 (.bin .eql) [.t 35,.t 36]] [0,1,2,7,8,37])
 (.cond (.t 37) (.seq (cR [oA 6 .move [.c (.bool true)]] [6])
 (.ret))
 (.skip)))
 (.seq (.seq (cR [oM 38 2,
 oM 39 1,
 oA 40 (.bin .sub) [.t 38,.t 39],
 oA 41 (.bin .lss) [.t 40,.c (.int .i64 (50))]] [0,1,2,7,8,41])
 (.cond (.t 41) (.seq (cR [oA 6 .move [.c (.bool false)]] [6])
 (.ret))
 (.skip)))
 (.seq (cD [⟨[oM 42 0,
 oM 43 7,
 oM 44 0,
 oM 45 7,
 oA 46 (.bin .sub) [.t 45,.c (.int .i64 (1))],
 oM 47 0,
 oM 48 7,
 oA 49 (.bin .sub) [.t 48,.c (.int .i64 (1))],
 oA 50 (.idxAddr 1) [.t 47,.t 49],
 oA 51 (.load false 1) [.t 50],
 oM 52 0,
 oM 53 7,
 oA 54 (.idxAddr 1) [.t 52,.t 53],
 oA 55 (.load false 1) [.t 54],
 oA 56 (.idxAddr 1) [.t 42,.t 43]],some (oN (.store 1) [.t 56,.t 51]),[],[]⟩,
 ⟨[oA 57 (.idxAddr 1) [.t 44,.t 46]],some (oN (.store 1) [.t 57,.t 55]),[],[]⟩] [42,43,44,45,46,47,48,49,50,51,52,53,54,55,56,57] [0,1,2,7,8])
 (.seq (.seq (cR [oM 58 7,
 oM 59 1,
 oA 60 (.bin .sub) [.t 58,.t 59],
 oA 61 (.bin .geq) [.t 60,.c (.int .i64 (2))]] [0,1,2,7,8,61])
 (.cond (.t 61) (.seq (cR [oM 62 7,
 oA 63 (.bin .sub) [.t 62,.c (.int .i64 (1))],
 oM 9 63] [0,1,2,7,8,9])
 (.block 4 (.loop [0,1,2,7,8,9] l298_1)))
 (.skip)))
 (.seq (cR [oM 95 2,
 oM 96 7,
 oA 97 (.bin .sub) [.t 95,.t 96],
 oA 98 (.bin .geq) [.t 97,.c (.int .i64 (2))]] [0,1,2,7,8,98])
 (.cond (.t 98) (.seq (cR [oM 99 7,
 oA 100 (.bin .add) [.t 99,.c (.int .i64 (1))],
 oM 10 100] [0,1,2,7,8,10])
 (.block 6 (.loop [0,1,2,7,8,10] l298_2)))
 (.skip)))))))))
 (cR [oM 15 8,
 oA 16 (.bin .add) [.t 15,.c (.int .i64 (1))],
 oM 8 16] [0,1,2,7,8]))
def f298 : Func := ⟨.seq (cR [oA 6 .move [.c (.bool false)]] [0,1,2])
 (.seq (cR [oM 11 1,
 oA 12 (.bin .add) [.t 11,.c (.int .i64 (1))],
 oM 7 12] [0,1,2,7])
 (.seq (.seq (cR [oA 8 .move [.c (.int .i64 (0))]] [0,1,2,7,8])
 (.block 0 (.loop [0,1,2,7,8] l298_3)))
 (.seq (cR [oA 6 .move [.c (.bool false)]] [6])
 (.ret)))),
 [.tmp 6], none⟩

def f299 : Func := ⟨.seq (cR [oA 4 .move [.c (.bool false)]] [0,1])
 (.seq (cR [oM 5 0,
 oA 6 .call [.c (.func (.func 148) #[] #[]),.t 5],
 oM 7 6,
 oG (some 8) .move [.t 1] 7 true,
 oG (some 9) .call [.c (.func (.func 148) #[] #[]),.t 8] 7 true,
 oG (some 10) (.un .not) [.t 9] 7 true,
 oA 11 .pick [.t 7,.t 10,.c (.bool false)],
 oM 12 11,
 oG (some 13) .move [.t 0] 12 false,
 oG (some 14) .move [.t 1] 12 false,
 oG (some 15) (.bin .lss) [.t 13,.t 14] 12 false,
 oA 16 .pick [.t 12,.c (.bool true),.t 15],
 oM 4 16] [4])
 (.ret)),
 [.tmp 4], none⟩

def l300_0 : Code :=
 .seq (.seq (cD [⟨[oM 29 9,
 oM 30 10,
 oA 31 (.bin .leq) [.t 29,.t 30],
 oM 32 31,
 oG (some 33) .move [.t 0] 32 true,
 oG (some 34) .move [.t 1] 32 true,
 oG (some 35) (.idxAddr 1) [.t 33,.t 34] 32 true,
 oG (some 36) (.load false 1) [.t 35] 32 true,
 oG (some 37) .move [.t 0] 32 true,
 oG (some 38) .move [.t 9] 32 true,
 oG (some 39) (.idxAddr 1) [.t 37,.t 38] 32 true,
 oG (some 40) (.load false 1) [.t 39] 32 true],some (oG (some 41) .call [.c (.func (.func 299) #[] #[]),.t 36,.t 40] 32 true),[],[]⟩,
 ⟨[oG (some 42) (.un .not) [.t 41] 32 true,
 oA 43 .pick [.t 32,.t 42,.c (.bool false)]],none,[],[]⟩] [29,30,31,32,33,34,35,36,37,38,39,40,41,42,43] [0,1,9,10,43])
 (.cond (.t 43) (.skip)
 (.exit 2)))
 (.block 3 (cR [oM 44 9,
 oA 45 (.bin .add) [.t 44,.c (.int .i64 (1))],
 oM 9 45] [0,1,9,10]))
def l300_1 : Code :=
 .seq (.seq (cD [⟨[oM 46 9,
 oM 47 10,
 oA 48 (.bin .leq) [.t 46,.t 47],
 oM 49 48,
 oG (some 50) .move [.t 0] 49 true,
 oG (some 51) .move [.t 1] 49 true,
 oG (some 52) (.idxAddr 1) [.t 50,.t 51] 49 true,
 oG (some 53) (.load false 1) [.t 52] 49 true,
 oG (some 54) .move [.t 0] 49 true,
 oG (some 55) .move [.t 10] 49 true,
 oG (some 56) (.idxAddr 1) [.t 54,.t 55] 49 true,
 oG (some 57) (.load false 1) [.t 56] 49 true],some (oG (some 58) .call [.c (.func (.func 299) #[] #[]),.t 53,.t 57] 49 true),[],[]⟩,
 ⟨[oA 59 .pick [.t 49,.t 58,.c (.bool false)]],none,[],[]⟩] [46,47,48,49,50,51,52,53,54,55,56,57,58,59] [0,1,9,10,59])
 (.cond (.t 59) (.skip)
 (.exit 4)))
 (.block 5 (cR [oM 60 10,
 oA 61 (.bin .sub) [.t 60,.c (.int .i64 (1))],
 oM 10 61] [0,1,9,10]))
def l300_2 : Code :=
 .block 1 (.seq (.block 2 (.loop [0,1,9,10] l300_0))
 (.seq (.block 4 (.loop [0,1,9,10] l300_1))
 (.seq (.seq (cR [oM 62 9,
 oM 63 10,
 oA 64 (.bin .gtr) [.t 62,.t 63]] [0,1,9,10,64])
 (.cond (.t 64) (.exit 0)
 (.skip)))
 (.seq (cD [⟨[oM 65 0,
 oM 66 9,
 oM 67 0,
 oM 68 10,
 oM 69 0,
 oM 70 10,
 oA 71 (.idxAddr 1) [.t 69,.t 70],
 oA 72 (.load false 1) [.t 71],
 oM 73 0,
 oM 74 9,
 oA 75 (.idxAddr 1) [.t 73,.t 74],
 oA 76 (.load false 1) [.t 75],
 oA 77 (.idxAddr 1) [.t 65,.t 66]],some (oN (.store 1) [.t 77,.t 72]),[],[]⟩,
 ⟨[oA 78 (.idxAddr 1) [.t 67,.t 68]],some (oN (.store 1) [.t 78,.t 76]),[],[]⟩] [65,66,67,68,69,70,71,72,73,74,75,76,77,78] [0,1,9,10])
 (.seq (cR [oM 79 9,
 oA 80 (.bin .add) [.t 79,.c (.int .i64 (1))],
 oM 9 80] [0,1,9,10])
 (cR [oM 81 10,
 oA 82 (.bin .sub) [.t 81,.c (.int .i64 (1))],
 oM 10 82] [0,1,9,10]))))))
def f300 : Func := ⟨.seq (cR [oA 8 .move [.c (.int .i64 (0))]] [0,1,2,3])
 (.seq (cD [⟨[oM 11 0,
 oM 12 1,
 oM 13 0,
 oM 14 3,
 oM 15 0,
 oM 16 3,
 oA 17 (.idxAddr 1) [.t 15,.t 16],
 oA 18 (.load false 1) [.t 17],
 oM 19 0,
 oM 20 1,
 oA 21 (.idxAddr 1) [.t 19,.t 20],
 oA 22 (.load false 1) [.t 21],
 oA 23 (.idxAddr 1) [.t 11,.t 12]],some (oN (.store 1) [.t 23,.t 18]),[],[]⟩,
 ⟨[oA 24 (.idxAddr 1) [.t 13,.t 14]],some (oN (.store 1) [.t 24,.t 22]),[],[]⟩] [11,12,13,14,15,16,17,18,19,20,21,22,23,24] [0,1,2])
 (.seq (cR [oM 25 1,
 oA 26 (.bin .add) [.t 25,.c (.int .i64 (1))],
 oM 27 2,
 oA 28 (.bin .sub) [.t 27,.c (.int .i64 (1))],
 oM 9 26,
 oM 10 28] [0,1,9,10])
 (.seq (.block 0 (.loop [0,1,9,10] l300_2))
 (.seq (cR [oM 83 9,
 oM 8 83] [8])
 (.ret))))),
 [.tmp 8], none⟩
end Go.Proofs.YtdbbkaeoinalpaaGreat.AM
