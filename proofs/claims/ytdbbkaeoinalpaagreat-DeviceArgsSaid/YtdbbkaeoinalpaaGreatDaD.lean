/- Parts: Ir4, IrTab. -/
import Derived.Test.YtdbbkaeoinalpaaGreatDaA
import Derived.Test.YtdbbkaeoinalpaaGreatDaB
import Derived.Test.YtdbbkaeoinalpaaGreatDaC
set_option linter.unusedVariables false
namespace Go.Proofs.YtdbbkaeoinalpaaGreat.AM
def l301_0 : Code :=
 .seq (.seq (cD [⟨[oM 30 10,
 oM 31 11,
 oA 32 (.bin .leq) [.t 30,.t 31],
 oM 33 32,
 oG (some 34) .move [.t 0] 33 true,
 oG (some 35) .move [.t 10] 33 true,
 oG (some 36) (.idxAddr 1) [.t 34,.t 35] 33 true,
 oG (some 37) (.load false 1) [.t 36] 33 true,
 oG (some 38) .move [.t 0] 33 true,
 oG (some 39) .move [.t 1] 33 true,
 oG (some 40) (.idxAddr 1) [.t 38,.t 39] 33 true,
 oG (some 41) (.load false 1) [.t 40] 33 true],some (oG (some 42) .call [.c (.func (.func 299) #[] #[]),.t 37,.t 41] 33 true),[],[]⟩,
 ⟨[oA 43 .pick [.t 33,.t 42,.c (.bool false)]],none,[],[]⟩] [30,31,32,33,34,35,36,37,38,39,40,41,42,43] [0,1,10,11,43])
 (.cond (.t 43) (.skip)
 (.exit 0)))
 (.block 1 (cR [oM 44 10,
 oA 45 (.bin .add) [.t 44,.c (.int .i64 (1))],
 oM 10 45] [0,1,10,11]))
def l301_1 : Code :=
 .seq (.seq (cD [⟨[oM 46 10,
 oM 47 11,
 oA 48 (.bin .leq) [.t 46,.t 47],
 oM 49 48,
 oG (some 50) .move [.t 0] 49 true,
 oG (some 51) .move [.t 11] 49 true,
 oG (some 52) (.idxAddr 1) [.t 50,.t 51] 49 true,
 oG (some 53) (.load false 1) [.t 52] 49 true,
 oG (some 54) .move [.t 0] 49 true,
 oG (some 55) .move [.t 1] 49 true,
 oG (some 56) (.idxAddr 1) [.t 54,.t 55] 49 true,
 oG (some 57) (.load false 1) [.t 56] 49 true],some (oG (some 58) .call [.c (.func (.func 299) #[] #[]),.t 53,.t 57] 49 true),[],[]⟩,
 ⟨[oG (some 59) (.un .not) [.t 58] 49 true,
 oA 60 .pick [.t 49,.t 59,.c (.bool false)]],none,[],[]⟩] [46,47,48,49,50,51,52,53,54,55,56,57,58,59,60] [0,1,10,11,60])
 (.cond (.t 60) (.skip)
 (.exit 2)))
 (.block 3 (cR [oM 61 11,
 oA 62 (.bin .sub) [.t 61,.c (.int .i64 (1))],
 oM 11 62] [0,1,10,11]))
def l301_2 : Code :=
 .seq (.seq (cD [⟨[oM 99 10,
 oM 100 11,
 oA 101 (.bin .leq) [.t 99,.t 100],
 oM 102 101,
 oG (some 103) .move [.t 0] 102 true,
 oG (some 104) .move [.t 10] 102 true,
 oG (some 105) (.idxAddr 1) [.t 103,.t 104] 102 true,
 oG (some 106) (.load false 1) [.t 105] 102 true,
 oG (some 107) .move [.t 0] 102 true,
 oG (some 108) .move [.t 1] 102 true,
 oG (some 109) (.idxAddr 1) [.t 107,.t 108] 102 true,
 oG (some 110) (.load false 1) [.t 109] 102 true],some (oG (some 111) .call [.c (.func (.func 299) #[] #[]),.t 106,.t 110] 102 true),[],[]⟩,
 ⟨[oA 112 .pick [.t 102,.t 111,.c (.bool false)]],none,[],[]⟩] [99,100,101,102,103,104,105,106,107,108,109,110,111,112] [0,1,10,11,112])
 (.cond (.t 112) (.skip)
 (.exit 6)))
 (.block 7 (cR [oM 113 10,
 oA 114 (.bin .add) [.t 113,.c (.int .i64 (1))],
 oM 10 114] [0,1,10,11]))
def l301_3 : Code :=
 .seq (.seq (cD [⟨[oM 115 10,
 oM 116 11,
 oA 117 (.bin .leq) [.t 115,.t 116],
 oM 118 117,
 oG (some 119) .move [.t 0] 118 true,
 oG (some 120) .move [.t 11] 118 true,
 oG (some 121) (.idxAddr 1) [.t 119,.t 120] 118 true,
 oG (some 122) (.load false 1) [.t 121] 118 true,
 oG (some 123) .move [.t 0] 118 true,
 oG (some 124) .move [.t 1] 118 true,
 oG (some 125) (.idxAddr 1) [.t 123,.t 124] 118 true,
 oG (some 126) (.load false 1) [.t 125] 118 true],some (oG (some 127) .call [.c (.func (.func 299) #[] #[]),.t 122,.t 126] 118 true),[],[]⟩,
 ⟨[oG (some 128) (.un .not) [.t 127] 118 true,
 oA 129 .pick [.t 118,.t 128,.c (.bool false)]],none,[],[]⟩] [115,116,117,118,119,120,121,122,123,124,125,126,127,128,129] [0,1,10,11,129])
 (.cond (.t 129) (.skip)
 (.exit 8)))
 (.block 9 (cR [oM 130 11,
 oA 131 (.bin .sub) [.t 130,.c (.int .i64 (1))],
 oM 11 131] [0,1,10,11]))
def l301_4 : Code :=
 .block 5 (.seq (.block 6 (.loop [0,1,10,11] l301_2))
 (.seq (.block 8 (.loop [0,1,10,11] l301_3))
 (.seq (.seq (cR [oM 132 10,
 oM 133 11,
 oA 134 (.bin .gtr) [.t 132,.t 133]] [0,1,10,11,134])
 (.cond (.t 134) (.exit 4)
 (.skip)))
 (.seq (cD [⟨[oM 135 0,
 oM 136 10,
 oM 137 0,
 oM 138 11,
 oM 139 0,
 oM 140 11,
 oA 141 (.idxAddr 1) [.t 139,.t 140],
 oA 142 (.load false 1) [.t 141],
 oM 143 0,
 oM 144 10,
 oA 145 (.idxAddr 1) [.t 143,.t 144],
 oA 146 (.load false 1) [.t 145],
 oA 147 (.idxAddr 1) [.t 135,.t 136]],some (oN (.store 1) [.t 147,.t 142]),[],[]⟩,
 ⟨[oA 148 (.idxAddr 1) [.t 137,.t 138]],some (oN (.store 1) [.t 148,.t 146]),[],[]⟩] [135,136,137,138,139,140,141,142,143,144,145,146,147,148] [0,1,10,11])
 (.seq (cR [oM 149 10,
 oA 150 (.bin .add) [.t 149,.c (.int .i64 (1))],
 oM 10 150] [0,1,10,11])
 (cR [oM 151 11,
 oA 152 (.bin .sub) [.t 151,.c (.int .i64 (1))],
 oM 11 152] [0,1,10,11]))))))
def f301 : Func := ⟨.seq (cR [oA 8 .move [.c (.int .i64 (0))],
 oA 9 .move [.c (.bool false)]] [0,1,2,3])
 (.seq (cD [⟨[oM 12 0,
 oM 13 1,
 oM 14 0,
 oM 15 3,
 oM 16 0,
 oM 17 3,
 oA 18 (.idxAddr 1) [.t 16,.t 17],
 oA 19 (.load false 1) [.t 18],
 oM 20 0,
 oM 21 1,
 oA 22 (.idxAddr 1) [.t 20,.t 21],
 oA 23 (.load false 1) [.t 22],
 oA 24 (.idxAddr 1) [.t 12,.t 13]],some (oN (.store 1) [.t 24,.t 19]),[],[]⟩,
 ⟨[oA 25 (.idxAddr 1) [.t 14,.t 15]],some (oN (.store 1) [.t 25,.t 23]),[],[]⟩] [12,13,14,15,16,17,18,19,20,21,22,23,24,25] [0,1,2])
 (.seq (cR [oM 26 1,
 oA 27 (.bin .add) [.t 26,.c (.int .i64 (1))],
 oM 28 2,
 oA 29 (.bin .sub) [.t 28,.c (.int .i64 (1))],
 oM 10 27,
 oM 11 29] [0,1,10,11])
 (.seq (.block 0 (.loop [0,1,10,11] l301_0))
 (.seq (.block 2 (.loop [0,1,10,11] l301_1))
 (.seq (.seq (cR [oM 63 10,
 oM 64 11,
 oA 65 (.bin .gtr) [.t 63,.t 64]] [0,1,10,11,65])
 (.cond (.t 65) (.seq (cD [⟨[oM 66 0,
 oM 67 11,
 oM 68 0,
 oM 69 1,
 oM 70 0,
 oM 71 1,
 oA 72 (.idxAddr 1) [.t 70,.t 71],
 oA 73 (.load false 1) [.t 72],
 oM 74 0,
 oM 75 11,
 oA 76 (.idxAddr 1) [.t 74,.t 75],
 oA 77 (.load false 1) [.t 76],
 oA 78 (.idxAddr 1) [.t 66,.t 67]],some (oN (.store 1) [.t 78,.t 73]),[],[]⟩,
 ⟨[oA 79 (.idxAddr 1) [.t 68,.t 69]],some (oN (.store 1) [.t 79,.t 77]),[],[]⟩] [66,67,68,69,70,71,72,73,74,75,76,77,78,79] [11])
 (.seq (cR [oM 80 11,
 oM 8 80,
 oA 9 .move [.c (.bool true)]] [8,9])
 (.ret)))
 (.skip)))
 (.seq (cD [⟨[oM 81 0,
 oM 82 10,
 oM 83 0,
 oM 84 11,
 oM 85 0,
 oM 86 11,
 oA 87 (.idxAddr 1) [.t 85,.t 86],
 oA 88 (.load false 1) [.t 87],
 oM 89 0,
 oM 90 10,
 oA 91 (.idxAddr 1) [.t 89,.t 90],
 oA 92 (.load false 1) [.t 91],
 oA 93 (.idxAddr 1) [.t 81,.t 82]],some (oN (.store 1) [.t 93,.t 88]),[],[]⟩,
 ⟨[oA 94 (.idxAddr 1) [.t 83,.t 84]],some (oN (.store 1) [.t 94,.t 92]),[],[]⟩] [81,82,83,84,85,86,87,88,89,90,91,92,93,94] [0,1,10,11])
 (.seq (cR [oM 95 10,
 oA 96 (.bin .add) [.t 95,.c (.int .i64 (1))],
 oM 10 96] [0,1,10,11])
 (.seq (cR [oM 97 11,
 oA 98 (.bin .sub) [.t 97,.c (.int .i64 (1))],
 oM 11 98] [0,1,10,11])
 (.seq (.block 4 (.loop [0,1,10,11] l301_4))
 (.seq (cD [⟨[oM 153 0,
 oM 154 11,
 oM 155 0,
 oM 156 1,
 oM 157 0,
 oM 158 1,
 oA 159 (.idxAddr 1) [.t 157,.t 158],
 oA 160 (.load false 1) [.t 159],
 oM 161 0,
 oM 162 11,
 oA 163 (.idxAddr 1) [.t 161,.t 162],
 oA 164 (.load false 1) [.t 163],
 oA 165 (.idxAddr 1) [.t 153,.t 154]],some (oN (.store 1) [.t 165,.t 160]),[],[]⟩,
 ⟨[oA 166 (.idxAddr 1) [.t 155,.t 156]],some (oN (.store 1) [.t 166,.t 164]),[],[]⟩] [153,154,155,156,157,158,159,160,161,162,163,164,165,166] [11])
 (.seq (cR [oM 167 11,
 oM 8 167,
 oA 9 .move [.c (.bool false)]] [8,9])
 (.ret)))))))))))),
 [.tmp 8, .tmp 9], none⟩

def f302 : Func := ⟨.seq (cR [oA 2 .move [.c (.int .i64 (0))]] [0,2])
 (.seq (.seq (cR [oM 3 0,
 oA 4 (.bin .geq) [.t 3,.c (.int .u32 (65536))]] [0,2,4])
 (.cond (.t 4) (.seq (cR [oM 5 0,
 oA 6 (.bin .shr) [.t 5,.c (.int .u64 (16))],
 oM 0 6] [0])
 (cR [oA 2 .move [.c (.int .i64 (16))]] [0,2]))
 (.skip)))
 (.seq (.seq (cR [oM 7 0,
 oA 8 (.bin .geq) [.t 7,.c (.int .u32 (256))]] [0,2,8])
 (.cond (.t 8) (.seq (cR [oM 9 0,
 oA 10 (.bin .shr) [.t 9,.c (.int .u64 (8))],
 oM 0 10] [0,2])
 (cR [oM 11 2,
 oA 12 (.bin .add) [.t 11,.c (.int .i64 (8))],
 oM 2 12] [0,2]))
 (.skip)))
 (.seq (cR [oM 13 2,
 oM 14 0,
 oA 15 (.toInt .u8) [.t 14],
 oA 16 .idxStr [.c (.string ⟨⟨[0, 1, 2, 2, 3, 3, 3, 3, 4, 4, 4, 4, 4, 4, 4, 4, 5, 5, 5, 5, 5, 5, 5, 5, 5, 5, 5, 5, 5, 5, 5, 5, 6, 6, 6, 6, 6, 6, 6, 6, 6, 6, 6, 6, 6, 6, 6, 6, 6, 6, 6, 6, 6, 6, 6, 6, 6, 6, 6, 6, 6, 6, 6, 6, 7, 7, 7, 7, 7, 7, 7, 7, 7, 7, 7, 7, 7, 7, 7, 7, 7, 7, 7, 7, 7, 7, 7, 7, 7, 7, 7, 7, 7, 7, 7, 7, 7, 7, 7, 7, 7, 7, 7, 7, 7, 7, 7, 7, 7, 7, 7, 7, 7, 7, 7, 7, 7, 7, 7, 7, 7, 7, 7, 7, 7, 7, 7, 7, 8, 8, 8, 8, 8, 8, 8, 8, 8, 8, 8, 8, 8, 8, 8, 8, 8, 8, 8, 8, 8, 8, 8, 8, 8, 8, 8, 8, 8, 8, 8, 8, 8, 8, 8, 8, 8, 8, 8, 8, 8, 8, 8, 8, 8, 8, 8, 8, 8, 8, 8, 8, 8, 8, 8, 8, 8, 8, 8, 8, 8, 8, 8, 8, 8, 8, 8, 8, 8, 8, 8, 8, 8, 8, 8, 8, 8, 8, 8, 8, 8, 8, 8, 8, 8, 8, 8, 8, 8, 8, 8, 8, 8, 8, 8, 8, 8, 8, 8, 8, 8, 8, 8, 8, 8, 8, 8, 8, 8, 8, 8, 8, 8, 8, 8, 8, 8, 8, 8, 8, 8, 8, 8, 8, 8, 8, 8, 8]⟩⟩),.t 15],
 oA 17 (.toInt .i64) [.t 16],
 oA 18 (.bin .add) [.t 13,.t 17],
 oM 2 18] [2])
 (.ret)))),
 [.tmp 2], none⟩

def f303 : Func := ⟨.seq (cR [oA 2 .move [.c (.int .i64 (0))]] [0,2])
 (.seq (.seq (cR [oM 3 0,
 oA 4 (.bin .geq) [.t 3,.c (.int .u64 (4294967296))]] [0,2,4])
 (.cond (.t 4) (.seq (cR [oM 5 0,
 oA 6 (.bin .shr) [.t 5,.c (.int .u64 (32))],
 oM 0 6] [0])
 (cR [oA 2 .move [.c (.int .i64 (32))]] [0,2]))
 (.skip)))
 (.seq (.seq (cR [oM 7 0,
 oA 8 (.bin .geq) [.t 7,.c (.int .u64 (65536))]] [0,2,8])
 (.cond (.t 8) (.seq (cR [oM 9 0,
 oA 10 (.bin .shr) [.t 9,.c (.int .u64 (16))],
 oM 0 10] [0,2])
 (cR [oM 11 2,
 oA 12 (.bin .add) [.t 11,.c (.int .i64 (16))],
 oM 2 12] [0,2]))
 (.skip)))
 (.seq (.seq (cR [oM 13 0,
 oA 14 (.bin .geq) [.t 13,.c (.int .u64 (256))]] [0,2,14])
 (.cond (.t 14) (.seq (cR [oM 15 0,
 oA 16 (.bin .shr) [.t 15,.c (.int .u64 (8))],
 oM 0 16] [0,2])
 (cR [oM 17 2,
 oA 18 (.bin .add) [.t 17,.c (.int .i64 (8))],
 oM 2 18] [0,2]))
 (.skip)))
 (.seq (cR [oM 19 2,
 oM 20 0,
 oA 21 (.toInt .u8) [.t 20],
 oA 22 .idxStr [.c (.string ⟨⟨[0, 1, 2, 2, 3, 3, 3, 3, 4, 4, 4, 4, 4, 4, 4, 4, 5, 5, 5, 5, 5, 5, 5, 5, 5, 5, 5, 5, 5, 5, 5, 5, 6, 6, 6, 6, 6, 6, 6, 6, 6, 6, 6, 6, 6, 6, 6, 6, 6, 6, 6, 6, 6, 6, 6, 6, 6, 6, 6, 6, 6, 6, 6, 6, 7, 7, 7, 7, 7, 7, 7, 7, 7, 7, 7, 7, 7, 7, 7, 7, 7, 7, 7, 7, 7, 7, 7, 7, 7, 7, 7, 7, 7, 7, 7, 7, 7, 7, 7, 7, 7, 7, 7, 7, 7, 7, 7, 7, 7, 7, 7, 7, 7, 7, 7, 7, 7, 7, 7, 7, 7, 7, 7, 7, 7, 7, 7, 7, 8, 8, 8, 8, 8, 8, 8, 8, 8, 8, 8, 8, 8, 8, 8, 8, 8, 8, 8, 8, 8, 8, 8, 8, 8, 8, 8, 8, 8, 8, 8, 8, 8, 8, 8, 8, 8, 8, 8, 8, 8, 8, 8, 8, 8, 8, 8, 8, 8, 8, 8, 8, 8, 8, 8, 8, 8, 8, 8, 8, 8, 8, 8, 8, 8, 8, 8, 8, 8, 8, 8, 8, 8, 8, 8, 8, 8, 8, 8, 8, 8, 8, 8, 8, 8, 8, 8, 8, 8, 8, 8, 8, 8, 8, 8, 8, 8, 8, 8, 8, 8, 8, 8, 8, 8, 8, 8, 8, 8, 8, 8, 8, 8, 8, 8, 8, 8, 8, 8, 8, 8, 8, 8, 8, 8, 8, 8, 8]⟩⟩),.t 21],
 oA 23 (.toInt .i64) [.t 22],
 oA 24 (.bin .add) [.t 19,.t 23],
 oM 2 24] [2])
 (.ret))))),
 [.tmp 2], none⟩

def f304 : Func := ⟨.seq (cR [oM 4 0,
 oM 5 1,
 oA 6 (.slice 2 false true false) [.t 4,.t 5],
 oA 7 .call [.c (.func (.func 330) #[] #[]),.t 6]] [0,1])
 (.seq (cR [oM 8 0,
 oM 9 1,
 oA 10 (.slice 2 true false false) [.t 8,.t 9],
 oA 11 .call [.c (.func (.func 330) #[] #[]),.t 10]] [0])
 (cR [oM 12 0,
 oA 13 .call [.c (.func (.func 330) #[] #[]),.t 12]] [])),
 [], none⟩

def f305 : Func := ⟨.seq (cR [oA 6 .move [.c (.slice none 0 0)]] [0,1,2])
 (.seq (cR [oM 8 0,
 oM 9 1,
 oM 10 2,
 oM 11 0,
 oA 12 .lenS [.t 11],
 oA 13 (.slice 3 true true true) [.t 8,.t 9,.t 10,.t 12]] [0,1,2])
 (.seq (.seq (cR [oM 14 1,
 oM 15 2,
 oA 16 (.bin .eql) [.t 14,.t 15]] [0,1,2,16])
 (.cond (.t 16) (.seq (cR [oM 17 0,
 oM 6 17] [6])
 (.ret))
 (.skip)))
 (.seq (cR [oM 18 0,
 oA 19 .lenS [.t 18],
 oM 7 19] [0,1,2,7])
 (.seq (cD [⟨[oM 20 0,
 oM 21 1,
 oA 22 (.slice 3 false true false) [.t 20,.t 21],
 oM 23 0,
 oM 24 2,
 oA 25 (.slice 3 true false false) [.t 23,.t 24]],some (oA 26 (.append 73 3 24) [.t 22,.t 25]),[],[]⟩,
 ⟨[oM 0 26],none,[],[]⟩] [20,21,22,23,24,25,26,0] [0,7])
 (.seq (cR [oM 27 0,
 oM 28 0,
 oA 29 .lenS [.t 28],
 oM 30 7,
 oA 31 (.slice 3 true true false) [.t 27,.t 29,.t 30],
 oN (.clearS [(.int .i64 (0)), (.int .i64 (0)), (.int .i64 (0))]) [.t 31]] [0])
 (.seq (cR [oM 32 0,
 oM 6 32] [6])
 (.ret))))))),
 [.tmp 6], none⟩

def f306 : Func := ⟨.seq (cR [oA 6 .move [.c (.slice none 0 0)]] [0,1,2])
 (.seq (cR [oM 8 0,
 oM 9 1,
 oM 10 2,
 oM 11 0,
 oA 12 .lenS [.t 11],
 oA 13 (.slice 1 true true true) [.t 8,.t 9,.t 10,.t 12]] [0,1,2])
 (.seq (.seq (cR [oM 14 1,
 oM 15 2,
 oA 16 (.bin .eql) [.t 14,.t 15]] [0,1,2,16])
 (.cond (.t 16) (.seq (cR [oM 17 0,
 oM 6 17] [6])
 (.ret))
 (.skip)))
 (.seq (cR [oM 18 0,
 oA 19 .lenS [.t 18],
 oM 7 19] [0,1,2,7])
 (.seq (cD [⟨[oM 20 0,
 oM 21 1,
 oA 22 (.slice 1 false true false) [.t 20,.t 21],
 oM 23 0,
 oM 24 2,
 oA 25 (.slice 1 true false false) [.t 23,.t 24]],some (oA 26 (.append 261 1 8) [.t 22,.t 25]),[],[]⟩,
 ⟨[oM 0 26],none,[],[]⟩] [20,21,22,23,24,25,26,0] [0,7])
 (.seq (cR [oM 27 0,
 oM 28 0,
 oA 29 .lenS [.t 28],
 oM 30 7,
 oA 31 (.slice 1 true true false) [.t 27,.t 29,.t 30],
 oN (.clearS [(.pointer none)]) [.t 31]] [0])
 (.seq (cR [oM 32 0,
 oM 6 32] [6])
 (.ret))))))),
 [.tmp 6], none⟩

def f307 : Func := ⟨.seq (cR [oA 2 .move [.c (.slice none 0 0)]] [0])
 (.seq (.seq (cR [oM 3 0,
 oA 4 (.isNil .slice false) [.t 3]] [0,4])
 (.cond (.t 4) (.seq (cR [oA 2 .move [.c (.slice none 0 0)]] [2])
 (.ret))
 (.skip)))
 (.seq (cR [oA 5 (.buildSlice 261 1 0 [] []) [],
 oM 6 0,
 oA 7 (.append 261 1 8) [.t 5,.t 6],
 oM 2 7] [2])
 (.ret))),
 [.tmp 2], none⟩

def f308 : Func := ⟨.seq (cR [oM 4 0,
 oM 5 1,
 oA 6 (.slice 1 false true false) [.t 4,.t 5],
 oA 7 .call [.c (.func (.func 331) #[] #[]),.t 6]] [0,1])
 (.seq (cR [oM 8 0,
 oM 9 1,
 oA 10 (.slice 1 true false false) [.t 8,.t 9],
 oA 11 .call [.c (.func (.func 331) #[] #[]),.t 10]] [0])
 (cR [oM 12 0,
 oA 13 .call [.c (.func (.func 331) #[] #[]),.t 12]] [])),
 [], none⟩

def f309 : Func := ⟨.seq (cR [oM 4 0,
 oM 5 1,
 oA 6 (.slice 3 false true false) [.t 4,.t 5],
 oA 7 .call [.c (.func (.func 332) #[] #[]),.t 6]] [0,1])
 (.seq (cR [oM 8 0,
 oM 9 1,
 oA 10 (.slice 3 true false false) [.t 8,.t 9],
 oA 11 .call [.c (.func (.func 332) #[] #[]),.t 10]] [0])
 (cR [oM 12 0,
 oA 13 .call [.c (.func (.func 332) #[] #[]),.t 12]] [])),
 [], none⟩

def f311 : Func := ⟨cR [oM 4 0,
 oM 5 0,
 oA 6 .lenS [.t 5],
 oM 7 1,
 oA 8 (.bin .sub) [.t 6,.t 7],
 oA 9 .call [.c (.func (.func 333) #[] #[]),.t 4,.t 8]] [],
 [], none⟩

def f313 : Func := ⟨cR [oM 4 0,
 oM 5 0,
 oA 6 .lenS [.t 5],
 oM 7 1,
 oA 8 (.bin .sub) [.t 6,.t 7],
 oA 9 .call [.c (.func (.func 334) #[] #[]),.t 4,.t 8]] [],
 [], none⟩

def l315_0 : Code :=
 .seq (cR [oA 9 (.bin .lss) [.t 8,.t 7]] [0,1,7,8,9])
 (.seq (.cond (.t 9) (.skip)
 (.exit 0))
 (.seq (.block 1 (.seq (cR [oM 10 8,
 oM 5 10] [0,1,5,7,8])
 (.seq (cR [oM 11 1,
 oM 12 0,
 oM 13 5,
 oA 14 (.idxAddr 3) [.t 12,.t 13],
 oA 15 (.load true 3) [.t 14],
 oA 16 .call [.t 11,.t 15]] [0,1,5,7,8,16])
 (.cond (.t 16) (.seq (cR [oM 17 5,
 oM 4 17] [4])
 (.ret))
 (.skip)))))
 (cR [oA 18 (.bin .add) [.t 8,.c (.int .i64 (1))],
 oM 8 18] [0,1,7,8])))
def f315 : Func := ⟨.seq (cR [oA 4 .move [.c (.int .i64 (0))]] [0,1])
 (.seq (.seq (cR [oM 6 0,
 oA 7 .lenS [.t 6],
 oA 8 .move [.c (.int .i64 (0))]] [0,1,7,8])
 (.block 0 (.loop [0,1,7,8] l315_0)))
 (.seq (cR [oA 4 .move [.c (.int .i64 (-1))]] [4])
 (.ret))),
 [.tmp 4], none⟩

def f316 : Func := ⟨.seq (cR [oA 2 .move [.c (.int .u8 (0))]] [0])
 (.seq (cR [oM 4 0,
 oA 5 .nilCheck [.t 4],
 oA 6 (.fieldAddr 0) [.t 5],
 oA 7 (.load false 1) [.t 6],
 oA 8 .lenS [.t 7],
 oA 9 (.bin .gtr) [.t 8,.c (.int .i64 (0))],
 oA 10 .call [.c (.func (.func 317) #[] #[]),.t 9,.c (.int .i64 (2))]] [0])
 (.seq (cR [oM 11 0,
 oA 12 .nilCheck [.t 11],
 oA 13 (.fieldAddr 0) [.t 12],
 oA 14 (.load false 1) [.t 13],
 oA 15 (.idxAddr 1) [.t 14,.c (.int .i64 (0))],
 oA 16 (.load false 1) [.t 15],
 oM 3 16] [0,3])
 (.seq (cR [oM 17 0,
 oM 18 0,
 oA 19 .nilCheck [.t 18],
 oA 20 (.fieldAddr 0) [.t 19],
 oA 21 (.load false 1) [.t 20],
 oA 22 (.slice 1 true false false) [.t 21,.c (.int .i64 (1))],
 oA 23 .nilCheck [.t 17],
 oA 24 (.fieldAddr 0) [.t 23],
 oN (.store 1) [.t 24,.t 22]] [3])
 (.seq (cR [oM 25 3,
 oM 2 25] [2])
 (.ret))))),
 [.tmp 2], none⟩

def f317 : Func := ⟨.seq (cR [oM 4 0,
 oA 5 (.un .not) [.t 4]] [1,5])
 (.cond (.t 5) (cR [oM 6 1,
 oA 7 (.build [(.int .i64 (0))] [(0, 1)]) [.t 6],
 oA 8 (.iface 377) [.t 7],
 oN .panic [.t 8]] [])
 (.skip)),
 [], none⟩

def l318_0 : Code :=
 .seq (cR [oA 9 (.bin .lss) [.t 8,.c (.int .i64 (256))]] [4,7,8,9])
 (.seq (.cond (.t 9) (.skip)
 (.exit 0))
 (.seq (.block 1 (.seq (cR [oA 10 (.idx 256 1 false) [.t 7,.t 8],
 oM 6 10] [4,6,7,8])
 (.seq (.seq (cR [oM 11 6,
 oA 12 (.bin .lss) [.t 11,.c (.int .i64 (0))],
 oM 13 12,
 oG (some 14) .move [.t 6] 13 false,
 oG (some 15) (.bin .gtr) [.t 14,.c (.int .i64 (11))] 13 false,
 oA 16 .pick [.t 13,.c (.bool true),.t 15]] [4,6,7,8,16])
 (.cond (.t 16) (.seq (cR [oA 2 .move [.c (.int .i64 (0))],
 oA 3 .move [.c (.bool false)]] [2,3])
 (.ret))
 (.skip)))
 (.seq (cR [oM 17 6,
 oA 18 (.bin .gtr) [.t 17,.c (.int .i64 (0))]] [4,6,7,8,18])
 (.cond (.t 18) (cR [oM 19 4,
 oM 20 6,
 oA 21 (.bin .sub) [.c (.int .i64 (11)),.t 20],
 oA 22 (.bin .shl) [.c (.int .i64 (1)),.t 21],
 oA 23 (.bin .add) [.t 19,.t 22],
 oM 4 23] [4,7,8])
 (.skip))))))
 (cR [oA 24 (.bin .add) [.t 8,.c (.int .i64 (1))],
 oM 8 24] [4,7,8])))
def f318 : Func := ⟨.seq (cR [oA 1 (.box 348 256) [.t 0],
 oA 2 .move [.c (.int .i64 (0))],
 oA 3 .move [.c (.bool false)]] [1])
 (.seq (cR [oA 4 .move [.c (.int .i64 (0))]] [1,4])
 (.seq (.seq (cR [oA 7 (.load true 256) [.t 1],
 oA 8 .move [.c (.int .i64 (0))]] [4,7,8])
 (.block 0 (.loop [4,7,8] l318_0)))
 (.seq (cR [oM 25 4,
 oM 2 25,
 oA 3 .move [.c (.bool true)]] [2,3])
 (.ret)))),
 [.tmp 2, .tmp 3], none⟩

def f319 : Func := ⟨.seq (cR [oA 2 .move [.c (.int .i64 (0))]] [0])
 (.seq (cR [oM 4 0,
 oA 5 .nilCheck [.t 4],
 oA 6 (.fieldAddr 0) [.t 5],
 oA 7 (.load false 1) [.t 6],
 oA 8 .lenS [.t 7],
 oA 9 (.bin .gtr) [.t 8,.c (.int .i64 (0))],
 oA 10 .call [.c (.func (.func 317) #[] #[]),.t 9,.c (.int .i64 (2))]] [0])
 (.seq (cD [⟨[oM 11 0,
 oA 12 .nilCheck [.t 11],
 oA 13 (.fieldAddr 0) [.t 12],
 oA 14 (.load false 1) [.t 13],
 oA 15 (.idxAddr 1) [.t 14,.c (.int .i64 (0))],
 oA 16 (.load false 1) [.t 15],
 oM 17 0,
 oA 18 .nilCheck [.t 17],
 oA 19 (.fieldAddr 1) [.t 18],
 oA 20 (.load false 1) [.t 19],
 oA 21 (.bin .sub) [.c (.int .i64 (7)),.t 20],
 oA 22 (.bin .shr) [.t 16,.t 21],
 oA 23 (.toInt .i64) [.t 22],
 oA 24 (.bin .and) [.t 23,.c (.int .i64 (1))],
 oM 3 24],none,[],[]⟩] [11,12,13,14,15,16,17,18,19,20,21,22,23,24,3] [0,3])
 (.seq (cR [oM 25 0,
 oA 26 .nilCheck [.t 25],
 oA 27 (.fieldAddr 1) [.t 26],
 oA 28 (.load false 1) [.t 27],
 oA 29 (.bin .add) [.t 28,.c (.int .i64 (1))],
 oA 30 .nilCheck [.t 25],
 oA 31 (.fieldAddr 1) [.t 30],
 oN (.store 1) [.t 31,.t 29]] [0,3])
 (.seq (.seq (cR [oM 32 0,
 oA 33 .nilCheck [.t 32],
 oA 34 (.fieldAddr 1) [.t 33],
 oA 35 (.load false 1) [.t 34],
 oA 36 (.bin .eql) [.t 35,.c (.int .i64 (8))]] [0,3,36])
 (.cond (.t 36) (cR [oM 37 0,
 oM 38 0,
 oM 39 0,
 oA 40 .nilCheck [.t 39],
 oA 41 (.fieldAddr 0) [.t 40],
 oA 42 (.load false 1) [.t 41],
 oA 43 (.slice 1 true false false) [.t 42,.c (.int .i64 (1))],
 oA 44 .nilCheck [.t 37],
 oA 45 (.fieldAddr 0) [.t 44],
 oN (.store 1) [.t 45,.t 43],
 oA 46 .nilCheck [.t 38],
 oA 47 (.fieldAddr 1) [.t 46],
 oN (.store 1) [.t 47,.c (.int .i64 (0))]] [3])
 (.skip)))
 (.seq (cR [oM 48 3,
 oM 2 48] [2])
 (.ret)))))),
 [.tmp 2], none⟩

def l320_0 : Code :=
 .seq (.seq (cR [oM 11 8,
 oM 12 1,
 oA 13 (.bin .leq) [.t 11,.t 12]] [0,1,2,6,7,8,13])
 (.cond (.t 13) (.skip)
 (.exit 0)))
 (.block 1 (.seq (cR [oM 14 0,
 oM 15 7,
 oM 16 8,
 oM 17 2,
 oA 18 .call [.c (.func (.func 335) #[] #[]),.t 14,.t 15,.t 16,.t 17]] [0,1,2,6,8])
 (.seq (cR [oM 19 8,
 oM 7 19] [0,1,2,6,7,8])
 (cR [oM 20 8,
 oM 21 6,
 oA 22 (.bin .add) [.t 20,.t 21],
 oM 8 22] [0,1,2,6,7,8]))))
def l320_1 : Code :=
 .seq (.seq (cR [oM 33 8,
 oM 34 1,
 oA 35 (.bin .leq) [.t 33,.t 34]] [0,1,2,6,7,8,35])
 (.cond (.t 35) (.skip)
 (.exit 4)))
 (.block 5 (.seq (cR [oM 36 0,
 oM 37 7,
 oM 38 7,
 oM 39 6,
 oA 40 (.bin .add) [.t 38,.t 39],
 oM 41 8,
 oM 42 2,
 oA 43 .call [.c (.func (.func 336) #[] #[]),.t 36,.t 37,.t 40,.t 41,.t 42]] [0,1,2,6,8])
 (.seq (cR [oM 44 8,
 oM 7 44] [0,1,2,6,7,8])
 (cR [oM 45 8,
 oM 46 6,
 oA 47 (.bin .mul) [.c (.int .i64 (2)),.t 46],
 oA 48 (.bin .add) [.t 45,.t 47],
 oM 8 48] [0,1,2,6,7,8]))))
def l320_2 : Code :=
 .seq (.seq (cR [oM 28 6,
 oM 29 1,
 oA 30 (.bin .lss) [.t 28,.t 29]] [0,1,2,6,30])
 (.cond (.t 30) (.skip)
 (.exit 2)))
 (.block 3 (.seq (cR [oM 31 6,
 oA 32 (.bin .mul) [.c (.int .i64 (2)),.t 31],
 oA 7 .move [.c (.int .i64 (0))],
 oM 8 32] [0,1,2,6,7,8])
 (.seq (.block 4 (.loop [0,1,2,6,7,8] l320_1))
 (.seq (.seq (cR [oM 49 7,
 oM 50 6,
 oA 51 (.bin .add) [.t 49,.t 50],
 oM 9 51] [0,1,2,6,7,9])
 (.seq (cR [oM 52 9,
 oM 53 1,
 oA 54 (.bin .lss) [.t 52,.t 53]] [0,1,2,6,7,9,54])
 (.cond (.t 54) (cR [oM 55 0,
 oM 56 7,
 oM 57 9,
 oM 58 1,
 oM 59 2,
 oA 60 .call [.c (.func (.func 336) #[] #[]),.t 55,.t 56,.t 57,.t 58,.t 59]] [0,1,2,6])
 (.skip))))
 (cR [oM 61 6,
 oA 62 (.bin .mul) [.t 61,.c (.int .i64 (2))],
 oM 6 62] [0,1,2,6])))))
def f320 : Func := ⟨.seq (cR [oA 6 .move [.c (.int .i64 (20))]] [0,1,2,6])
 (.seq (cR [oM 10 6,
 oA 7 .move [.c (.int .i64 (0))],
 oM 8 10] [0,1,2,6,7,8])
 (.seq (.block 0 (.loop [0,1,2,6,7,8] l320_0))
 (.seq (cR [oM 23 0,
 oM 24 7,
 oM 25 1,
 oM 26 2,
 oA 27 .call [.c (.func (.func 335) #[] #[]),.t 23,.t 24,.t 25,.t 26]] [0,1,2,6])
 (.block 2 (.loop [0,1,2,6] l320_2))))),
 [], none⟩

def f321 : Func := ⟨.seq (cR [oM 4 0,
 oM 5 1,
 oA 6 (.invoke "Push") [.t 4,.t 5]] [0])
 (cR [oM 7 0,
 oM 8 0,
 oA 9 (.invoke "Len") [.t 8],
 oA 10 (.bin .sub) [.t 9,.c (.int .i64 (1))],
 oA 11 .call [.c (.func (.func 337) #[] #[]),.t 7,.t 10]] []),
 [], none⟩

def f322 : Func := ⟨.seq (cR [oA 2 .move [.c (.int .i64 (0))]] [0])
 (.seq (cR [oM 3 0,
 oA 4 .lenS [.t 3],
 oM 2 4] [2])
 (.ret)),
 [.tmp 2], none⟩

def f323 : Func := ⟨.seq (cR [oA 2 .move [.c .nilIface]] [0])
 (.seq (cR [oM 4 0,
 oA 5 (.invoke "Len") [.t 4],
 oA 6 (.bin .sub) [.t 5,.c (.int .i64 (1))],
 oM 3 6] [0,3])
 (.seq (cR [oM 7 0,
 oM 8 3,
 oA 9 (.invoke "Swap") [.t 7,.c (.int .i64 (0)),.t 8]] [0,3])
 (.seq (cR [oM 10 0,
 oM 11 3,
 oA 12 .call [.c (.func (.func 338) #[] #[]),.t 10,.c (.int .i64 (0)),.t 11]] [0])
 (.seq (cR [oM 13 0,
 oA 14 (.invoke "Pop") [.t 13],
 oM 2 14] [2])
 (.ret))))),
 [.tmp 2], none⟩

def l324_0 : Code :=
 .seq (cR [oA 12 (.bin .lss) [.t 11,.t 10]] [0,3,9,10,11,12])
 (.seq (.cond (.t 12) (.skip)
 (.exit 0))
 (.seq (.block 1 (.seq (cR [oA 13 (.idxAddr 1) [.t 9,.t 11],
 oA 14 (.load false 1) [.t 13],
 oM 5 14] [0,3,5,9,10,11])
 (.seq (cR [oM 15 3,
 oM 16 5,
 oA 17 .lenS [.t 16],
 oA 18 (.bin .add) [.t 15,.t 17],
 oM 3 18] [0,3,9,10,11])
 (.seq (cR [oM 19 3,
 oA 20 (.bin .lss) [.t 19,.c (.int .i64 (0))]] [0,3,9,10,11,20])
 (.cond (.t 20) (cR [oA 21 (.iface 9) [.c (.string ⟨⟨[108, 101, 110, 32, 111, 117, 116, 32, 111, 102, 32, 114, 97, 110, 103, 101]⟩⟩)],
 oN .panic [.t 21]] [0,3,9,10,11])
 (.skip))))))
 (cR [oA 22 (.bin .add) [.t 11,.c (.int .i64 (1))],
 oM 11 22] [0,3,9,10,11])))
def l324_1 : Code :=
 .seq (cR [oA 28 (.bin .lss) [.t 27,.t 26]] [6,25,26,27,28])
 (.seq (.cond (.t 28) (.skip)
 (.exit 2))
 (.seq (.block 3 (.seq (cR [oA 29 (.idxAddr 1) [.t 25,.t 27],
 oA 30 (.load false 1) [.t 29],
 oM 8 30] [6,8,25,26,27])
 (cR [oM 31 6,
 oM 32 8,
 oA 33 (.append 3 1 8) [.t 31,.t 32],
 oM 6 33] [6,25,26,27])))
 (cR [oA 34 (.bin .add) [.t 27,.c (.int .i64 (1))],
 oM 27 34] [6,25,26,27])))
def f324 : Func := ⟨.seq (cR [oA 2 .move [.c (.slice none 0 0)]] [0])
 (.seq (cR [oA 3 .move [.c (.int .i64 (0))]] [0,3])
 (.seq (.seq (cR [oM 9 0,
 oA 10 .lenS [.t 9],
 oA 11 .move [.c (.int .i64 (0))]] [0,3,9,10,11])
 (.block 0 (.loop [0,3,9,10,11] l324_0)))
 (.seq (cR [oM 23 3,
 oA 24 .call [.c (.func (.func 339) #[] #[]),.c (.slice none 0 0),.t 23],
 oM 6 24] [0,6])
 (.seq (.seq (cR [oM 25 0,
 oA 26 .lenS [.t 25],
 oA 27 .move [.c (.int .i64 (0))]] [6,25,26,27])
 (.block 2 (.loop [6,25,26,27] l324_1)))
 (.seq (cR [oM 35 6,
 oM 2 35] [2])
 (.ret)))))),
 [.tmp 2], none⟩

def l325_0 : Code :=
 .block 1 (.seq (cR [oM 11 8,
 oA 12 (.bin .mul) [.c (.int .i64 (2)),.t 11],
 oA 13 (.bin .add) [.t 12,.c (.int .i64 (1))],
 oM 9 13] [0,2,3,8,9])
 (.seq (.seq (cR [oM 14 9,
 oM 15 2,
 oA 16 (.bin .geq) [.t 14,.t 15]] [0,2,3,8,9,16])
 (.cond (.t 16) (.exit 0)
 (.skip)))
 (.seq (.seq (cD [⟨[oM 17 9,
 oA 18 (.bin .add) [.t 17,.c (.int .i64 (1))],
 oM 19 2,
 oA 20 (.bin .lss) [.t 18,.t 19],
 oM 21 20,
 oG (some 22) .move [.t 0] 21 true,
 oG (some 23) .move [.t 3] 21 true,
 oG (some 24) .move [.t 9] 21 true,
 oG (some 25) (.bin .add) [.t 23,.t 24] 21 true,
 oG (some 26) (.idxAddr 1) [.t 22,.t 25] 21 true,
 oG (some 27) (.load false 1) [.t 26] 21 true,
 oG (some 28) .move [.t 0] 21 true,
 oG (some 29) .move [.t 3] 21 true,
 oG (some 30) .move [.t 9] 21 true,
 oG (some 31) (.bin .add) [.t 29,.t 30] 21 true,
 oG (some 32) (.bin .add) [.t 31,.c (.int .i64 (1))] 21 true,
 oG (some 33) (.idxAddr 1) [.t 28,.t 32] 21 true,
 oG (some 34) (.load false 1) [.t 33] 21 true],some (oG (some 35) .call [.c (.func (.func 299) #[] #[]),.t 27,.t 34] 21 true),[],[]⟩,
 ⟨[oA 36 .pick [.t 21,.t 35,.c (.bool false)]],none,[],[]⟩] [17,18,19,20,21,22,23,24,25,26,27,28,29,30,31,32,33,34,35,36] [0,2,3,8,9,36])
 (.cond (.t 36) (cR [oM 37 9,
 oA 38 (.bin .add) [.t 37,.c (.int .i64 (1))],
 oM 9 38] [0,2,3,8,9])
 (.skip)))
 (.seq (.seq (cD [⟨[oM 39 0,
 oM 40 3,
 oM 41 8,
 oA 42 (.bin .add) [.t 40,.t 41],
 oA 43 (.idxAddr 1) [.t 39,.t 42],
 oA 44 (.load false 1) [.t 43],
 oM 45 0,
 oM 46 3,
 oM 47 9,
 oA 48 (.bin .add) [.t 46,.t 47],
 oA 49 (.idxAddr 1) [.t 45,.t 48],
 oA 50 (.load false 1) [.t 49]],some (oA 51 .call [.c (.func (.func 299) #[] #[]),.t 44,.t 50]),[],[]⟩,
 ⟨[oA 52 (.un .not) [.t 51]],none,[],[]⟩] [39,40,41,42,43,44,45,46,47,48,49,50,51,52] [0,2,3,8,9,52])
 (.cond (.t 52) (.ret)
 (.skip)))
 (.seq (cD [⟨[oM 53 0,
 oM 54 3,
 oM 55 8,
 oA 56 (.bin .add) [.t 54,.t 55],
 oM 57 0,
 oM 58 3,
 oM 59 9,
 oA 60 (.bin .add) [.t 58,.t 59],
 oM 61 0,
 oM 62 3,
 oM 63 9,
 oA 64 (.bin .add) [.t 62,.t 63],
 oA 65 (.idxAddr 1) [.t 61,.t 64],
 oA 66 (.load false 1) [.t 65],
 oM 67 0,
 oM 68 3,
 oM 69 8,
 oA 70 (.bin .add) [.t 68,.t 69],
 oA 71 (.idxAddr 1) [.t 67,.t 70],
 oA 72 (.load false 1) [.t 71],
 oA 73 (.idxAddr 1) [.t 53,.t 56]],some (oN (.store 1) [.t 73,.t 66]),[],[]⟩,
 ⟨[oA 74 (.idxAddr 1) [.t 57,.t 60]],some (oN (.store 1) [.t 74,.t 72]),[],[]⟩] [53,54,55,56,57,58,59,60,61,62,63,64,65,66,67,68,69,70,71,72,73,74] [0,2,3,9])
 (cR [oM 75 9,
 oM 8 75] [0,2,3,8]))))))
def f325 : Func := ⟨.seq (cR [oM 10 1,
 oM 8 10] [0,2,3,8])
 (.block 0 (.loop [0,2,3,8] l325_0)),
 [], none⟩

def f326 : Func := ⟨.seq (cR [oA 2 .move [.c (.int .u64 (0))]] [0])
 (.seq (cR [oM 3 0,
 oA 4 (.toInt .u64) [.t 3],
 oA 5 .call [.c (.func (.func 259) #[] #[]),.t 4],
 oA 6 (.bin .shl) [.c (.int .u64 (1)),.t 5],
 oM 2 6] [2])
 (.ret)),
 [.tmp 2], none⟩

def f327 : Func := ⟨.seq (cR [oA 2 .move [.c (.int .u64 (0))]] [0])
 (.seq (cD [⟨[oM 3 0,
 oA 4 .nilCheck [.t 3],
 oA 5 (.load false 1) [.t 4],
 oM 6 0,
 oA 7 .nilCheck [.t 6],
 oA 8 (.load false 1) [.t 7],
 oA 9 (.bin .shl) [.t 8,.c (.int .u64 (13))],
 oA 10 (.bin .xor) [.t 5,.t 9],
 oA 11 .nilCheck [.t 3]],some (oN (.store 1) [.t 11,.t 10]),[],[]⟩] [3,4,5,6,7,8,9,10,11] [0])
 (.seq (cD [⟨[oM 12 0,
 oA 13 .nilCheck [.t 12],
 oA 14 (.load false 1) [.t 13],
 oM 15 0,
 oA 16 .nilCheck [.t 15],
 oA 17 (.load false 1) [.t 16],
 oA 18 (.bin .shr) [.t 17,.c (.int .u64 (7))],
 oA 19 (.bin .xor) [.t 14,.t 18],
 oA 20 .nilCheck [.t 12]],some (oN (.store 1) [.t 20,.t 19]),[],[]⟩] [12,13,14,15,16,17,18,19,20] [0])
 (.seq (cD [⟨[oM 21 0,
 oA 22 .nilCheck [.t 21],
 oA 23 (.load false 1) [.t 22],
 oM 24 0,
 oA 25 .nilCheck [.t 24],
 oA 26 (.load false 1) [.t 25],
 oA 27 (.bin .shl) [.t 26,.c (.int .u64 (17))],
 oA 28 (.bin .xor) [.t 23,.t 27],
 oA 29 .nilCheck [.t 21]],some (oN (.store 1) [.t 29,.t 28]),[],[]⟩] [21,22,23,24,25,26,27,28,29] [0])
 (.seq (cR [oM 30 0,
 oA 31 .nilCheck [.t 30],
 oA 32 (.load false 1) [.t 31],
 oM 2 32] [2])
 (.ret))))),
 [.tmp 2], none⟩

def f328 : Func := ⟨.seq (cR [oA 6 .move [.c (.int .i64 (0))]] [0,1,2])
 (.seq (cR [oM 7 0,
 oM 8 1,
 oA 9 (.bin .sub) [.t 8,.c (.int .i64 (1))],
 oM 10 1,
 oM 11 1,
 oA 12 (.bin .add) [.t 11,.c (.int .i64 (1))],
 oM 13 2,
 oA 14 .call [.c (.func (.func 329) #[] #[]),.t 7,.t 9,.t 10,.t 12,.t 13],
 oM 6 14] [6])
 (.ret)),
 [.tmp 6], none⟩

def f329 : Func := ⟨.seq (cR [oA 10 .move [.c (.int .i64 (0))]] [0,1,2,3,4])
 (.seq (cR [oM 12 0,
 oM 13 1,
 oM 14 2,
 oM 15 4,
 oA 16 .call [.c (.func (.func 340) #[] #[]),.t 12,.t 13,.t 14,.t 15],
 oM 11 16,
 oA 17 (.extract 0) [.t 11],
 oA 18 (.extract 1) [.t 11],
 oM 1 17,
 oM 2 18] [0,1,2,3,4])
 (.seq (cR [oM 20 0,
 oM 21 2,
 oM 22 3,
 oM 23 4,
 oA 24 .call [.c (.func (.func 340) #[] #[]),.t 20,.t 21,.t 22,.t 23],
 oM 19 24,
 oA 25 (.extract 0) [.t 19],
 oA 26 (.extract 1) [.t 19],
 oM 2 25,
 oM 3 26] [0,1,2,4])
 (.seq (cR [oM 28 0,
 oM 29 1,
 oM 30 2,
 oM 31 4,
 oA 32 .call [.c (.func (.func 340) #[] #[]),.t 28,.t 29,.t 30,.t 31],
 oM 27 32,
 oA 33 (.extract 0) [.t 27],
 oA 34 (.extract 1) [.t 27],
 oM 1 33,
 oM 2 34] [2])
 (.seq (cR [oM 35 2,
 oM 10 35] [10])
 (.ret))))),
 [.tmp 10], none⟩

def l330_0 : Code :=
 .seq (.seq (cR [oM 7 2,
 oM 8 3,
 oA 9 (.bin .lss) [.t 7,.t 8]] [0,2,3,9])
 (.cond (.t 9) (.skip)
 (.exit 0)))
 (.seq (.block 1 (cD [⟨[oM 14 0,
 oM 15 2,
 oM 16 0,
 oM 17 3,
 oM 18 0,
 oM 19 3,
 oA 20 (.idxAddr 2) [.t 18,.t 19],
 oA 21 (.load true 2) [.t 20],
 oM 22 0,
 oM 23 2,
 oA 24 (.idxAddr 2) [.t 22,.t 23],
 oA 25 (.load true 2) [.t 24],
 oA 26 (.idxAddr 2) [.t 14,.t 15]],some (oN (.store 2) [.t 26,.t 21]),[],[]⟩,
 ⟨[oA 27 (.idxAddr 2) [.t 16,.t 17]],some (oN (.store 2) [.t 27,.t 25]),[],[]⟩] [14,15,16,17,18,19,20,21,22,23,24,25,26,27] [0,2,3]))
 (cR [oM 10 2,
 oA 11 (.bin .add) [.t 10,.c (.int .i64 (1))],
 oM 12 3,
 oA 13 (.bin .sub) [.t 12,.c (.int .i64 (1))],
 oM 2 11,
 oM 3 13] [0,2,3]))
def f330 : Func := ⟨.seq (cR [oM 4 0,
 oA 5 .lenS [.t 4],
 oA 6 (.bin .sub) [.t 5,.c (.int .i64 (1))],
 oA 2 .move [.c (.int .i64 (0))],
 oM 3 6] [0,2,3])
 (.block 0 (.loop [0,2,3] l330_0)),
 [], none⟩

def l331_0 : Code :=
 .seq (.seq (cR [oM 7 2,
 oM 8 3,
 oA 9 (.bin .lss) [.t 7,.t 8]] [0,2,3,9])
 (.cond (.t 9) (.skip)
 (.exit 0)))
 (.seq (.block 1 (cD [⟨[oM 14 0,
 oM 15 2,
 oM 16 0,
 oM 17 3,
 oM 18 0,
 oM 19 3,
 oA 20 (.idxAddr 1) [.t 18,.t 19],
 oA 21 (.load false 1) [.t 20],
 oM 22 0,
 oM 23 2,
 oA 24 (.idxAddr 1) [.t 22,.t 23],
 oA 25 (.load false 1) [.t 24],
 oA 26 (.idxAddr 1) [.t 14,.t 15]],some (oN (.store 1) [.t 26,.t 21]),[],[]⟩,
 ⟨[oA 27 (.idxAddr 1) [.t 16,.t 17]],some (oN (.store 1) [.t 27,.t 25]),[],[]⟩] [14,15,16,17,18,19,20,21,22,23,24,25,26,27] [0,2,3]))
 (cR [oM 10 2,
 oA 11 (.bin .add) [.t 10,.c (.int .i64 (1))],
 oM 12 3,
 oA 13 (.bin .sub) [.t 12,.c (.int .i64 (1))],
 oM 2 11,
 oM 3 13] [0,2,3]))
def f331 : Func := ⟨.seq (cR [oM 4 0,
 oA 5 .lenS [.t 4],
 oA 6 (.bin .sub) [.t 5,.c (.int .i64 (1))],
 oA 2 .move [.c (.int .i64 (0))],
 oM 3 6] [0,2,3])
 (.block 0 (.loop [0,2,3] l331_0)),
 [], none⟩

def l332_0 : Code :=
 .seq (.seq (cR [oM 7 2,
 oM 8 3,
 oA 9 (.bin .lss) [.t 7,.t 8]] [0,2,3,9])
 (.cond (.t 9) (.skip)
 (.exit 0)))
 (.seq (.block 1 (cD [⟨[oM 14 0,
 oM 15 2,
 oM 16 0,
 oM 17 3,
 oM 18 0,
 oM 19 3,
 oA 20 (.idxAddr 3) [.t 18,.t 19],
 oA 21 (.load true 3) [.t 20],
 oM 22 0,
 oM 23 2,
 oA 24 (.idxAddr 3) [.t 22,.t 23],
 oA 25 (.load true 3) [.t 24],
 oA 26 (.idxAddr 3) [.t 14,.t 15]],some (oN (.store 3) [.t 26,.t 21]),[],[]⟩,
 ⟨[oA 27 (.idxAddr 3) [.t 16,.t 17]],some (oN (.store 3) [.t 27,.t 25]),[],[]⟩] [14,15,16,17,18,19,20,21,22,23,24,25,26,27] [0,2,3]))
 (cR [oM 10 2,
 oA 11 (.bin .add) [.t 10,.c (.int .i64 (1))],
 oM 12 3,
 oA 13 (.bin .sub) [.t 12,.c (.int .i64 (1))],
 oM 2 11,
 oM 3 13] [0,2,3]))
def f332 : Func := ⟨.seq (cR [oM 4 0,
 oA 5 .lenS [.t 4],
 oA 6 (.bin .sub) [.t 5,.c (.int .i64 (1))],
 oA 2 .move [.c (.int .i64 (0))],
 oM 3 6] [0,2,3])
 (.block 0 (.loop [0,2,3] l332_0)),
 [], none⟩

def f333 : Func := ⟨.seq (cR [oM 4 0,
 oM 5 1,
 oA 6 (.slice 3 false true false) [.t 4,.t 5],
 oA 7 .call [.c (.func (.func 341) #[] #[]),.t 6]] [0,1])
 (.seq (cR [oM 8 0,
 oM 9 1,
 oA 10 (.slice 3 true false false) [.t 8,.t 9],
 oA 11 .call [.c (.func (.func 341) #[] #[]),.t 10]] [0])
 (cR [oM 12 0,
 oA 13 .call [.c (.func (.func 341) #[] #[]),.t 12]] [])),
 [], none⟩

def f334 : Func := ⟨.seq (cR [oM 4 0,
 oM 5 1,
 oA 6 (.slice 1 false true false) [.t 4,.t 5],
 oA 7 .call [.c (.func (.func 342) #[] #[]),.t 6]] [0,1])
 (.seq (cR [oM 8 0,
 oM 9 1,
 oA 10 (.slice 1 true false false) [.t 8,.t 9],
 oA 11 .call [.c (.func (.func 342) #[] #[]),.t 10]] [0])
 (cR [oM 12 0,
 oA 13 .call [.c (.func (.func 342) #[] #[]),.t 12]] [])),
 [], none⟩

def l335_0 : Code :=
 .seq (.seq (cD [⟨[oM 18 9,
 oM 19 1,
 oA 20 (.bin .gtr) [.t 18,.t 19],
 oM 21 20,
 oG (some 22) .move [.t 3] 21 true,
 oG (some 23) .move [.t 0] 21 true,
 oG (some 24) .move [.t 9] 21 true,
 oG (some 25) (.idxAddr 1) [.t 23,.t 24] 21 true,
 oG (some 26) (.load false 1) [.t 25] 21 true,
 oG (some 27) .move [.t 0] 21 true,
 oG (some 28) .move [.t 9] 21 true,
 oG (some 29) (.bin .sub) [.t 28,.c (.int .i64 (1))] 21 true,
 oG (some 30) (.idxAddr 1) [.t 27,.t 29] 21 true,
 oG (some 31) (.load false 1) [.t 30] 21 true],some (oG (some 32) .call [.t 22,.t 26,.t 31] 21 true),[],[]⟩,
 ⟨[oG (some 33) (.bin .lss) [.t 32,.c (.int .i64 (0))] 21 true,
 oA 34 .pick [.t 21,.t 33,.c (.bool false)]],none,[],[]⟩] [18,19,20,21,22,23,24,25,26,27,28,29,30,31,32,33,34] [0,1,2,3,8,9,34])
 (.cond (.t 34) (.skip)
 (.exit 2)))
 (.seq (.block 3 (cD [⟨[oM 37 0,
 oM 38 9,
 oM 39 0,
 oM 40 9,
 oA 41 (.bin .sub) [.t 40,.c (.int .i64 (1))],
 oM 42 0,
 oM 43 9,
 oA 44 (.bin .sub) [.t 43,.c (.int .i64 (1))],
 oA 45 (.idxAddr 1) [.t 42,.t 44],
 oA 46 (.load false 1) [.t 45],
 oM 47 0,
 oM 48 9,
 oA 49 (.idxAddr 1) [.t 47,.t 48],
 oA 50 (.load false 1) [.t 49],
 oA 51 (.idxAddr 1) [.t 37,.t 38]],some (oN (.store 1) [.t 51,.t 46]),[],[]⟩,
 ⟨[oA 52 (.idxAddr 1) [.t 39,.t 41]],some (oN (.store 1) [.t 52,.t 50]),[],[]⟩] [37,38,39,40,41,42,43,44,45,46,47,48,49,50,51,52] [0,1,2,3,8,9]))
 (cR [oM 35 9,
 oA 36 (.bin .sub) [.t 35,.c (.int .i64 (1))],
 oM 9 36] [0,1,2,3,8,9]))
def l335_1 : Code :=
 .seq (.seq (cR [oM 12 8,
 oM 13 2,
 oA 14 (.bin .lss) [.t 12,.t 13]] [0,1,2,3,8,14])
 (.cond (.t 14) (.skip)
 (.exit 0)))
 (.seq (.block 1 (.seq (cR [oM 17 8,
 oM 9 17] [0,1,2,3,8,9])
 (.block 2 (.loop [0,1,2,3,8,9] l335_0))))
 (cR [oM 15 8,
 oA 16 (.bin .add) [.t 15,.c (.int .i64 (1))],
 oM 8 16] [0,1,2,3,8]))
def f335 : Func := ⟨.seq (cR [oM 10 1,
 oA 11 (.bin .add) [.t 10,.c (.int .i64 (1))],
 oM 8 11] [0,1,2,3,8])
 (.block 0 (.loop [0,1,2,3,8] l335_1)),
 [], none⟩

def l336_0 : Code :=
 .seq (.seq (cR [oM 31 10,
 oM 32 11,
 oA 33 (.bin .lss) [.t 31,.t 32]] [0,1,4,10,11,33])
 (.cond (.t 33) (.skip)
 (.exit 0)))
 (.block 1 (.seq (cR [oM 34 10,
 oM 35 11,
 oA 36 (.bin .add) [.t 34,.t 35],
 oA 37 (.toInt .u64) [.t 36],
 oA 38 (.bin .shr) [.t 37,.c (.int .u64 (1))],
 oA 39 (.toInt .i64) [.t 38],
 oM 12 39] [0,1,4,10,11,12])
 (.seq (cD [⟨[oM 40 4,
 oM 41 0,
 oM 42 12,
 oA 43 (.idxAddr 1) [.t 41,.t 42],
 oA 44 (.load false 1) [.t 43],
 oM 45 0,
 oM 46 1,
 oA 47 (.idxAddr 1) [.t 45,.t 46],
 oA 48 (.load false 1) [.t 47]],some (oA 49 .call [.t 40,.t 44,.t 48]),[],[]⟩,
 ⟨[oA 50 (.bin .lss) [.t 49,.c (.int .i64 (0))]],none,[],[]⟩] [40,41,42,43,44,45,46,47,48,49,50] [0,1,4,10,11,12,50])
 (.cond (.t 50) (cR [oM 51 12,
 oA 52 (.bin .add) [.t 51,.c (.int .i64 (1))],
 oM 10 52] [0,1,4,10,11])
 (cR [oM 53 12,
 oM 11 53] [0,1,4,10,11])))))
def l336_1 : Code :=
 .seq (.seq (cR [oM 55 13,
 oM 56 10,
 oA 57 (.bin .sub) [.t 56,.c (.int .i64 (1))],
 oA 58 (.bin .lss) [.t 55,.t 57]] [0,10,13,58])
 (.cond (.t 58) (.skip)
 (.exit 2)))
 (.seq (.block 3 (cD [⟨[oM 61 0,
 oM 62 13,
 oM 63 0,
 oM 64 13,
 oA 65 (.bin .add) [.t 64,.c (.int .i64 (1))],
 oM 66 0,
 oM 67 13,
 oA 68 (.bin .add) [.t 67,.c (.int .i64 (1))],
 oA 69 (.idxAddr 1) [.t 66,.t 68],
 oA 70 (.load false 1) [.t 69],
 oM 71 0,
 oM 72 13,
 oA 73 (.idxAddr 1) [.t 71,.t 72],
 oA 74 (.load false 1) [.t 73],
 oA 75 (.idxAddr 1) [.t 61,.t 62]],some (oN (.store 1) [.t 75,.t 70]),[],[]⟩,
 ⟨[oA 76 (.idxAddr 1) [.t 63,.t 65]],some (oN (.store 1) [.t 76,.t 74]),[],[]⟩] [61,62,63,64,65,66,67,68,69,70,71,72,73,74,75,76] [0,10,13]))
 (cR [oM 59 13,
 oA 60 (.bin .add) [.t 59,.c (.int .i64 (1))],
 oM 13 60] [0,10,13]))
def l336_2 : Code :=
 .seq (.seq (cR [oM 83 14,
 oM 84 15,
 oA 85 (.bin .lss) [.t 83,.t 84]] [0,2,4,14,15,85])
 (.cond (.t 85) (.skip)
 (.exit 4)))
 (.block 5 (.seq (cR [oM 86 14,
 oM 87 15,
 oA 88 (.bin .add) [.t 86,.t 87],
 oA 89 (.toInt .u64) [.t 88],
 oA 90 (.bin .shr) [.t 89,.c (.int .u64 (1))],
 oA 91 (.toInt .i64) [.t 90],
 oM 16 91] [0,2,4,14,15,16])
 (.seq (cD [⟨[oM 92 4,
 oM 93 0,
 oM 94 2,
 oA 95 (.idxAddr 1) [.t 93,.t 94],
 oA 96 (.load false 1) [.t 95],
 oM 97 0,
 oM 98 16,
 oA 99 (.idxAddr 1) [.t 97,.t 98],
 oA 100 (.load false 1) [.t 99]],some (oA 101 .call [.t 92,.t 96,.t 100]),[],[]⟩,
 ⟨[oA 102 (.bin .lss) [.t 101,.c (.int .i64 (0))],
 oA 103 (.un .not) [.t 102]],none,[],[]⟩] [92,93,94,95,96,97,98,99,100,101,102,103] [0,2,4,14,15,16,103])
 (.cond (.t 103) (cR [oM 104 16,
 oA 105 (.bin .add) [.t 104,.c (.int .i64 (1))],
 oM 14 105] [0,2,4,14,15])
 (cR [oM 106 16,
 oM 15 106] [0,2,4,14,15])))))
def l336_3 : Code :=
 .seq (.seq (cR [oM 108 17,
 oM 109 14,
 oA 110 (.bin .gtr) [.t 108,.t 109]] [0,14,17,110])
 (.cond (.t 110) (.skip)
 (.exit 6)))
 (.seq (.block 7 (cD [⟨[oM 113 0,
 oM 114 17,
 oM 115 0,
 oM 116 17,
 oA 117 (.bin .sub) [.t 116,.c (.int .i64 (1))],
 oM 118 0,
 oM 119 17,
 oA 120 (.bin .sub) [.t 119,.c (.int .i64 (1))],
 oA 121 (.idxAddr 1) [.t 118,.t 120],
 oA 122 (.load false 1) [.t 121],
 oM 123 0,
 oM 124 17,
 oA 125 (.idxAddr 1) [.t 123,.t 124],
 oA 126 (.load false 1) [.t 125],
 oA 127 (.idxAddr 1) [.t 113,.t 114]],some (oN (.store 1) [.t 127,.t 122]),[],[]⟩,
 ⟨[oA 128 (.idxAddr 1) [.t 115,.t 117]],some (oN (.store 1) [.t 128,.t 126]),[],[]⟩] [113,114,115,116,117,118,119,120,121,122,123,124,125,126,127,128] [0,14,17]))
 (cR [oM 111 17,
 oA 112 (.bin .sub) [.t 111,.c (.int .i64 (1))],
 oM 17 112] [0,14,17]))
def l336_4 : Code :=
 .seq (.seq (cR [oM 149 20,
 oM 150 21,
 oA 151 (.bin .lss) [.t 149,.t 150]] [0,1,2,3,4,18,19,20,21,22,151])
 (.cond (.t 151) (.skip)
 (.exit 8)))
 (.block 9 (.seq (cR [oM 152 20,
 oM 153 21,
 oA 154 (.bin .add) [.t 152,.t 153],
 oA 155 (.toInt .u64) [.t 154],
 oA 156 (.bin .shr) [.t 155,.c (.int .u64 (1))],
 oA 157 (.toInt .i64) [.t 156],
 oM 23 157] [0,1,2,3,4,18,19,20,21,22,23])
 (.seq (cD [⟨[oM 158 4,
 oM 159 0,
 oM 160 22,
 oM 161 23,
 oA 162 (.bin .sub) [.t 160,.t 161],
 oA 163 (.idxAddr 1) [.t 159,.t 162],
 oA 164 (.load false 1) [.t 163],
 oM 165 0,
 oM 166 23,
 oA 167 (.idxAddr 1) [.t 165,.t 166],
 oA 168 (.load false 1) [.t 167]],some (oA 169 .call [.t 158,.t 164,.t 168]),[],[]⟩,
 ⟨[oA 170 (.bin .lss) [.t 169,.c (.int .i64 (0))],
 oA 171 (.un .not) [.t 170]],none,[],[]⟩] [158,159,160,161,162,163,164,165,166,167,168,169,170,171] [0,1,2,3,4,18,19,20,21,22,23,171])
 (.cond (.t 171) (cR [oM 172 23,
 oA 173 (.bin .add) [.t 172,.c (.int .i64 (1))],
 oM 20 173] [0,1,2,3,4,18,19,20,21,22])
 (cR [oM 174 23,
 oM 21 174] [0,1,2,3,4,18,19,20,21,22])))))
def f336 : Func := ⟨.seq (.seq (cR [oM 25 2,
 oM 26 1,
 oA 27 (.bin .sub) [.t 25,.t 26],
 oA 28 (.bin .eql) [.t 27,.c (.int .i64 (1))]] [0,1,2,3,4,28])
 (.cond (.t 28) (.seq (cR [oM 29 2,
 oM 10 29] [0,1,3,4,10])
 (.seq (cR [oM 30 3,
 oM 11 30] [0,1,4,10,11])
 (.seq (.block 0 (.loop [0,1,4,10,11] l336_0))
 (.seq (.seq (cR [oM 54 1,
 oM 13 54] [0,10,13])
 (.block 2 (.loop [0,10,13] l336_1)))
 (.ret)))))
 (.skip)))
 (.seq (.seq (cR [oM 77 3,
 oM 78 2,
 oA 79 (.bin .sub) [.t 77,.t 78],
 oA 80 (.bin .eql) [.t 79,.c (.int .i64 (1))]] [0,1,2,3,4,80])
 (.cond (.t 80) (.seq (cR [oM 81 1,
 oM 14 81] [0,2,4,14])
 (.seq (cR [oM 82 2,
 oM 15 82] [0,2,4,14,15])
 (.seq (.block 4 (.loop [0,2,4,14,15] l336_2))
 (.seq (.seq (cR [oM 107 2,
 oM 17 107] [0,14,17])
 (.block 6 (.loop [0,14,17] l336_3)))
 (.ret)))))
 (.skip)))
 (.seq (cR [oM 129 1,
 oM 130 3,
 oA 131 (.bin .add) [.t 129,.t 130],
 oA 132 (.toInt .u64) [.t 131],
 oA 133 (.bin .shr) [.t 132,.c (.int .u64 (1))],
 oA 134 (.toInt .i64) [.t 133],
 oM 18 134] [0,1,2,3,4,18])
 (.seq (cR [oM 135 18,
 oM 136 2,
 oA 137 (.bin .add) [.t 135,.t 136],
 oM 19 137] [0,1,2,3,4,18,19])
 (.seq (cR [oA 20 .move [.c (.int .i64 (0))],
 oA 21 .move [.c (.int .i64 (0))]] [0,1,2,3,4,18,19])
 (.seq (.seq (cR [oM 138 2,
 oM 139 18,
 oA 140 (.bin .gtr) [.t 138,.t 139]] [0,1,2,3,4,18,19,140])
 (.cond (.t 140) (.seq (cR [oM 141 19,
 oM 142 3,
 oA 143 (.bin .sub) [.t 141,.t 142],
 oM 20 143] [0,1,2,3,4,18,19,20])
 (cR [oM 144 18,
 oM 21 144] [0,1,2,3,4,18,19,20,21]))
 (.seq (cR [oM 145 1,
 oM 20 145] [0,1,2,3,4,18,19,20])
 (cR [oM 146 2,
 oM 21 146] [0,1,2,3,4,18,19,20,21]))))
 (.seq (cR [oM 147 19,
 oA 148 (.bin .sub) [.t 147,.c (.int .i64 (1))],
 oM 22 148] [0,1,2,3,4,18,19,20,21,22])
 (.seq (.block 8 (.loop [0,1,2,3,4,18,19,20,21,22] l336_4))
 (.seq (cR [oM 175 19,
 oM 176 20,
 oA 177 (.bin .sub) [.t 175,.t 176],
 oM 24 177] [0,1,2,3,4,18,20,24])
 (.seq (.seq (cR [oM 178 20,
 oM 179 2,
 oA 180 (.bin .lss) [.t 178,.t 179],
 oM 181 180,
 oG (some 182) .move [.t 2] 181 true,
 oG (some 183) .move [.t 24] 181 true,
 oG (some 184) (.bin .lss) [.t 182,.t 183] 181 true,
 oA 185 .pick [.t 181,.t 184,.c (.bool false)]] [0,1,2,3,4,18,20,24,185])
 (.cond (.t 185) (cR [oM 186 0,
 oM 187 20,
 oM 188 2,
 oM 189 24,
 oM 190 4,
 oA 191 .call [.c (.func (.func 343) #[] #[]),.t 186,.t 187,.t 188,.t 189,.t 190]] [0,1,3,4,18,20,24])
 (.skip)))
 (.seq (.seq (cR [oM 192 1,
 oM 193 20,
 oA 194 (.bin .lss) [.t 192,.t 193],
 oM 195 194,
 oG (some 196) .move [.t 20] 195 true,
 oG (some 197) .move [.t 18] 195 true,
 oG (some 198) (.bin .lss) [.t 196,.t 197] 195 true,
 oA 199 .pick [.t 195,.t 198,.c (.bool false)]] [0,1,3,4,18,20,24,199])
 (.cond (.t 199) (cR [oM 200 0,
 oM 201 1,
 oM 202 20,
 oM 203 18,
 oM 204 4,
 oA 205 .call [.c (.func (.func 336) #[] #[]),.t 200,.t 201,.t 202,.t 203,.t 204]] [0,3,4,18,24])
 (.skip)))
 (.seq (cR [oM 206 18,
 oM 207 24,
 oA 208 (.bin .lss) [.t 206,.t 207],
 oM 209 208,
 oG (some 210) .move [.t 24] 209 true,
 oG (some 211) .move [.t 3] 209 true,
 oG (some 212) (.bin .lss) [.t 210,.t 211] 209 true,
 oA 213 .pick [.t 209,.t 212,.c (.bool false)]] [0,3,4,18,24,213])
 (.cond (.t 213) (cR [oM 214 0,
 oM 215 18,
 oM 216 24,
 oM 217 3,
 oM 218 4,
 oA 219 .call [.c (.func (.func 336) #[] #[]),.t 214,.t 215,.t 216,.t 217,.t 218]] [])
 (.skip))))))))))))),
 [], none⟩

def l337_0 : Code :=
 .block 1 (.seq (cR [oM 5 1,
 oA 6 (.bin .sub) [.t 5,.c (.int .i64 (1))],
 oA 7 (.bin .quo) [.t 6,.c (.int .i64 (2))],
 oM 4 7] [0,1,4])
 (.seq (.seq (cR [oM 8 4,
 oM 9 1,
 oA 10 (.bin .eql) [.t 8,.t 9],
 oM 11 10,
 oG (some 12) .move [.t 0] 11 false,
 oG (some 13) .move [.t 1] 11 false,
 oG (some 14) .move [.t 4] 11 false,
 oG (some 15) (.invoke "Less") [.t 12,.t 13,.t 14] 11 false,
 oG (some 16) (.un .not) [.t 15] 11 false,
 oA 17 .pick [.t 11,.c (.bool true),.t 16]] [0,1,4,17])
 (.cond (.t 17) (.exit 0)
 (.skip)))
 (.seq (cR [oM 18 0,
 oM 19 4,
 oM 20 1,
 oA 21 (.invoke "Swap") [.t 18,.t 19,.t 20]] [0,4])
 (cR [oM 22 4,
 oM 1 22] [0,1]))))
def f337 : Func := ⟨.block 0 (.loop [0,1] l337_0),
 [], none⟩

def l338_0 : Code :=
 .block 1 (.seq (cR [oM 12 7,
 oA 13 (.bin .mul) [.c (.int .i64 (2)),.t 12],
 oA 14 (.bin .add) [.t 13,.c (.int .i64 (1))],
 oM 8 14] [0,1,2,7,8])
 (.seq (.seq (cR [oM 15 8,
 oM 16 2,
 oA 17 (.bin .geq) [.t 15,.t 16],
 oM 18 17,
 oG (some 19) .move [.t 8] 18 false,
 oG (some 20) (.bin .lss) [.t 19,.c (.int .i64 (0))] 18 false,
 oA 21 .pick [.t 18,.c (.bool true),.t 20]] [0,1,2,7,8,21])
 (.cond (.t 21) (.exit 0)
 (.skip)))
 (.seq (cR [oM 22 8,
 oM 9 22] [0,1,2,7,8,9])
 (.seq (.seq (cR [oM 23 8,
 oA 24 (.bin .add) [.t 23,.c (.int .i64 (1))],
 oM 10 24] [0,1,2,7,8,9,10])
 (.seq (cR [oM 25 10,
 oM 26 2,
 oA 27 (.bin .lss) [.t 25,.t 26],
 oM 28 27,
 oG (some 29) .move [.t 0] 28 true,
 oG (some 30) .move [.t 10] 28 true,
 oG (some 31) .move [.t 8] 28 true,
 oG (some 32) (.invoke "Less") [.t 29,.t 30,.t 31] 28 true,
 oA 33 .pick [.t 28,.t 32,.c (.bool false)]] [0,1,2,7,9,10,33])
 (.cond (.t 33) (cR [oM 34 10,
 oM 9 34] [0,1,2,7,9])
 (.skip))))
 (.seq (.seq (cR [oM 35 0,
 oM 36 9,
 oM 37 7,
 oA 38 (.invoke "Less") [.t 35,.t 36,.t 37],
 oA 39 (.un .not) [.t 38]] [0,1,2,7,9,39])
 (.cond (.t 39) (.exit 0)
 (.skip)))
 (.seq (cR [oM 40 0,
 oM 41 7,
 oM 42 9,
 oA 43 (.invoke "Swap") [.t 40,.t 41,.t 42]] [0,1,2,9])
 (cR [oM 44 9,
 oM 7 44] [0,1,2,7])))))))
def f338 : Func := ⟨.seq (cR [oA 6 .move [.c (.bool false)]] [0,1,2])
 (.seq (cR [oM 11 1,
 oM 7 11] [0,1,2,7])
 (.seq (.block 0 (.loop [0,1,2,7] l338_0))
 (.seq (cR [oM 45 7,
 oM 46 1,
 oA 47 (.bin .gtr) [.t 45,.t 46],
 oM 6 47] [6])
 (.ret)))),
 [.tmp 6], none⟩

def f339 : Func := ⟨.seq (cR [oA 4 .move [.c (.slice none 0 0)]] [0,1])
 (.seq (.seq (cR [oM 5 1,
 oA 6 (.bin .lss) [.t 5,.c (.int .i64 (0))]] [0,1,6])
 (.cond (.t 6) (cR [oA 7 (.iface 9) [.c (.string ⟨⟨[99, 97, 110, 110, 111, 116, 32, 98, 101, 32, 110, 101, 103, 97, 116, 105, 118, 101]⟩⟩)],
 oN .panic [.t 7]] [0,1])
 (.skip)))
 (.seq (.seq (cR [oM 8 1,
 oM 9 0,
 oA 10 .cap [.t 9],
 oM 11 0,
 oA 12 .lenS [.t 11],
 oA 13 (.bin .sub) [.t 10,.t 12],
 oA 14 (.bin .sub) [.t 8,.t 13],
 oM 1 14] [0,1])
 (.seq (cR [oM 15 1,
 oA 16 (.bin .gtr) [.t 15,.c (.int .i64 (0))]] [0,1,16])
 (.cond (.t 16) (cR [oM 17 0,
 oM 18 0,
 oA 19 .cap [.t 18],
 oA 20 (.slice 1 false true false) [.t 17,.t 19],
 oM 21 1,
 oA 22 (.appendZ 3 1 8 [(.int .i64 (0))]) [.t 20,.t 21],
 oM 23 0,
 oA 24 .lenS [.t 23],
 oA 25 (.slice 1 false true false) [.t 22,.t 24],
 oM 0 25] [0])
 (.skip))))
 (.seq (cR [oM 26 0,
 oM 4 26] [4])
 (.ret)))),
 [.tmp 4], none⟩

def f340 : Func := ⟨.seq (cR [oA 8 .move [.c (.int .i64 (0))],
 oA 9 .move [.c (.int .i64 (0))]] [0,1,2,3])
 (.seq (.seq (cD [⟨[oM 10 0,
 oM 11 2,
 oA 12 (.idxAddr 1) [.t 10,.t 11],
 oA 13 (.load false 1) [.t 12],
 oM 14 0,
 oM 15 1,
 oA 16 (.idxAddr 1) [.t 14,.t 15],
 oA 17 (.load false 1) [.t 16]],some (oA 18 .call [.c (.func (.func 299) #[] #[]),.t 13,.t 17]),[],[]⟩] [10,11,12,13,14,15,16,17,18] [1,2,3,18])
 (.cond (.t 18) (.seq (cR [oM 19 3,
 oA 20 .nilCheck [.t 19],
 oA 21 (.load false 1) [.t 20],
 oA 22 (.bin .add) [.t 21,.c (.int .i64 (1))],
 oA 23 .nilCheck [.t 19],
 oN (.store 1) [.t 23,.t 22]] [1,2])
 (.seq (cR [oM 24 2,
 oM 25 1,
 oM 8 24,
 oM 9 25] [8,9])
 (.ret)))
 (.skip)))
 (.seq (cR [oM 26 1,
 oM 27 2,
 oM 8 26,
 oM 9 27] [8,9])
 (.ret))),
 [.tmp 8, .tmp 9], none⟩

def l341_0 : Code :=
 .seq (.seq (cR [oM 7 2,
 oM 8 3,
 oA 9 (.bin .lss) [.t 7,.t 8]] [0,2,3,9])
 (.cond (.t 9) (.skip)
 (.exit 0)))
 (.seq (.block 1 (cD [⟨[oM 14 0,
 oM 15 2,
 oM 16 0,
 oM 17 3,
 oM 18 0,
 oM 19 3,
 oA 20 (.idxAddr 3) [.t 18,.t 19],
 oA 21 (.load true 3) [.t 20],
 oM 22 0,
 oM 23 2,
 oA 24 (.idxAddr 3) [.t 22,.t 23],
 oA 25 (.load true 3) [.t 24],
 oA 26 (.idxAddr 3) [.t 14,.t 15]],some (oN (.store 3) [.t 26,.t 21]),[],[]⟩,
 ⟨[oA 27 (.idxAddr 3) [.t 16,.t 17]],some (oN (.store 3) [.t 27,.t 25]),[],[]⟩] [14,15,16,17,18,19,20,21,22,23,24,25,26,27] [0,2,3]))
 (cR [oM 10 2,
 oA 11 (.bin .add) [.t 10,.c (.int .i64 (1))],
 oM 12 3,
 oA 13 (.bin .sub) [.t 12,.c (.int .i64 (1))],
 oM 2 11,
 oM 3 13] [0,2,3]))
def f341 : Func := ⟨.seq (cR [oM 4 0,
 oA 5 .lenS [.t 4],
 oA 6 (.bin .sub) [.t 5,.c (.int .i64 (1))],
 oA 2 .move [.c (.int .i64 (0))],
 oM 3 6] [0,2,3])
 (.block 0 (.loop [0,2,3] l341_0)),
 [], none⟩

def l342_0 : Code :=
 .seq (.seq (cR [oM 7 2,
 oM 8 3,
 oA 9 (.bin .lss) [.t 7,.t 8]] [0,2,3,9])
 (.cond (.t 9) (.skip)
 (.exit 0)))
 (.seq (.block 1 (cD [⟨[oM 14 0,
 oM 15 2,
 oM 16 0,
 oM 17 3,
 oM 18 0,
 oM 19 3,
 oA 20 (.idxAddr 1) [.t 18,.t 19],
 oA 21 (.load false 1) [.t 20],
 oM 22 0,
 oM 23 2,
 oA 24 (.idxAddr 1) [.t 22,.t 23],
 oA 25 (.load false 1) [.t 24],
 oA 26 (.idxAddr 1) [.t 14,.t 15]],some (oN (.store 1) [.t 26,.t 21]),[],[]⟩,
 ⟨[oA 27 (.idxAddr 1) [.t 16,.t 17]],some (oN (.store 1) [.t 27,.t 25]),[],[]⟩] [14,15,16,17,18,19,20,21,22,23,24,25,26,27] [0,2,3]))
 (cR [oM 10 2,
 oA 11 (.bin .add) [.t 10,.c (.int .i64 (1))],
 oM 12 3,
 oA 13 (.bin .sub) [.t 12,.c (.int .i64 (1))],
 oM 2 11,
 oM 3 13] [0,2,3]))
def f342 : Func := ⟨.seq (cR [oM 4 0,
 oA 5 .lenS [.t 4],
 oA 6 (.bin .sub) [.t 5,.c (.int .i64 (1))],
 oA 2 .move [.c (.int .i64 (0))],
 oM 3 6] [0,2,3])
 (.block 0 (.loop [0,2,3] l342_0)),
 [], none⟩

def l343_0 : Code :=
 .seq (.seq (cR [oM 18 10,
 oM 19 11,
 oA 20 (.bin .neq) [.t 18,.t 19]] [0,2,4,10,11,20])
 (.cond (.t 20) (.skip)
 (.exit 0)))
 (.block 1 (.seq (cR [oM 21 10,
 oM 22 11,
 oA 23 (.bin .gtr) [.t 21,.t 22]] [0,2,4,10,11,23])
 (.cond (.t 23) (.seq (cR [oM 24 0,
 oM 25 2,
 oM 26 10,
 oA 27 (.bin .sub) [.t 25,.t 26],
 oM 28 2,
 oM 29 11,
 oM 30 4,
 oA 31 .call [.c (.func (.func 344) #[] #[]),.t 24,.t 27,.t 28,.t 29,.t 30]] [0,2,4,10,11])
 (cR [oM 32 10,
 oM 33 11,
 oA 34 (.bin .sub) [.t 32,.t 33],
 oM 10 34] [0,2,4,10,11]))
 (.seq (cR [oM 35 0,
 oM 36 2,
 oM 37 10,
 oA 38 (.bin .sub) [.t 36,.t 37],
 oM 39 2,
 oM 40 11,
 oA 41 (.bin .add) [.t 39,.t 40],
 oM 42 10,
 oA 43 (.bin .sub) [.t 41,.t 42],
 oM 44 10,
 oM 45 4,
 oA 46 .call [.c (.func (.func 344) #[] #[]),.t 35,.t 38,.t 43,.t 44,.t 45]] [0,2,4,10,11])
 (cR [oM 47 11,
 oM 48 10,
 oA 49 (.bin .sub) [.t 47,.t 48],
 oM 11 49] [0,2,4,10,11])))))
def f343 : Func := ⟨.seq (cR [oM 12 2,
 oM 13 1,
 oA 14 (.bin .sub) [.t 12,.t 13],
 oM 10 14] [0,2,3,4,10])
 (.seq (cR [oM 15 3,
 oM 16 2,
 oA 17 (.bin .sub) [.t 15,.t 16],
 oM 11 17] [0,2,4,10,11])
 (.seq (.block 0 (.loop [0,2,4,10,11] l343_0))
 (cR [oM 50 0,
 oM 51 2,
 oM 52 10,
 oA 53 (.bin .sub) [.t 51,.t 52],
 oM 54 2,
 oM 55 10,
 oM 56 4,
 oA 57 .call [.c (.func (.func 344) #[] #[]),.t 50,.t 53,.t 54,.t 55,.t 56]] []))),
 [], none⟩

def l344_0 : Code :=
 .seq (.seq (cR [oM 11 10,
 oM 12 3,
 oA 13 (.bin .lss) [.t 11,.t 12]] [0,1,2,3,10,13])
 (.cond (.t 13) (.skip)
 (.exit 0)))
 (.seq (.block 1 (cD [⟨[oM 16 0,
 oM 17 1,
 oM 18 10,
 oA 19 (.bin .add) [.t 17,.t 18],
 oM 20 0,
 oM 21 2,
 oM 22 10,
 oA 23 (.bin .add) [.t 21,.t 22],
 oM 24 0,
 oM 25 2,
 oM 26 10,
 oA 27 (.bin .add) [.t 25,.t 26],
 oA 28 (.idxAddr 1) [.t 24,.t 27],
 oA 29 (.load false 1) [.t 28],
 oM 30 0,
 oM 31 1,
 oM 32 10,
 oA 33 (.bin .add) [.t 31,.t 32],
 oA 34 (.idxAddr 1) [.t 30,.t 33],
 oA 35 (.load false 1) [.t 34],
 oA 36 (.idxAddr 1) [.t 16,.t 19]],some (oN (.store 1) [.t 36,.t 29]),[],[]⟩,
 ⟨[oA 37 (.idxAddr 1) [.t 20,.t 23]],some (oN (.store 1) [.t 37,.t 35]),[],[]⟩] [16,17,18,19,20,21,22,23,24,25,26,27,28,29,30,31,32,33,34,35,36,37] [0,1,2,3,10]))
 (cR [oM 14 10,
 oA 15 (.bin .add) [.t 14,.c (.int .i64 (1))],
 oM 10 15] [0,1,2,3,10]))
def f344 : Func := ⟨.seq (cR [oA 10 .move [.c (.int .i64 (0))]] [0,1,2,3,10])
 (.block 0 (.loop [0,1,2,3,10] l344_0)),
 [], none⟩

def f362 : Func := ⟨.seq (cR [oA 3 (.box 73 3) [.t 1],
 oA 4 (.new 205 5 [(.int .i64 (0)), (.slice none 0 0), (.slice none 0 0), (.slice none 0 0), (.slice none 0 0)]) [],
 oA 5 .move [.c (.int .i64 (0))]] [0,3,4])
 (.seq (cR [oM 11 0,
 oA 12 (.fieldAddr 0) [.t 3],
 oA 13 (.load false 1) [.t 12],
 oA 14 (.fieldAddr 1) [.t 3],
 oA 15 (.load false 1) [.t 14],
 oA 16 (.build [(.int .i64 (0)), (.int .i64 (0))] [(0, 1), (1, 1)]) [.t 13,.t 15],
 oA 17 .call [.c (.func (.func 76) #[] #[]),.t 11,.t 16],
 oM 10 17,
 oA 18 (.extract 0) [.t 10],
 oA 19 (.extract 1) [.t 10],
 oM 6 18,
 oM 7 19] [3,4,6,7])
 (.seq (.seq (cR [oM 20 7,
 oA 21 (.bin .neq) [.t 20,.c (.int .i64 (0))]] [3,4,6,7,21])
 (.cond (.t 21) (.seq (cR [oA 22 (.build [(.int .i64 (0)), (.slice none 0 0), (.slice none 0 0), (.slice none 0 0), (.slice none 0 0)] []) [],
 oM 23 7,
 oN (.store 5) [.t 4,.t 22],
 oM 5 23] [4,5])
 (.ret))
 (.skip)))
 (.seq (cR [oM 25 6,
 oA 26 .call [.c (.func (.func 130) #[] #[]),.t 25,.c (.int .u8 (78))],
 oM 24 26,
 oA 27 (.extract 0) [.t 24],
 oA 28 (.extract 1) [.t 24],
 oA 29 (.extract 2) [.t 24],
 oM 8 27,
 oM 9 28,
 oM 7 29] [3,4,7,8,9])
 (.seq (.block 0 (.seq (cR [oM 31 7,
 oA 32 (.bin .neq) [.t 31,.c (.int .i64 (0))],
 oM 30 32] [3,4,7,8,9,30])
 (.cond (.t 30) (.seq (cR [oA 33 (.build [(.int .i64 (0)), (.slice none 0 0), (.slice none 0 0), (.slice none 0 0), (.slice none 0 0)] []) [],
 oM 34 7,
 oN (.store 5) [.t 4,.t 33],
 oM 5 34] [4,5])
 (.ret))
 (.seq (cR [oM 36 8,
 oA 37 (.fieldAddr 2) [.t 3],
 oA 38 (.load false 1) [.t 37],
 oA 39 (.bin .neq) [.t 36,.t 38],
 oM 35 39] [4,9,35])
 (.cond (.t 35) (.seq (cR [oA 40 (.build [(.int .i64 (0)), (.slice none 0 0), (.slice none 0 0), (.slice none 0 0), (.slice none 0 0)] []) [],
 oN (.store 5) [.t 4,.t 40],
 oA 5 .move [.c (.int .i64 (5))]] [4,5])
 (.ret))
 (.skip))))))
 (.seq (cR [oM 41 9,
 oA 42 .call [.c (.func (.func 364) #[] #[]),.t 41],
 oA 43 (.extract 0) [.t 42],
 oA 44 (.extract 1) [.t 42],
 oN (.store 5) [.t 4,.t 43],
 oM 5 44] [4,5])
 (.ret)))))),
 [.cell 4 true 5, .tmp 5], none⟩

def f363 : Func := ⟨.seq (cR [oA 3 (.box 205 5) [.t 1],
 oA 4 (.new 73 3 [(.int .i64 (0)), (.int .i64 (0)), (.int .i64 (0))]) [],
 oA 5 .move [.c (.int .i64 (0))]] [0,3,4])
 (.seq (.seq (cR [oM 10 0,
 oA 11 .call [.c (.func (.func 129) #[] #[]),.t 10],
 oA 12 (.un .not) [.t 11]] [0,3,4,12])
 (.cond (.t 12) (.seq (cR [oA 13 (.build [(.int .i64 (0)), (.int .i64 (0)), (.int .i64 (0))] []) [],
 oN (.store 3) [.t 4,.t 13],
 oA 5 .move [.c (.int .i64 (1))]] [4,5])
 (.ret))
 (.skip)))
 (.seq (cR [oA 15 (.load true 5) [.t 3],
 oA 16 .call [.c (.func (.func 365) #[] #[]),.t 15],
 oM 14 16,
 oA 17 (.extract 0) [.t 14],
 oA 18 (.extract 1) [.t 14],
 oM 6 17,
 oM 7 18] [0,4,6,7])
 (.seq (.seq (cR [oM 19 7,
 oA 20 (.bin .neq) [.t 19,.c (.int .i64 (0))]] [0,4,6,7,20])
 (.cond (.t 20) (.seq (cR [oA 21 (.build [(.int .i64 (0)), (.int .i64 (0)), (.int .i64 (0))] []) [],
 oM 22 7,
 oN (.store 3) [.t 4,.t 21],
 oM 5 22] [4,5])
 (.ret))
 (.skip)))
 (.seq (cR [oM 24 0,
 oA 25 .nilCheck [.t 24],
 oA 26 (.fieldAddr 3) [.t 25],
 oA 27 (.load false 1) [.t 26],
 oM 28 6,
 oA 29 .call [.c (.func (.func 153) #[] #[]),.c (.int .u8 (78)),.t 27,.t 28],
 oM 23 29,
 oA 30 (.extract 0) [.t 23],
 oA 31 (.extract 1) [.t 23],
 oM 8 30,
 oM 7 31] [0,4,7,8])
 (.seq (.seq (cR [oM 32 7,
 oA 33 (.bin .neq) [.t 32,.c (.int .i64 (0))]] [0,4,7,8,33])
 (.cond (.t 33) (.seq (cR [oA 34 (.build [(.int .i64 (0)), (.int .i64 (0)), (.int .i64 (0))] []) [],
 oM 35 7,
 oN (.store 3) [.t 4,.t 34],
 oM 5 35] [4,5])
 (.ret))
 (.skip)))
 (.seq (cR [oM 37 0,
 oM 38 8,
 oA 39 .call [.c (.func (.func 100) #[] #[]),.t 37,.t 38],
 oM 36 39,
 oA 40 (.extract 0) [.t 36],
 oA 41 (.extract 1) [.t 36],
 oA 9 (.new 67 2 [(.int .i64 (0)), (.int .i64 (0))]) [],
 oN (.store 2) [.t 9,.t 40],
 oM 7 41] [0,4,7,9])
 (.seq (.seq (cR [oM 42 7,
 oA 43 (.bin .neq) [.t 42,.c (.int .i64 (0))]] [0,4,7,9,43])
 (.cond (.t 43) (.seq (cR [oA 44 (.build [(.int .i64 (0)), (.int .i64 (0)), (.int .i64 (0))] []) [],
 oM 45 7,
 oN (.store 3) [.t 4,.t 44],
 oM 5 45] [4,5])
 (.ret))
 (.skip)))
 (.seq (cD [⟨[oA 46 (.fieldAddr 0) [.t 9],
 oA 47 (.load false 1) [.t 46],
 oA 48 (.fieldAddr 1) [.t 9],
 oA 49 (.load false 1) [.t 48],
 oM 50 0,
 oA 51 .nilCheck [.t 50],
 oA 52 (.fieldAddr 3) [.t 51],
 oA 53 (.load false 1) [.t 52],
 oA 54 (.build [(.int .i64 (0)), (.int .i64 (0)), (.int .i64 (0))] [(0, 1), (1, 1), (2, 1)]) [.t 47,.t 49,.t 53]],some (oN (.store 3) [.t 4,.t 54]),[],[]⟩,
 ⟨[oA 5 .move [.c (.int .i64 (0))]],none,[],[]⟩] [46,47,48,49,50,51,52,53,54,5] [4,5])
 (.ret))))))))),
 [.cell 4 true 3, .tmp 5], none⟩

def f364 : Func := ⟨.seq (cR [oA 2 (.new 205 5 [(.int .i64 (0)), (.slice none 0 0), (.slice none 0 0), (.slice none 0 0), (.slice none 0 0)]) [],
 oA 3 .move [.c (.int .i64 (0))]] [0,2])
 (.seq (cR [oA 4 (.new 205 5 [(.int .i64 (0)), (.slice none 0 0), (.slice none 0 0), (.slice none 0 0), (.slice none 0 0)]) []] [0,2,4])
 (.seq (cR [oA 5 (.new 3 1 [(.int .i64 (0))]) [],
 oN (.store 1) [.t 5,.c (.int .i64 (0))]] [0,2,4,5])
 (.seq (cR [oM 7 0,
 oA 8 (.func 366 0) [.t 4,.t 5],
 oA 9 .call [.c (.func (.func 131) #[] #[]),.t 7,.t 8],
 oM 6 9] [2,4,5,6])
 (.seq (.block 0 (.seq (cR [oA 11 (.load false 1) [.t 5],
 oA 12 (.bin .gtr) [.t 11,.c (.int .i64 (8))],
 oM 10 12] [2,4,6,10])
 (.cond (.t 10) (.seq (cR [oA 13 (.build [(.int .i64 (0)), (.slice none 0 0), (.slice none 0 0), (.slice none 0 0), (.slice none 0 0)] []) [],
 oN (.store 5) [.t 2,.t 13],
 oA 3 .move [.c (.int .i64 (4))]] [2,3])
 (.ret))
 (.seq (cR [oM 15 6,
 oA 16 (.bin .neq) [.t 15,.c (.int .i64 (0))],
 oM 14 16] [2,4,6,14])
 (.cond (.t 14) (.seq (cR [oA 17 (.build [(.int .i64 (0)), (.slice none 0 0), (.slice none 0 0), (.slice none 0 0), (.slice none 0 0)] []) [],
 oM 18 6,
 oN (.store 5) [.t 2,.t 17],
 oM 3 18] [2,3])
 (.ret))
 (.seq (cR [oA 20 (.load true 5) [.t 4],
 oA 21 .call [.c (.func (.func 183) #[] #[]),.t 20],
 oA 22 (.un .not) [.t 21],
 oM 19 22] [2,4,19])
 (.cond (.t 19) (.seq (cR [oA 23 (.build [(.int .i64 (0)), (.slice none 0 0), (.slice none 0 0), (.slice none 0 0), (.slice none 0 0)] []) [],
 oN (.store 5) [.t 2,.t 23],
 oA 3 .move [.c (.int .i64 (4))]] [2,3])
 (.ret))
 (.skip))))))))
 (.seq (cR [oA 24 (.load true 5) [.t 4],
 oN (.store 5) [.t 2,.t 24],
 oA 3 .move [.c (.int .i64 (0))]] [2,3])
 (.ret)))))),
 [.cell 2 true 5, .tmp 3], none⟩

def l365_0 : Code :=
 .seq (cR [oA 83 (.bin .lss) [.t 82,.t 81]] [1,4,26,27,28,80,81,82,83])
 (.seq (.cond (.t 83) (.skip)
 (.exit 2))
 (.seq (.block 3 (.seq (cR [oA 84 (.idxAddr 1) [.t 80,.t 82],
 oA 85 (.load false 1) [.t 84],
 oM 10 85] [1,4,10,26,27,28,80,81,82])
 (cR [oM 86 4,
 oM 87 10,
 oA 88 .call [.c (.func (.func 151) #[] #[]),.t 86,.t 87]] [1,4,26,27,28,80,81,82])))
 (cR [oA 89 (.bin .add) [.t 82,.c (.int .i64 (1))],
 oM 82 89] [1,4,26,27,28,80,81,82])))
def l365_1 : Code :=
 .seq (cR [oA 29 (.bin .lss) [.t 28,.t 27]] [1,4,26,27,28,29])
 (.seq (.cond (.t 29) (.skip)
 (.exit 0))
 (.seq (.block 1 (.seq (cR [oM 30 28,
 oA 31 (.idxAddr 1) [.t 26,.t 28],
 oA 32 (.load false 1) [.t 31],
 oM 5 30,
 oM 6 32] [1,4,5,6,26,27,28])
 (.seq (cR [oM 33 4,
 oM 34 6,
 oA 35 .call [.c (.func (.func 151) #[] #[]),.t 33,.t 34]] [1,4,5,26,27,28])
 (.seq (cR [oA 36 (.buildSlice 3 1 0 [] []) [],
 oM 7 36] [1,4,5,7,26,27,28])
 (.seq (.seq (cR [oA 37 (.fieldAddr 0) [.t 1],
 oA 38 (.load false 1) [.t 37],
 oA 39 (.bin .eql) [.t 38,.c (.int .i64 (0))]] [1,4,5,7,26,27,28,39])
 (.cond (.t 39) (.seq (cR [oA 40 (.fieldAddr 2) [.t 1],
 oA 41 (.load false 1) [.t 40],
 oM 42 5,
 oA 43 (.idxAddr 3) [.t 41,.t 42],
 oA 44 (.load true 3) [.t 43],
 oA 8 (.new 110 3 [(.int .i64 (0)), (.int .i64 (0)), (.int .i64 (0))]) [],
 oN (.store 3) [.t 8,.t 44]] [1,4,5,7,8,26,27,28])
 (cD [⟨[oM 45 7,
 oA 46 (.fieldAddr 0) [.t 8],
 oA 47 (.load false 1) [.t 46],
 oA 48 (.fieldAddr 1) [.t 8],
 oA 49 (.load false 1) [.t 48],
 oA 50 (.fieldAddr 2) [.t 8],
 oA 51 (.load false 1) [.t 50],
 oA 52 (.fieldAddr 3) [.t 1],
 oA 53 (.load false 1) [.t 52],
 oM 54 5,
 oA 55 (.idxAddr 1) [.t 53,.t 54],
 oA 56 (.load false 1) [.t 55]],some (oA 57 (.buildSlice 3 1 4 [(.int .i64 (0)), (.int .i64 (0)), (.int .i64 (0)), (.int .i64 (0))] [(0, 1), (1, 1), (2, 1), (3, 1)]) [.t 47,.t 49,.t 51,.t 56]),[],[]⟩,
 ⟨[],some (oA 58 (.append 3 1 8) [.t 45,.t 57]),[],[]⟩,
 ⟨[oM 7 58],none,[],[]⟩] [45,46,47,48,49,50,51,52,53,54,55,56,57,58,7] [1,4,7,26,27,28]))
 (cD [⟨[oM 59 7,
 oA 60 (.fieldAddr 4) [.t 1],
 oA 61 (.load false 1) [.t 60],
 oM 62 5,
 oA 63 (.idxAddr 3) [.t 61,.t 62],
 oA 64 (.fieldAddr 0) [.t 63],
 oA 65 (.load false 1) [.t 64],
 oA 66 (.fieldAddr 4) [.t 1],
 oA 67 (.load false 1) [.t 66],
 oM 68 5,
 oA 69 (.idxAddr 3) [.t 67,.t 68],
 oA 70 (.fieldAddr 1) [.t 69],
 oA 71 (.load false 1) [.t 70],
 oA 72 (.fieldAddr 4) [.t 1],
 oA 73 (.load false 1) [.t 72],
 oM 74 5,
 oA 75 (.idxAddr 3) [.t 73,.t 74],
 oA 76 (.fieldAddr 2) [.t 75],
 oA 77 (.load false 1) [.t 76]],some (oA 78 (.buildSlice 3 1 3 [(.int .i64 (0)), (.int .i64 (0)), (.int .i64 (0))] [(0, 1), (1, 1), (2, 1)]) [.t 65,.t 71,.t 77]),[],[]⟩,
 ⟨[],some (oA 79 (.append 3 1 8) [.t 59,.t 78]),[],[]⟩,
 ⟨[oM 7 79],none,[],[]⟩] [59,60,61,62,63,64,65,66,67,68,69,70,71,72,73,74,75,76,77,78,79,7] [1,4,7,26,27,28])))
 (.seq (cR [oM 80 7,
 oA 81 .lenS [.t 80],
 oA 82 .move [.c (.int .i64 (0))]] [1,4,26,27,28,80,81,82])
 (.block 2 (.loop [1,4,26,27,28,80,81,82] l365_0))))))))
 (cR [oA 90 (.bin .add) [.t 28,.c (.int .i64 (1))],
 oM 28 90] [1,4,26,27,28])))
def f365 : Func := ⟨.seq (cR [oA 1 (.box 205 5) [.t 0],
 oA 2 .move [.c (.slice none 0 0)],
 oA 3 .move [.c (.int .i64 (0))]] [1])
 (.seq (.seq (cR [oA 11 (.load true 5) [.t 1],
 oA 12 .call [.c (.func (.func 183) #[] #[]),.t 11],
 oA 13 (.un .not) [.t 12]] [1,13])
 (.cond (.t 13) (.seq (cR [oA 2 .move [.c (.slice none 0 0)],
 oA 3 .move [.c (.int .i64 (1))]] [2,3])
 (.ret))
 (.skip)))
 (.seq (cR [oA 14 (.build [(.slice none 0 0)] []) [],
 oA 15 (.box 245 1) [.t 14],
 oM 4 15] [1,4])
 (.seq (cR [oM 16 4,
 oA 17 (.fieldAddr 0) [.t 1],
 oA 18 (.load false 1) [.t 17],
 oA 19 .call [.c (.func (.func 151) #[] #[]),.t 16,.t 18]] [1,4])
 (.seq (cR [oM 20 4,
 oA 21 (.fieldAddr 1) [.t 1],
 oA 22 (.load false 1) [.t 21],
 oA 23 .lenS [.t 22],
 oA 24 .call [.c (.func (.func 151) #[] #[]),.t 20,.t 23]] [1,4])
 (.seq (.seq (cR [oA 25 (.fieldAddr 1) [.t 1],
 oA 26 (.load false 1) [.t 25],
 oA 27 .lenS [.t 26],
 oA 28 .move [.c (.int .i64 (0))]] [1,4,26,27,28])
 (.block 0 (.loop [1,4,26,27,28] l365_1)))
 (.seq (cR [oM 91 4,
 oA 92 .call [.c (.func (.func 154) #[] #[]),.t 91],
 oM 2 92,
 oA 3 .move [.c (.int .i64 (0))]] [2,3])
 (.ret))))))),
 [.tmp 2, .tmp 3], none⟩

def l366_0 : Code :=
 .seq (.seq (cR [oM 12 4,
 oA 13 (.load false 1) [.t 2],
 oA 14 (.bin .lss) [.t 12,.t 13],
 oM 15 14,
 oG (some 16) (.load false 1) [.t 2] 15 true,
 oG (some 17) (.bin .leq) [.t 16,.c (.int .i64 (8))] 15 true,
 oA 18 .pick [.t 15,.t 17,.c (.bool false)]] [0,1,2,4,18])
 (.cond (.t 18) (.skip)
 (.exit 0)))
 (.seq (.block 1 (.seq (cD [⟨[oA 21 (.fieldAddr 1) [.t 1],
 oA 22 (.load false 1) [.t 21],
 oM 23 0],some (oA 24 .call [.c (.func (.func 133) #[] #[]),.t 23]),[22],[]⟩,
 ⟨[],some (oA 25 (.buildSlice 3 1 1 [(.int .i64 (0))] [(0, 1)]) [.t 24]),[22],[]⟩,
 ⟨[],some (oA 26 (.append 3 1 8) [.t 22,.t 25]),[],[]⟩,
 ⟨[oA 27 (.fieldAddr 1) [.t 1]],some (oN (.store 1) [.t 27,.t 26]),[],[]⟩] [21,22,23,24,25,26,27] [0,1,2,4])
 (.seq (cR [oM 28 0,
 oA 29 .call [.c (.func (.func 133) #[] #[]),.t 28],
 oM 30 0,
 oA 31 .call [.c (.func (.func 133) #[] #[]),.t 30],
 oM 5 29,
 oM 6 31] [0,1,2,4,5,6])
 (.seq (cR [oA 32 (.fieldAddr 0) [.t 1],
 oA 33 (.load false 1) [.t 32],
 oA 34 (.bin .eql) [.t 33,.c (.int .i64 (0))]] [0,1,2,4,5,6,34])
 (.cond (.t 34) (.seq (cD [⟨[oA 35 (.fieldAddr 2) [.t 1],
 oA 36 (.load false 1) [.t 35],
 oM 37 5,
 oM 38 6,
 oM 39 0],some (oA 40 .call [.c (.func (.func 133) #[] #[]),.t 39]),[36],[]⟩,
 ⟨[oA 41 (.build [(.int .i64 (0)), (.int .i64 (0)), (.int .i64 (0))] [(0, 1), (1, 1), (2, 1)]) [.t 37,.t 38,.t 40]],some (oA 42 (.buildSlice 110 3 1 [(.int .i64 (0)), (.int .i64 (0)), (.int .i64 (0))] [(0, 3)]) [.t 41]),[36],[]⟩,
 ⟨[],some (oA 43 (.append 110 3 24) [.t 36,.t 42]),[],[]⟩,
 ⟨[oA 44 (.fieldAddr 2) [.t 1]],some (oN (.store 1) [.t 44,.t 43]),[],[]⟩] [35,36,37,38,39,40,41,42,43,44] [0,1,2,4])
 (cD [⟨[oA 45 (.fieldAddr 3) [.t 1],
 oA 46 (.load false 1) [.t 45],
 oM 47 0],some (oA 48 .call [.c (.func (.func 133) #[] #[]),.t 47]),[46],[]⟩,
 ⟨[],some (oA 49 (.buildSlice 3 1 1 [(.int .i64 (0))] [(0, 1)]) [.t 48]),[46],[]⟩,
 ⟨[],some (oA 50 (.append 3 1 8) [.t 46,.t 49]),[],[]⟩,
 ⟨[oA 51 (.fieldAddr 3) [.t 1]],some (oN (.store 1) [.t 51,.t 50]),[],[]⟩] [45,46,47,48,49,50,51] [0,1,2,4]))
 (cD [⟨[oA 52 (.fieldAddr 4) [.t 1],
 oA 53 (.load false 1) [.t 52],
 oM 54 5,
 oM 55 6,
 oM 56 0],some (oA 57 .call [.c (.func (.func 133) #[] #[]),.t 56]),[53],[]⟩,
 ⟨[oA 58 (.build [(.int .i64 (0)), (.int .i64 (0)), (.int .i64 (0))] [(0, 1), (1, 1), (2, 1)]) [.t 54,.t 55,.t 57]],some (oA 59 (.buildSlice 73 3 1 [(.int .i64 (0)), (.int .i64 (0)), (.int .i64 (0))] [(0, 3)]) [.t 58]),[53],[]⟩,
 ⟨[],some (oA 60 (.append 73 3 24) [.t 53,.t 59]),[],[]⟩,
 ⟨[oA 61 (.fieldAddr 4) [.t 1]],some (oN (.store 1) [.t 61,.t 60]),[],[]⟩] [52,53,54,55,56,57,58,59,60,61] [0,1,2,4]))))))
 (cR [oM 19 4,
 oA 20 (.bin .add) [.t 19,.c (.int .i64 (1))],
 oM 4 20] [0,1,2,4]))
def f366 : Func := ⟨.seq (cR [oM 7 0,
 oA 8 .call [.c (.func (.func 133) #[] #[]),.t 7],
 oA 9 (.fieldAddr 0) [.t 1],
 oN (.store 1) [.t 9,.t 8]] [0,1,2])
 (.seq (cR [oM 10 0,
 oA 11 .call [.c (.func (.func 133) #[] #[]),.t 10],
 oN (.store 1) [.t 2,.t 11]] [0,1,2])
 (.seq (cR [oA 4 .move [.c (.int .i64 (0))]] [0,1,2,4])
 (.block 0 (.loop [0,1,2,4] l366_0)))),
 [], none⟩

def f369 : Func := ⟨.seq (cR [oA 6 .move [.c (.bool false)]] [0,1,2])
 (.seq (cD [⟨[oM 7 0,
 oM 8 1,
 oA 9 (.idxAddr 3) [.t 7,.t 8],
 oA 10 (.fieldAddr 0) [.t 9],
 oA 11 (.load false 1) [.t 10],
 oM 12 0,
 oM 13 2,
 oA 14 (.idxAddr 3) [.t 12,.t 13],
 oA 15 (.fieldAddr 0) [.t 14],
 oA 16 (.load false 1) [.t 15],
 oM 18 0,
 oM 19 1,
 oA 20 (.idxAddr 3) [.t 18,.t 19],
 oA 21 (.fieldAddr 1) [.t 20],
 oA 22 (.load false 1) [.t 21],
 oM 23 0,
 oM 24 2,
 oA 25 (.idxAddr 3) [.t 23,.t 24],
 oA 26 (.fieldAddr 1) [.t 25],
 oA 27 (.load false 1) [.t 26]],some (oA 17 .call [.c (.func (.func 97) #[] #[]),.t 11,.t 16]),[22,27],[]⟩,
 ⟨[],some (oA 28 .call [.c (.func (.func 97) #[] #[]),.t 22,.t 27]),[],[]⟩,
 ⟨[],some (oA 29 (.buildSlice 3 1 2 [(.int .i64 (0)), (.int .i64 (0))] [(0, 1), (1, 1)]) [.t 17,.t 28]),[],[]⟩,
 ⟨[],some (oA 30 .call [.c (.func (.func 373) #[] #[]),.t 29]),[],[]⟩,
 ⟨[oA 31 (.bin .lss) [.t 30,.c (.int .i64 (0))],
 oM 6 31],none,[],[]⟩] [7,8,9,10,11,12,13,14,15,16,17,18,19,20,21,22,23,24,25,26,27,28,29,30,31,6] [6])
 (.ret)),
 [.tmp 6], none⟩

def f370 : Func := ⟨.seq (cR [oA 2 .move [.c .nilIface]] [0])
 (.seq (cR [oM 5 0,
 oA 6 .nilCheck [.t 5],
 oA 7 (.load false 1) [.t 6],
 oA 8 .lenS [.t 7],
 oA 9 (.bin .sub) [.t 8,.c (.int .i64 (1))],
 oM 3 9] [0,3])
 (.seq (cR [oM 10 0,
 oA 11 .nilCheck [.t 10],
 oA 12 (.load false 1) [.t 11],
 oM 13 3,
 oA 14 (.idxAddr 3) [.t 12,.t 13],
 oA 15 (.load true 3) [.t 14],
 oA 4 (.new 416 3 [(.int .i64 (0)), (.int .i64 (0)), (.slice none 0 0)]) [],
 oN (.store 3) [.t 4,.t 15]] [0,3,4])
 (.seq (cR [oM 16 0,
 oM 17 0,
 oA 18 .nilCheck [.t 17],
 oA 19 (.load false 1) [.t 18],
 oM 20 3,
 oA 21 (.slice 3 false true false) [.t 19,.t 20],
 oA 22 .nilCheck [.t 16],
 oN (.store 1) [.t 22,.t 21]] [4])
 (.seq (cR [oA 23 (.load true 3) [.t 4],
 oA 24 (.iface 416) [.t 23],
 oM 2 24] [2])
 (.ret))))),
 [.tmp 2], none⟩

def f371 : Func := ⟨cD [⟨[oM 4 0,
 oM 5 0,
 oA 6 .nilCheck [.t 5],
 oA 7 (.load false 1) [.t 6],
 oM 8 1,
 oA 9 (.assert 416 (.agg #[(.int .i64 (0)), (.int .i64 (0)), (.slice none 0 0)]) false) [.t 8]],some (oA 10 (.buildSlice 416 3 1 [(.int .i64 (0)), (.int .i64 (0)), (.slice none 0 0)] [(0, 3)]) [.t 9]),[7],[]⟩,
 ⟨[],some (oA 11 (.append 416 3 40) [.t 7,.t 10]),[],[]⟩,
 ⟨[oA 12 .nilCheck [.t 4]],some (oN (.store 1) [.t 12,.t 11]),[],[]⟩] [4,5,6,7,8,9,10,11,12] [],
 [], none⟩

def f372 : Func := ⟨cD [⟨[oM 6 0,
 oM 7 1,
 oM 8 0,
 oM 9 2,
 oM 10 0,
 oM 11 2,
 oA 12 (.idxAddr 3) [.t 10,.t 11],
 oA 13 (.load true 3) [.t 12],
 oM 14 0,
 oM 15 1,
 oA 16 (.idxAddr 3) [.t 14,.t 15],
 oA 17 (.load true 3) [.t 16],
 oA 18 (.idxAddr 3) [.t 6,.t 7]],some (oN (.store 3) [.t 18,.t 13]),[],[]⟩,
 ⟨[oA 19 (.idxAddr 3) [.t 8,.t 9]],some (oN (.store 3) [.t 19,.t 17]),[],[]⟩] [6,7,8,9,10,11,12,13,14,15,16,17,18,19] [],
 [], none⟩

def l373_0 : Code :=
 .seq (cR [oA 9 (.bin .lss) [.t 8,.t 7]] [3,6,7,8,9])
 (.seq (.cond (.t 9) (.skip)
 (.exit 0))
 (.seq (.block 1 (.seq (cR [oA 10 (.idxAddr 1) [.t 6,.t 8],
 oA 11 (.load false 1) [.t 10],
 oM 5 11] [3,5,6,7,8])
 (.seq (cR [oM 12 5,
 oM 13 3,
 oA 14 (.bin .neq) [.t 12,.t 13]] [3,5,6,7,8,14])
 (.cond (.t 14) (.seq (cR [oM 15 5,
 oM 2 15] [2])
 (.ret))
 (.skip)))))
 (cR [oA 16 (.bin .add) [.t 8,.c (.int .i64 (1))],
 oM 8 16] [3,6,7,8])))
def f373 : Func := ⟨.seq (cR [oA 2 .move [.c (.int .i64 (0))]] [0])
 (.seq (cR [oA 3 .move [.c (.int .i64 (0))]] [0,3])
 (.seq (.seq (cR [oM 6 0,
 oA 7 .lenS [.t 6],
 oA 8 .move [.c (.int .i64 (0))]] [3,6,7,8])
 (.block 0 (.loop [3,6,7,8] l373_0)))
 (.seq (cR [oM 17 3,
 oM 2 17] [2])
 (.ret)))),
 [.tmp 2], none⟩
end Go.Proofs.YtdbbkaeoinalpaaGreat.AM
namespace Go.Proofs.YtdbbkaeoinalpaaGreat.AM
def ftab : Tr Func :=
 (.node (.node (.node (.node (.node (.node (.node (.node (.node .leaf (some f255) .leaf) (some f127) .leaf) (some f63) (.node (.node .leaf (some f319) .leaf) (some f191) .leaf)) none (.node (.node (.node .leaf (some f287) .leaf) (some f159) .leaf) (some f95) (.node .leaf (some f223) .leaf))) (some f15) (.node (.node (.node (.node .leaf (some f271) .leaf) (some f143) .leaf) (some f79) (.node (.node .leaf (some f335) .leaf) (some f207) .leaf)) (some f47) (.node (.node (.node .leaf (some f303) .leaf) (some f175) .leaf) none (.node .leaf (some f239) .leaf)))) none (.node (.node (.node (.node (.node .leaf (some f263) .leaf) (some f135) .leaf) (some f71) (.node (.node .leaf (some f327) .leaf) (some f199) .leaf)) (some f39) (.node (.node (.node .leaf (some f295) .leaf) (some f167) .leaf) (some f103) (.node .leaf (some f231) .leaf))) none (.node (.node (.node (.node .leaf (some f279) .leaf) (some f151) .leaf) (some f87) (.node (.node .leaf (some f343) .leaf) none .leaf)) (some f55) (.node (.node (.node .leaf (some f311) .leaf) (some f183) .leaf) (some f119) (.node .leaf (some f247) .leaf))))) none (.node (.node (.node (.node (.node (.node .leaf (some f259) .leaf) (some f131) .leaf) none (.node (.node .leaf (some f323) .leaf) (some f195) .leaf)) none (.node (.node (.node .leaf (some f291) .leaf) (some f163) .leaf) (some f99) (.node .leaf (some f227) .leaf))) none (.node (.node (.node (.node .leaf (some f275) .leaf) (some f147) .leaf) (some f83) (.node (.node .leaf (some f339) .leaf) none .leaf)) none (.node (.node (.node .leaf (some f307) .leaf) (some f179) .leaf) none (.node (.node .leaf (some f371) .leaf) (some f243) .leaf)))) none (.node (.node (.node (.node .leaf (some f139) .leaf) (some f75) (.node (.node .leaf (some f331) .leaf) (some f203) .leaf)) (some f43) (.node (.node (.node .leaf (some f299) .leaf) (some f171) .leaf) (some f107) (.node (.node .leaf (some f363) .leaf) (some f235) .leaf))) (some f27) (.node (.node (.node (.node .leaf (some f283) .leaf) (some f155) .leaf) (some f91) (.node .leaf (some f219) .leaf)) none (.node (.node (.node .leaf (some f315) .leaf) (some f187) .leaf) (some f123) (.node .leaf (some f251) .leaf)))))) none (.node (.node (.node (.node (.node (.node .leaf (some f129) .leaf) (some f65) (.node (.node .leaf (some f321) .leaf) (some f193) .leaf)) none (.node (.node (.node .leaf (some f289) .leaf) (some f161) .leaf) (some f97) (.node .leaf (some f225) .leaf))) (some f17) (.node (.node (.node (.node .leaf (some f273) .leaf) (some f145) .leaf) (some f81) (.node (.node .leaf (some f337) .leaf) (some f209) .leaf)) (some f49) (.node (.node (.node .leaf (some f305) .leaf) (some f177) .leaf) (some f113) (.node (.node .leaf (some f369) .leaf) (some f241) .leaf)))) none (.node (.node (.node (.node (.node .leaf (some f265) .leaf) (some f137) .leaf) (some f73) (.node (.node .leaf (some f329) .leaf) (some f201) .leaf)) (some f41) (.node (.node (.node .leaf (some f297) .leaf) (some f169) .leaf) (some f105) (.node .leaf (some f233) .leaf))) none (.node (.node (.node (.node .leaf (some f281) .leaf) (some f153) .leaf) (some f89) .leaf) none (.node (.node (.node .leaf (some f313) .leaf) (some f185) .leaf) (some f121) (.node .leaf (some f249) .leaf))))) none (.node (.node (.node (.node (.node .leaf (some f133) .leaf) none (.node (.node .leaf (some f325) .leaf) (some f197) .leaf)) (some f37) (.node (.node (.node .leaf (some f293) .leaf) (some f165) .leaf) (some f101) (.node .leaf (some f229) .leaf))) (some f21) (.node (.node (.node (.node .leaf (some f277) .leaf) (some f149) .leaf) (some f85) (.node (.node .leaf (some f341) .leaf) (some f213) .leaf)) (some f53) (.node (.node (.node .leaf (some f309) .leaf) none .leaf) (some f117) (.node (.node .leaf (some f373) .leaf) (some f245) .leaf)))) (some f13) (.node (.node (.node (.node .leaf (some f141) .leaf) (some f77) (.node (.node .leaf (some f333) .leaf) (some f205) .leaf)) (some f45) (.node (.node (.node .leaf (some f301) .leaf) (some f173) .leaf) (some f109) (.node (.node .leaf (some f365) .leaf) (some f237) .leaf))) none (.node (.node (.node (.node .leaf (some f285) .leaf) (some f157) .leaf) (some f93) (.node .leaf (some f221) .leaf)) (some f61) (.node (.node (.node .leaf (some f317) .leaf) (some f189) .leaf) (some f125) (.node .leaf (some f253) .leaf))))))) none (.node (.node (.node (.node (.node (.node (.node (.node .leaf (some f256) .leaf) (some f128) .leaf) none (.node (.node .leaf (some f320) .leaf) (some f192) .leaf)) none (.node (.node (.node .leaf (some f288) .leaf) (some f160) .leaf) (some f96) (.node .leaf (some f224) .leaf))) (some f16) (.node (.node (.node (.node .leaf (some f272) .leaf) (some f144) .leaf) (some f80) (.node (.node .leaf (some f336) .leaf) (some f208) .leaf)) (some f48) (.node (.node (.node .leaf (some f304) .leaf) (some f176) .leaf) none (.node .leaf (some f240) .leaf)))) none (.node (.node (.node (.node (.node .leaf (some f264) .leaf) (some f136) .leaf) (some f72) (.node (.node .leaf (some f328) .leaf) (some f200) .leaf)) (some f40) (.node (.node (.node .leaf (some f296) .leaf) (some f168) .leaf) (some f104) (.node .leaf (some f232) .leaf))) (some f24) (.node (.node (.node (.node .leaf (some f280) .leaf) (some f152) .leaf) (some f88) (.node (.node .leaf (some f344) .leaf) (some f216) .leaf)) (some f56) (.node (.node .leaf (some f184) .leaf) (some f120) (.node .leaf (some f248) .leaf))))) (some f4) (.node (.node (.node (.node (.node (.node .leaf (some f260) .leaf) (some f132) .leaf) none (.node (.node .leaf (some f324) .leaf) (some f196) .leaf)) none (.node (.node (.node .leaf (some f292) .leaf) (some f164) .leaf) (some f100) (.node .leaf (some f228) .leaf))) none (.node (.node (.node (.node .leaf (some f276) .leaf) (some f148) .leaf) (some f84) (.node (.node .leaf (some f340) .leaf) (some f212) .leaf)) none (.node (.node (.node .leaf (some f308) .leaf) none .leaf) (some f116) (.node (.node .leaf (some f372) .leaf) (some f244) .leaf)))) none (.node (.node (.node (.node (.node .leaf (some f268) .leaf) (some f140) .leaf) (some f76) (.node (.node .leaf (some f332) .leaf) (some f204) .leaf)) (some f44) (.node (.node (.node .leaf (some f300) .leaf) (some f172) .leaf) (some f108) (.node (.node .leaf (some f364) .leaf) none .leaf))) (some f28) (.node (.node (.node (.node .leaf (some f284) .leaf) (some f156) .leaf) (some f92) (.node .leaf (some f220) .leaf)) (some f60) (.node (.node (.node .leaf (some f316) .leaf) (some f188) .leaf) (some f124) (.node .leaf (some f252) .leaf)))))) none (.node (.node (.node (.node (.node (.node (.node .leaf (some f258) .leaf) (some f130) .leaf) none (.node (.node .leaf (some f322) .leaf) (some f194) .leaf)) none (.node (.node (.node .leaf (some f290) .leaf) (some f162) .leaf) (some f98) (.node .leaf (some f226) .leaf))) (some f18) (.node (.node (.node (.node .leaf (some f274) .leaf) (some f146) .leaf) (some f82) (.node (.node .leaf (some f338) .leaf) (some f210) .leaf)) (some f50) (.node (.node (.node .leaf (some f306) .leaf) (some f178) .leaf) (some f114) (.node (.node .leaf (some f370) .leaf) (some f242) .leaf)))) none (.node (.node (.node (.node (.node .leaf (some f266) .leaf) (some f138) .leaf) (some f74) (.node (.node .leaf (some f330) .leaf) (some f202) .leaf)) (some f42) (.node (.node (.node .leaf (some f298) .leaf) (some f170) .leaf) (some f106) (.node (.node .leaf (some f362) .leaf) (some f234) .leaf))) none (.node (.node (.node (.node .leaf (some f282) .leaf) (some f154) .leaf) (some f90) (.node .leaf (some f218) .leaf)) (some f58) (.node .leaf (some f122) (.node .leaf (some f250) .leaf))))) none (.node (.node (.node (.node (.node (.node .leaf (some f262) .leaf) (some f134) .leaf) none (.node (.node .leaf (some f326) .leaf) (some f198) .leaf)) (some f38) (.node (.node (.node .leaf (some f294) .leaf) (some f166) .leaf) (some f102) (.node .leaf (some f230) .leaf))) (some f22) (.node (.node (.node (.node .leaf (some f278) .leaf) (some f150) .leaf) (some f86) (.node (.node .leaf (some f342) .leaf) (some f214) .leaf)) (some f54) (.node (.node .leaf none .leaf) (some f118) (.node .leaf (some f246) .leaf)))) (some f14) (.node (.node (.node (.node (.node .leaf (some f270) .leaf) (some f142) .leaf) none (.node (.node .leaf (some f334) .leaf) (some f206) .leaf)) (some f46) (.node (.node (.node .leaf (some f302) .leaf) (some f174) .leaf) (some f110) (.node (.node .leaf (some f366) .leaf) (some f238) .leaf))) (some f30) (.node (.node (.node (.node .leaf (some f286) .leaf) (some f158) .leaf) (some f94) (.node .leaf (some f222) .leaf)) (some f62) (.node (.node (.node .leaf (some f318) .leaf) (some f190) .leaf) (some f126) (.node .leaf (some f254) .leaf))))))))
def mtab (t : Nat) (m : String) : Option (Nat × Option (Bool × Nat)) :=
 if t == 118 && m == "Load" then some (362, none) else
 if t == 118 && m == "Save" then some (363, none) else
 if t == 411 && m == "Len" then some (322, some (false, 1)) else
 if t == 411 && m == "Less" then some (369, some (false, 1)) else
 if t == 411 && m == "Pop" then some (370, none) else
 if t == 411 && m == "Push" then some (371, none) else
 if t == 411 && m == "Swap" then some (372, some (false, 1)) else
 none
/-- How functions are answered that are not walked: the laws' tests 'awake', and those of the library. -/
class Aw where
  own : Nat → Option (List Value → H → Option (Res × H))
def isOwn (k : Nat) : Bool := Nat.beq k 11 || (Nat.beq k 13 || (Nat.beq k 150 || (Nat.beq k 156 || (Nat.beq k 216 || (Nat.beq k 231 || (Nat.beq k 232 || (Nat.beq k 260 || (Nat.beq k 271 || (Nat.beq k 272)))))))))
def prog [Aw] : Prog := ⟨ftab.get, mtab, fun k => match isOwn k with
  | true => Aw.own k
  | false => none⟩
end Go.Proofs.YtdbbkaeoinalpaaGreat.AM
