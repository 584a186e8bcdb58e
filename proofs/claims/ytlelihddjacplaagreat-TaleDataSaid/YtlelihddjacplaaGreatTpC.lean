/- Parts: Ir2, Ir3. -/
import Derived.Test.YtlelihddjacplaaGreatTpA
set_option linter.unusedVariables false
namespace Go.Proofs.YtlelihddjacplaaGreat.AM
def f151 : Func := ⟨.seq (cR [oA 3 (.box 113 4) [.t 1],
 oA 4 .move [.c (.slice none 0 0)],
 oA 5 .move [.c (.int .i64 (0))]] [0,3])
 (.seq (cR [oA 6 (.new 94 1 [(.slice none 0 0)]) []] [0,3,6])
 (.seq (cR [oM 8 0,
 oA 9 (.load true 4) [.t 3],
 oA 10 (.func 214 0) [.t 6],
 oA 11 .call [.c (.func (.func 212) #[] #[]),.t 8,.t 9,.t 10],
 oM 7 11] [6,7])
 (.seq (.seq (cR [oM 12 7,
 oA 13 (.bin .neq) [.t 12,.c (.int .i64 (0))]] [6,7,13])
 (.cond (.t 13) (.seq (cR [oM 14 7,
 oA 4 .move [.c (.slice none 0 0)],
 oM 5 14] [4,5])
 (.ret))
 (.skip)))
 (.seq (cR [oA 15 (.load false 1) [.t 6],
 oM 4 15,
 oA 5 .move [.c (.int .i64 (0))]] [4,5])
 (.ret))))),
 [.tmp 4, .tmp 5], none⟩

def f152 : Func := ⟨cR [oM 4 0,
 oM 5 0,
 oA 6 .lenS [.t 5],
 oM 7 1,
 oA 8 .call [.c (.func (.func 215) #[] #[]),.t 4,.t 6,.t 7]] [],
 [], none⟩

def f153 : Func := ⟨.seq (cR [oA 2 (.box 104 5) [.t 0],
 oA 3 (.box 104 5) [.t 1],
 oA 4 .move [.c (.int .i64 (0))]] [2,3])
 (.seq (cR [oA 5 (.fieldAddr 0) [.t 2],
 oA 6 (.fieldAddr 0) [.t 5],
 oA 7 (.load false 1) [.t 6],
 oA 8 (.fieldAddr 0) [.t 3],
 oA 9 (.fieldAddr 0) [.t 8],
 oA 10 (.load false 1) [.t 9],
 oA 11 .call [.c (.func (.func 154) #[] #[]),.t 7,.t 10],
 oM 4 11] [4])
 (.ret)),
 [.tmp 4], none⟩

def f154 : Func := ⟨.seq (cR [oA 4 .move [.c (.int .i64 (0))]] [0,1])
 (.seq (cR [oM 7 0,
 oA 8 .call [.c (.func (.func 216) #[] #[]),.t 7],
 oM 5 8] [0,1,5])
 (.seq (cR [oM 9 1,
 oA 10 .call [.c (.func (.func 216) #[] #[]),.t 9],
 oM 6 10] [0,1,5,6])
 (.seq (.seq (cR [oM 11 5] [0,1,6,11])
 (.cond (.t 11) (.seq (.seq (cR [oM 12 6] [12])
 (.cond (.t 12) (.seq (cR [oA 4 .move [.c (.int .i64 (0))]] [4])
 (.ret))
 (.skip)))
 (.seq (cR [oA 4 .move [.c (.int .i64 (-1))]] [4])
 (.ret)))
 (.skip)))
 (.seq (.seq (cR [oM 13 6] [0,1,13])
 (.cond (.t 13) (.seq (cR [oA 4 .move [.c (.int .i64 (1))]] [4])
 (.ret))
 (.skip)))
 (.seq (.seq (cR [oM 14 0,
 oM 15 1,
 oA 16 (.bin .lss) [.t 14,.t 15]] [0,1,16])
 (.cond (.t 16) (.seq (cR [oA 4 .move [.c (.int .i64 (-1))]] [4])
 (.ret))
 (.skip)))
 (.seq (.seq (cR [oM 17 0,
 oM 18 1,
 oA 19 (.bin .gtr) [.t 17,.t 18]] [19])
 (.cond (.t 19) (.seq (cR [oA 4 .move [.c (.int .i64 (1))]] [4])
 (.ret))
 (.skip)))
 (.seq (cR [oA 4 .move [.c (.int .i64 (0))]] [4])
 (.ret)))))))),
 [.tmp 4], none⟩

def f155 : Func := ⟨.seq (cR [oA 2 .move [.c (.slice none 0 0)]] [0])
 (.seq (.seq (cR [oM 3 0,
 oA 4 .call [.c (.func (.func 134) #[] #[]),.t 3],
 oA 5 (.un .not) [.t 4]] [0,5])
 (.cond (.t 5) (.seq (cR [oA 2 .move [.c (.slice none 0 0)]] [2])
 (.ret))
 (.skip)))
 (.seq (cR [oM 6 0,
 oA 7 .nilCheck [.t 6],
 oA 8 (.fieldAddr 1) [.t 7],
 oA 9 (.load false 1) [.t 8],
 oA 10 .call [.c (.func (.func 217) #[] #[]),.t 9],
 oM 2 10] [2])
 (.ret))),
 [.tmp 2], none⟩

def f156 : Func := ⟨.seq (cR [oA 4 .move [.c (.int .i64 (0))]] [0,1])
 (.seq (.seq (cR [oM 5 0,
 oA 6 .call [.c (.func (.func 134) #[] #[]),.t 5],
 oA 7 (.un .not) [.t 6]] [0,1,7])
 (.cond (.t 7) (.seq (cR [oA 4 .move [.c (.int .i64 (0))]] [4])
 (.ret))
 (.skip)))
 (.seq (cR [oM 8 0,
 oA 9 .nilCheck [.t 8],
 oA 10 (.fieldAddr 1) [.t 9],
 oA 11 (.load false 1) [.t 10],
 oM 12 1,
 oA 13 (.lookup none (.agg #[(.int .i64 (0)), (.int .i64 (0)), (.int .i64 (0))]) false) [.t 11,.t 12],
 oA 14 (.field 2 false 1) [.t 13],
 oM 4 14] [4])
 (.ret))),
 [.tmp 4], none⟩

def f157 : Func := ⟨.seq (cR [oA 4 .move [.c (.bool false)]] [0,1])
 (.seq (.seq (cR [oM 6 0,
 oM 7 1,
 oA 8 .call [.c (.func (.func 156) #[] #[]),.t 6,.t 7],
 oA 9 (.bin .eql) [.t 8,.c (.int .i64 (0))]] [0,1,9])
 (.cond (.t 9) (.seq (cR [oA 4 .move [.c (.bool false)]] [4])
 (.ret))
 (.skip)))
 (.seq (cR [oM 10 0,
 oA 11 .nilCheck [.t 10],
 oA 12 (.fieldAddr 1) [.t 11],
 oA 13 (.load false 1) [.t 12],
 oM 14 1,
 oA 15 (.lookup none (.agg #[(.int .i64 (0)), (.int .i64 (0)), (.int .i64 (0))]) false) [.t 13,.t 14],
 oA 5 (.new 229 3 [(.int .i64 (0)), (.int .i64 (0)), (.int .i64 (0))]) [],
 oN (.store 3) [.t 5,.t 15]] [0,1,5])
 (.seq (cR [oA 16 (.fieldAddr 2) [.t 5],
 oA 17 (.load false 1) [.t 16],
 oA 18 (.bin .add) [.t 17,.c (.int .i64 (1))],
 oA 19 (.fieldAddr 2) [.t 5],
 oN (.store 1) [.t 19,.t 18]] [0,1,5])
 (.seq (cD [⟨[oM 20 0,
 oA 21 .nilCheck [.t 20],
 oA 22 (.fieldAddr 1) [.t 21],
 oA 23 (.load false 1) [.t 22],
 oM 24 1,
 oA 25 (.load true 3) [.t 5]],some (oN (.mapSet none) [.t 23,.t 24,.t 25]),[],[]⟩] [20,21,22,23,24,25] [])
 (.seq (cR [oA 4 .move [.c (.bool true)]] [4])
 (.ret)))))),
 [.tmp 4], none⟩

def f158 : Func := ⟨.seq (cR [oA 4 .move [.c (.bool false)]] [0,1])
 (.seq (.seq (cR [oM 6 0,
 oM 7 1,
 oA 8 .call [.c (.func (.func 156) #[] #[]),.t 6,.t 7],
 oA 9 (.bin .eql) [.t 8,.c (.int .i64 (0))]] [0,1,9])
 (.cond (.t 9) (.seq (cR [oA 4 .move [.c (.bool false)]] [4])
 (.ret))
 (.skip)))
 (.seq (cR [oM 10 0,
 oA 11 .nilCheck [.t 10],
 oA 12 (.fieldAddr 1) [.t 11],
 oA 13 (.load false 1) [.t 12],
 oM 14 1,
 oA 15 (.lookup none (.agg #[(.int .i64 (0)), (.int .i64 (0)), (.int .i64 (0))]) false) [.t 13,.t 14],
 oA 5 (.new 229 3 [(.int .i64 (0)), (.int .i64 (0)), (.int .i64 (0))]) [],
 oN (.store 3) [.t 5,.t 15]] [0,1,5])
 (.seq (.seq (cR [oA 16 (.fieldAddr 2) [.t 5],
 oA 17 (.load false 1) [.t 16],
 oA 18 (.bin .eql) [.t 17,.c (.int .i64 (1))]] [0,1,5,18])
 (.cond (.t 18) (.seq (cR [oM 19 0,
 oA 20 .nilCheck [.t 19],
 oA 21 (.fieldAddr 1) [.t 20],
 oA 22 (.load false 1) [.t 21],
 oM 23 1,
 oN (.delete none) [.t 22,.t 23]] [0,1,5])
 (.seq (cD [⟨[oM 24 0,
 oA 25 .nilCheck [.t 24],
 oA 26 (.fieldAddr 2) [.t 25],
 oA 27 (.load false 1) [.t 26],
 oM 28 1,
 oA 29 (.load true 3) [.t 5]],some (oN (.mapSet none) [.t 27,.t 28,.t 29]),[],[]⟩] [24,25,26,27,28,29] [])
 (.seq (cR [oA 4 .move [.c (.bool true)]] [4])
 (.ret))))
 (.skip)))
 (.seq (cR [oA 30 (.fieldAddr 2) [.t 5],
 oA 31 (.load false 1) [.t 30],
 oA 32 (.bin .sub) [.t 31,.c (.int .i64 (1))],
 oA 33 (.fieldAddr 2) [.t 5],
 oN (.store 1) [.t 33,.t 32]] [0,1,5])
 (.seq (cD [⟨[oM 34 0,
 oA 35 .nilCheck [.t 34],
 oA 36 (.fieldAddr 1) [.t 35],
 oA 37 (.load false 1) [.t 36],
 oM 38 1,
 oA 39 (.load true 3) [.t 5]],some (oN (.mapSet none) [.t 37,.t 38,.t 39]),[],[]⟩] [34,35,36,37,38,39] [])
 (.seq (cR [oA 4 .move [.c (.bool true)]] [4])
 (.ret))))))),
 [.tmp 4], none⟩

def f159 : Func := ⟨.seq (cR [oA 2 .move [.c (.slice none 0 0)]] [0])
 (.seq (.seq (cR [oM 3 0,
 oA 4 .call [.c (.func (.func 134) #[] #[]),.t 3],
 oA 5 (.un .not) [.t 4]] [0,5])
 (.cond (.t 5) (.seq (cR [oA 2 .move [.c (.slice none 0 0)]] [2])
 (.ret))
 (.skip)))
 (.seq (cR [oM 6 0,
 oA 7 .nilCheck [.t 6],
 oA 8 (.fieldAddr 2) [.t 7],
 oA 9 (.load false 1) [.t 8],
 oA 10 .call [.c (.func (.func 217) #[] #[]),.t 9],
 oM 2 10] [2])
 (.ret))),
 [.tmp 2], none⟩

def f160 : Func := ⟨.seq (cR [oM 7 2,
 oM 8 0,
 oA 9 .nilCheck [.t 8],
 oA 10 (.fieldAddr 1) [.t 9],
 oA 11 (.load false 1) [.t 10],
 oA 12 .min [.t 7,.t 11],
 oM 2 12] [0,1,2])
 (.seq (.seq (cR [oM 13 1,
 oM 14 2,
 oA 15 (.bin .geq) [.t 13,.t 14]] [0,1,2,15])
 (.cond (.t 15) (.ret)
 (.skip)))
 (.seq (.seq (cR [oM 16 0,
 oA 17 .nilCheck [.t 16],
 oA 18 (.fieldAddr 2) [.t 17],
 oA 19 (.load false 1) [.t 18],
 oA 20 .lenS [.t 19],
 oA 21 (.bin .sub) [.t 20,.c (.int .i64 (1))],
 oM 6 21] [0,1,2,6])
 (.seq (cR [oM 22 6,
 oA 23 (.bin .geq) [.t 22,.c (.int .i64 (0))],
 oM 24 23,
 oG (some 25) .move [.t 0] 24 true,
 oG (some 26) .nilCheck [.t 25] 24 true,
 oG (some 27) (.fieldAddr 2) [.t 26] 24 true,
 oG (some 28) (.load false 1) [.t 27] 24 true,
 oG (some 29) .move [.t 6] 24 true,
 oG (some 30) (.idxAddr 2) [.t 28,.t 29] 24 true,
 oG (some 31) (.fieldAddr 1) [.t 30] 24 true,
 oG (some 32) (.load false 1) [.t 31] 24 true,
 oG (some 33) .move [.t 1] 24 true,
 oG (some 34) (.bin .eql) [.t 32,.t 33] 24 true,
 oA 35 .pick [.t 24,.t 34,.c (.bool false)]] [0,1,2,6,35])
 (.cond (.t 35) (.seq (cR [oM 36 0,
 oA 37 .nilCheck [.t 36],
 oA 38 (.fieldAddr 2) [.t 37],
 oA 39 (.load false 1) [.t 38],
 oM 40 6,
 oM 41 2,
 oA 42 (.idxAddr 2) [.t 39,.t 40],
 oA 43 (.fieldAddr 1) [.t 42],
 oN (.store 1) [.t 43,.t 41]] [])
 (.ret))
 (.skip))))
 (cR [oM 44 0,
 oM 45 0,
 oA 46 .nilCheck [.t 45],
 oA 47 (.fieldAddr 2) [.t 46],
 oA 48 (.load false 1) [.t 47],
 oM 49 1,
 oM 50 2,
 oA 51 (.build [(.int .i64 (0)), (.int .i64 (0))] [(0, 1), (1, 1)]) [.t 49,.t 50],
 oA 52 (.buildSlice 311 2 1 [(.int .i64 (0)), (.int .i64 (0))] [(0, 2)]) [.t 51],
 oA 53 (.append 311 2 16) [.t 48,.t 52],
 oA 54 .nilCheck [.t 44],
 oA 55 (.fieldAddr 2) [.t 54],
 oN (.store 1) [.t 55,.t 53]] []))),
 [], none⟩

def f161 : Func := ⟨.seq (cR [oA 4 (.box 68 3) [.t 1],
 oA 6 .move [.c (.int .i64 (0))]] [0,2,4])
 (.seq (cR [oA 12 (.fieldAddr 0) [.t 4],
 oA 13 (.load false 1) [.t 12],
 oA 14 (.fieldAddr 1) [.t 4],
 oA 15 (.load false 1) [.t 14],
 oM 16 2,
 oA 17 (.build [(.int .i64 (0)), (.int .i64 (0)), (.int .i64 (0))] [(0, 1), (1, 1), (2, 1)]) [.t 13,.t 15,.t 16],
 oA 7 (.new 111 3 [(.int .i64 (0)), (.int .i64 (0)), (.int .i64 (0))]) [],
 oN (.store 3) [.t 7,.t 17]] [0,2,4,7])
 (.seq (cD [⟨[oM 19 0,
 oA 20 .nilCheck [.t 19],
 oA 21 (.fieldAddr 3) [.t 20],
 oA 22 (.load false 1) [.t 21],
 oA 23 (.load true 3) [.t 7],
 oA 24 (.lookup (some 3) (.int .i64 (0)) true) [.t 22,.t 23],
 oM 18 24,
 oA 25 (.extract 0) [.t 18],
 oA 26 (.extract 1) [.t 18],
 oM 8 25,
 oM 9 26],none,[],[]⟩] [19,20,21,22,23,24,18,25,26,8,9] [0,2,4,7,8,9])
 (.seq (.seq (cR [oM 27 9,
 oA 28 (.un .not) [.t 27]] [0,2,4,7,8,28])
 (.cond (.t 28) (.seq (cD [⟨[oM 30 0,
 oA 31 .nilCheck [.t 30],
 oA 32 (.fieldAddr 0) [.t 31],
 oA 33 (.load false 1) [.t 32],
 oA 34 (.load true 3) [.t 4],
 oM 35 2],some (oA 36 .call [.c (.func (.func 26) #[] #[]),.t 33,.t 34,.t 35]),[],[]⟩,
 ⟨[oM 29 36,
 oA 37 (.extract 0) [.t 29],
 oA 38 (.extract 1) [.t 29],
 oM 10 37,
 oM 11 38],none,[],[]⟩] [30,31,32,33,34,35,36,29,37,38,10,11] [0,7,10])
 (.seq (cR [oM 39 10,
 oA 40 .lenS [.t 39],
 oM 8 40] [0,7,8])
 (cD [⟨[oM 41 0,
 oA 42 .nilCheck [.t 41],
 oA 43 (.fieldAddr 3) [.t 42],
 oA 44 (.load false 1) [.t 43],
 oA 45 (.load true 3) [.t 7],
 oM 46 8],some (oN (.mapSet (some 3)) [.t 44,.t 45,.t 46]),[],[]⟩] [41,42,43,44,45,46] [8])))
 (.skip)))
 (.seq (cR [oM 47 8,
 oM 6 47] [6])
 (.ret))))),
 [.tmp 6], none⟩

def f162 : Func := ⟨.seq (cR [oA 1 (.box 171 5) [.t 0],
 oA 2 .move [.c (.bool false)]] [1])
 (.seq (.seq (cR [oA 3 (.fieldAddr 0) [.t 1],
 oA 4 (.load false 1) [.t 3],
 oA 5 .call [.c (.func (.func 196) #[] #[]),.t 4,.c (.int .i64 (0)),.c (.int .i64 (5))],
 oA 6 (.un .not) [.t 5],
 oM 7 6,
 oG (some 8) (.fieldAddr 1) [.t 1] 7 false,
 oG (some 9) (.load false 1) [.t 8] 7 false,
 oG (some 10) .call [.c (.func (.func 218) #[] #[]),.t 9] 7 false,
 oG (some 11) (.un .not) [.t 10] 7 false,
 oA 12 .pick [.t 7,.c (.bool true),.t 11]] [1,12])
 (.cond (.t 12) (.seq (cR [oA 2 .move [.c (.bool false)]] [2])
 (.ret))
 (.skip)))
 (.seq (.seq (cR [oA 13 (.fieldAddr 0) [.t 1],
 oA 14 (.load false 1) [.t 13],
 oA 15 (.bin .eql) [.t 14,.c (.int .i64 (0))]] [1,15])
 (.cond (.t 15) (.seq (cR [oA 16 (.load true 5) [.t 1],
 oA 17 .call [.c (.func (.func 219) #[] #[]),.t 16],
 oM 2 17] [2])
 (.ret))
 (.skip)))
 (.seq (cR [oA 18 (.load true 5) [.t 1],
 oA 19 .call [.c (.func (.func 220) #[] #[]),.t 18],
 oM 2 19] [2])
 (.ret)))),
 [.tmp 2], none⟩

def l163_0 : Code :=
 .seq (cR [oA 23 (.bin .lss) [.t 22,.t 21]] [1,2,20,21,22,23])
 (.seq (.cond (.t 23) (.skip)
 (.exit 0))
 (.seq (.block 1 (.seq (cR [oA 24 (.idxAddr 2) [.t 20,.t 22],
 oA 25 (.load true 2) [.t 24],
 oA 5 (.new 204 2 [(.int .i64 (0)), (.slice none 0 0)]) [],
 oN (.store 2) [.t 5,.t 25]] [1,2,5,20,21,22])
 (.seq (cR [oA 26 (.fieldAddr 0) [.t 5],
 oA 27 (.load false 1) [.t 26],
 oA 28 (.load false 1) [.t 1],
 oA 29 (.bin .eql) [.t 27,.t 28]] [1,2,5,20,21,22,29])
 (.cond (.t 29) (cR [oA 30 (.fieldAddr 1) [.t 5],
 oA 31 (.load false 1) [.t 30],
 oN (.store 1) [.t 2,.t 31]] [1,2,20,21,22])
 (.skip)))))
 (cR [oA 32 (.bin .add) [.t 22,.c (.int .i64 (1))],
 oM 22 32] [1,2,20,21,22])))
def f163 : Func := ⟨.seq (cR [oA 3 .move [.c (.int .i64 (0))]] [0,1,2])
 (.seq (.seq (cR [oA 6 (.load false 1) [.t 0],
 oA 7 (.load false 1) [.t 1],
 oA 8 .call [.c (.func (.func 74) #[] #[]),.t 6,.t 7],
 oA 9 (.un .not) [.t 8]] [0,1,2,9])
 (.cond (.t 9) (.seq (cR [oA 3 .move [.c (.int .i64 (1))]] [3])
 (.ret))
 (.skip)))
 (.seq (cD [⟨[oA 10 (.load false 1) [.t 0],
 oA 11 .nilCheck [.t 10],
 oA 12 (.fieldAddr 0) [.t 11],
 oA 13 (.load false 1) [.t 12],
 oA 14 (.load false 1) [.t 1],
 oA 15 (.idxAddr 1) [.t 13,.t 14],
 oA 16 (.load false 1) [.t 15]],some (oN (.store 1) [.t 2,.t 16]),[],[]⟩] [10,11,12,13,14,15,16] [0,1,2])
 (.seq (.seq (cR [oA 17 (.load false 1) [.t 0],
 oA 18 .nilCheck [.t 17],
 oA 19 (.fieldAddr 1) [.t 18],
 oA 20 (.load false 1) [.t 19],
 oA 21 .lenS [.t 20],
 oA 22 .move [.c (.int .i64 (0))]] [1,2,20,21,22])
 (.block 0 (.loop [1,2,20,21,22] l163_0)))
 (.seq (cR [oA 33 (.load false 1) [.t 2],
 oA 34 .call [.c (.func (.func 50) #[] #[]),.t 33],
 oN (.store 1) [.t 2,.t 34]] [])
 (.seq (cR [oA 3 .move [.c (.int .i64 (0))]] [3])
 (.ret)))))),
 [.tmp 3], none⟩

def l164_0 : Code :=
 .seq (cR [oA 9 (.bin .lss) [.t 8,.t 7]] [3,6,7,8,9])
 (.seq (.cond (.t 9) (.skip)
 (.exit 0))
 (.seq (.block 1 (.seq (cR [oM 10 8,
 oA 11 (.idxAddr 1) [.t 6,.t 8],
 oA 12 (.load false 1) [.t 11],
 oM 4 10,
 oM 5 12] [3,4,5,6,7,8])
 (cR [oM 13 3,
 oM 14 5,
 oA 15 (.toInt .u64) [.t 14],
 oM 16 4,
 oA 17 (.bin .mul) [.c (.int .i64 (8)),.t 16],
 oA 18 (.bin .shl) [.t 15,.t 17],
 oA 19 (.bin .or) [.t 13,.t 18],
 oM 3 19] [3,6,7,8])))
 (cR [oA 20 (.bin .add) [.t 8,.c (.int .i64 (1))],
 oM 8 20] [3,6,7,8])))
def f164 : Func := ⟨.seq (cR [oA 2 .move [.c (.int .u64 (0))]] [0])
 (.seq (cR [oA 3 .move [.c (.int .u64 (0))]] [0,3])
 (.seq (.seq (cR [oM 6 0,
 oA 7 .lenS [.t 6],
 oA 8 .move [.c (.int .i64 (0))]] [3,6,7,8])
 (.block 0 (.loop [3,6,7,8] l164_0)))
 (.seq (cR [oM 21 3,
 oM 2 21] [2])
 (.ret)))),
 [.tmp 2], none⟩

def f165 : Func := ⟨.seq (cR [oA 2 .move [.c (.int .u32 (0))]] [0])
 (.seq (cR [oM 3 0,
 oA 4 .call [.c (.func (.func 221) #[] #[]),.c (.int .u32 (0)),.t 3],
 oM 2 4] [2])
 (.ret)),
 [.tmp 2], none⟩

def f167 : Func := ⟨.seq (cR [oA 1 (.box 115 8) [.t 0],
 oA 2 .move [.c (.bool false)]] [1])
 (.seq (cR [oA 5 (.fieldAddr 4) [.t 1],
 oA 6 (.fieldAddr 0) [.t 5],
 oA 7 (.load true 3) [.t 6],
 oA 3 (.new 111 3 [(.int .i64 (0)), (.int .i64 (0)), (.int .i64 (0))]) [],
 oN (.store 3) [.t 3,.t 7]] [1,3])
 (.seq (cR [oA 8 (.fieldAddr 0) [.t 1],
 oA 9 (.load false 1) [.t 8],
 oA 10 .call [.c (.func (.func 222) #[] #[]),.t 9,.c (.int .i64 (1)),.c (.int .i64 (268435455))],
 oM 11 10,
 oG (some 12) (.fieldAddr 1) [.t 1] 11 true,
 oG (some 13) (.load false 1) [.t 12] 11 true,
 oG (some 14) .call [.c (.func (.func 222) #[] #[]),.t 13,.c (.int .i64 (64)),.c (.int .i64 (8192))] 11 true,
 oA 15 .pick [.t 11,.t 14,.c (.bool false)],
 oM 16 15,
 oG (some 17) (.fieldAddr 2) [.t 1] 16 true,
 oG (some 18) (.load false 1) [.t 17] 16 true,
 oG (some 19) .call [.c (.func (.func 222) #[] #[]),.t 18,.c (.int .i64 (1)),.c (.int .i64 (512))] 16 true,
 oA 20 .pick [.t 16,.t 19,.c (.bool false)],
 oM 4 20] [1,3,4])
 (.seq (cD [⟨[oM 21 4,
 oM 22 21,
 oG (some 23) (.fieldAddr 3) [.t 1] 22 true,
 oG (some 24) (.load false 1) [.t 23] 22 true,
 oG (some 27) (.fieldAddr 3) [.t 1] 22 true,
 oG (some 28) (.load false 1) [.t 27] 22 true],some (oG (some 25) .call [.c (.func (.func 60) #[] #[]),.t 24] 22 true),[28],[]⟩,
 ⟨[],some (oG (some 26) .f64bits [.t 25] 22 true),[28],[]⟩,
 ⟨[],some (oG (some 29) .f64bits [.t 28] 22 true),[],[]⟩,
 ⟨[oG (some 30) (.bin .eql) [.t 26,.t 29] 22 true,
 oA 31 .pick [.t 22,.t 30,.c (.bool false)],
 oM 4 31],none,[],[]⟩] [21,22,23,24,25,26,27,28,29,30,31,4] [1,3,4])
 (.seq (cR [oM 32 4,
 oM 33 32,
 oG (some 34) (.fieldAddr 4) [.t 1] 33 true,
 oG (some 35) (.fieldAddr 3) [.t 34] 33 true,
 oG (some 36) (.load false 1) [.t 35] 33 true,
 oG (some 37) .call [.c (.func (.func 222) #[] #[]),.t 36,.c (.int .i64 (0)),.c (.int .i64 (5))] 33 true,
 oA 38 .pick [.t 33,.t 37,.c (.bool false)],
 oM 39 38,
 oG (some 40) (.fieldAddr 2) [.t 3] 39 true,
 oG (some 41) (.load false 1) [.t 40] 39 true,
 oG (some 42) (.fieldAddr 0) [.t 1] 39 true,
 oG (some 43) (.load false 1) [.t 42] 39 true,
 oG (some 44) .call [.c (.func (.func 222) #[] #[]),.t 41,.c (.int .i64 (0)),.t 43] 39 true,
 oA 45 .pick [.t 39,.t 44,.c (.bool false)],
 oM 46 45,
 oG (some 47) (.fieldAddr 1) [.t 3] 46 true,
 oG (some 48) (.load false 1) [.t 47] 46 true,
 oG (some 49) .call [.c (.func (.func 222) #[] #[]),.t 48,.c (.int .i64 (1)),.c (.int .i64 (128))] 46 true,
 oA 50 .pick [.t 46,.t 49,.c (.bool false)],
 oM 51 50,
 oG (some 52) (.fieldAddr 0) [.t 3] 51 true,
 oG (some 53) (.load false 1) [.t 52] 51 true,
 oG (some 54) (.fieldAddr 1) [.t 1] 51 true,
 oG (some 55) (.load false 1) [.t 54] 51 true,
 oG (some 56) (.fieldAddr 1) [.t 3] 51 true,
 oG (some 57) (.load false 1) [.t 56] 51 true,
 oG (some 58) (.bin .sub) [.t 55,.t 57] 51 true,
 oG (some 59) .call [.c (.func (.func 222) #[] #[]),.t 53,.c (.int .i64 (2)),.t 58] 51 true,
 oA 60 .pick [.t 51,.t 59,.c (.bool false)],
 oM 2 60] [2])
 (.ret))))),
 [.tmp 2], none⟩

def f168 : Func := ⟨.seq (cR [oA 4 .move [.c (.bool false)]] [0,1])
 (.seq (cR [oM 5 0,
 oA 6 .toStr [.t 5],
 oM 7 1,
 oA 8 .toStr [.t 7],
 oA 9 (.eqStr false) [.t 6,.t 8],
 oM 4 9] [4])
 (.ret)),
 [.tmp 4], none⟩

def f169 : Func := ⟨.seq (cR [oA 2 .move [.c (.int .i64 (0))],
 oA 3 .move [.c (.int .i64 (0))]] [0])
 (.seq (.seq (cR [oM 5 0,
 oA 6 .lenS [.t 5],
 oA 7 (.bin .lss) [.t 6,.c (.int .i64 (16))]] [0,7])
 (.cond (.t 7) (.seq (cR [oA 2 .move [.c (.int .i64 (0))],
 oA 3 .move [.c (.int .i64 (2))]] [2,3])
 (.ret))
 (.skip)))
 (.seq (cR [oM 8 0,
 oA 9 (.slice 1 true false false) [.t 8,.c (.int .i64 (8))],
 oA 10 .call [.c (.func (.func 171) #[] #[]),.t 9],
 oM 4 10] [0,4])
 (.seq (.seq (cR [oM 11 0,
 oA 12 (.idxAddr 1) [.t 11,.c (.int .i64 (0))],
 oA 13 (.load false 1) [.t 12],
 oA 14 (.bin .neq) [.t 13,.c (.int .u8 (197))],
 oM 15 14,
 oG (some 16) .move [.t 0] 15 false,
 oG (some 17) (.idxAddr 1) [.t 16,.c (.int .i64 (1))] 15 false,
 oG (some 18) (.load false 1) [.t 17] 15 false,
 oG (some 19) (.bin .neq) [.t 18,.c (.int .u8 (126))] 15 false,
 oA 20 .pick [.t 15,.c (.bool true),.t 19],
 oM 21 20,
 oG (some 22) .move [.t 0] 21 false,
 oG (some 23) (.idxAddr 1) [.t 22,.c (.int .i64 (3))] 21 false,
 oG (some 24) (.load false 1) [.t 23] 21 false,
 oG (some 25) (.bin .neq) [.t 24,.c (.int .u8 (0))] 21 false,
 oA 26 .pick [.t 21,.c (.bool true),.t 25],
 oM 27 26,
 oG (some 28) .move [.t 4] 27 false,
 oG (some 29) (.bin .gtr) [.t 28,.c (.int .u32 (4096))] 27 false,
 oA 30 .pick [.t 27,.c (.bool true),.t 29],
 oM 31 30,
 oG (some 32) .move [.t 0] 31 false,
 oG (some 33) (.slice 1 true false false) [.t 32,.c (.int .i64 (4))] 31 false,
 oG (some 34) .call [.c (.func (.func 171) #[] #[]),.t 33] 31 false,
 oG (some 35) (.bin .gtr) [.t 34,.c (.int .u32 (2147483647))] 31 false,
 oA 36 .pick [.t 31,.c (.bool true),.t 35]] [4,36])
 (.cond (.t 36) (.seq (cR [oA 2 .move [.c (.int .i64 (0))],
 oA 3 .move [.c (.int .i64 (4))]] [2,3])
 (.ret))
 (.skip)))
 (.seq (cR [oM 37 4,
 oA 38 (.toInt .i64) [.t 37],
 oM 2 38,
 oA 3 .move [.c (.int .i64 (0))]] [2,3])
 (.ret))))),
 [.tmp 2, .tmp 3], none⟩

def f170 : Func := ⟨.seq (cR [oA 2 .move [.c (.int .i64 (0))]] [0])
 (.seq (.seq (cR [oM 3 0,
 oA 4 (.bin .lss) [.t 3,.c (.int .i64 (0))],
 oM 5 4,
 oG (some 6) .move [.t 0] 5 false,
 oG (some 7) (.bin .gtr) [.t 6,.c (.int .i64 (4096))] 5 false,
 oA 8 .pick [.t 5,.c (.bool true),.t 7]] [0,8])
 (.cond (.t 8) (.seq (cR [oA 2 .move [.c (.int .i64 (0))]] [2])
 (.ret))
 (.skip)))
 (.seq (cR [oM 9 0,
 oA 10 (.bin .add) [.c (.int .i64 (16)),.t 9],
 oA 11 (.bin .add) [.t 10,.c (.int .i64 (64))],
 oA 12 (.bin .sub) [.t 11,.c (.int .i64 (1))],
 oA 13 (.bin .quo) [.t 12,.c (.int .i64 (64))],
 oM 2 13] [2])
 (.ret))),
 [.tmp 2], none⟩

def f171 : Func := ⟨.seq (cR [oA 2 .move [.c (.int .u32 (0))]] [0])
 (.seq (cD [⟨[oM 3 0,
 oA 4 (.idxAddr 1) [.t 3,.c (.int .i64 (0))],
 oA 5 (.load false 1) [.t 4],
 oA 6 (.toInt .u32) [.t 5],
 oM 7 0,
 oA 8 (.idxAddr 1) [.t 7,.c (.int .i64 (1))],
 oA 9 (.load false 1) [.t 8],
 oA 10 (.toInt .u32) [.t 9],
 oA 11 (.bin .shl) [.t 10,.c (.int .u64 (8))],
 oA 12 (.bin .or) [.t 6,.t 11],
 oM 13 0,
 oA 14 (.idxAddr 1) [.t 13,.c (.int .i64 (2))],
 oA 15 (.load false 1) [.t 14],
 oA 16 (.toInt .u32) [.t 15],
 oA 17 (.bin .shl) [.t 16,.c (.int .u64 (16))],
 oA 18 (.bin .or) [.t 12,.t 17],
 oM 19 0,
 oA 20 (.idxAddr 1) [.t 19,.c (.int .i64 (3))],
 oA 21 (.load false 1) [.t 20],
 oA 22 (.toInt .u32) [.t 21],
 oA 23 (.bin .shl) [.t 22,.c (.int .u64 (24))],
 oA 24 (.bin .or) [.t 18,.t 23],
 oM 2 24],none,[],[]⟩] [3,4,5,6,7,8,9,10,11,12,13,14,15,16,17,18,19,20,21,22,23,24,2] [2])
 (.ret)),
 [.tmp 2], none⟩

def f172 : Func := ⟨.seq (cR [oA 4 .move [.c (.int .u32 (0))]] [0,1])
 (.seq (cR [oM 5 0,
 oA 6 (.slice 1 false true false) [.t 5,.c (.int .i64 (12))],
 oA 7 .call [.c (.func (.func 165) #[] #[]),.t 6],
 oM 8 1,
 oA 9 .call [.c (.func (.func 221) #[] #[]),.t 7,.t 8],
 oM 4 9] [4])
 (.ret)),
 [.tmp 4], none⟩

def f173 : Func := ⟨.seq (cR [oM 1 4] [0,1])
 (.seq (cR [oM 5 1,
 oA 6 (.isNil .iface true) [.t 5]] [0,1,6])
 (.cond (.t 6) (.seq (cR [oM 8 1,
 oA 9 (.assert 271 (.agg #[(.int .i64 (0))]) true) [.t 8],
 oM 7 9,
 oA 10 (.extract 0) [.t 7],
 oA 11 (.extract 1) [.t 7],
 oA 2 (.new 271 1 [(.int .i64 (0))]) [],
 oN (.store 1) [.t 2,.t 10],
 oM 3 11] [0,1,2,3])
 (.seq (.seq (cR [oM 12 3,
 oA 13 (.un .not) [.t 12]] [0,1,2,13])
 (.cond (.t 13) (cR [oM 14 1,
 oN .panic [.t 14]] [0,2])
 (.skip)))
 (cR [oA 15 (.fieldAddr 0) [.t 2],
 oA 16 (.load false 1) [.t 15],
 oN (.store 1) [.t 0,.t 16]] [])))
 (.skip))),
 [], some 4⟩

def f174 : Func := ⟨.seq (cR [oM 4 0,
 oA 5 (.un .not) [.t 4]] [1,5])
 (.cond (.t 5) (cR [oM 6 1,
 oA 7 (.build [(.int .i64 (0))] [(0, 1)]) [.t 6],
 oA 8 (.iface 271) [.t 7],
 oN .panic [.t 8]] [])
 (.skip)),
 [], none⟩

def f175 : Func := ⟨.seq (cR [oA 4 .move [.c (.slice none 0 0)],
 oA 5 .move [.c (.int .i64 (0))]] [0,1])
 (.seq (.block 0 (.seq (cR [oM 7 0,
 oA 8 .lenS [.t 7],
 oM 9 1,
 oA 10 (.bin .lss) [.t 8,.t 9],
 oM 6 10] [0,1,6])
 (.cond (.t 6) (.seq (cR [oA 4 .move [.c (.slice none 0 0)],
 oA 5 .move [.c (.int .i64 (2))]] [4,5])
 (.ret))
 (.seq (cR [oM 12 0,
 oA 13 .lenS [.t 12],
 oM 14 1,
 oA 15 (.bin .gtr) [.t 13,.t 14],
 oM 11 15] [0,11])
 (.cond (.t 11) (.seq (cR [oA 4 .move [.c (.slice none 0 0)],
 oA 5 .move [.c (.int .i64 (3))]] [4,5])
 (.ret))
 (.skip))))))
 (.seq (cR [oM 16 0,
 oA 17 .call [.c (.func (.func 50) #[] #[]),.t 16],
 oM 4 17,
 oA 5 .move [.c (.int .i64 (0))]] [4,5])
 (.ret))),
 [.tmp 4, .tmp 5], none⟩

def f176 : Func := ⟨.seq (cR [oA 4 (.new 23 1 [(.slice none 0 0)]) [],
 oA 5 (.new 26 1 [(.int .i64 (0))]) []] [0,1,4,5])
 (.seq (.seq (cR [oM 7 1,
 oA 8 (.bin .lss) [.t 7,.c (.int .i64 (0))],
 oM 9 8,
 oG (some 10) .move [.t 1] 9 false,
 oG (some 11) (.bin .gtr) [.t 10,.c (.int .i64 (4096))] 9 false,
 oA 12 .pick [.t 9,.c (.bool true),.t 11]] [0,1,4,5,12])
 (.cond (.t 12) (.seq (cR [oN (.store 1) [.t 4,.c (.slice none 0 0)],
 oN (.store 1) [.t 5,.c (.int .i64 (1))]] [4,5])
 (.ret))
 (.skip)))
 (.seq (cR [oA 13 (.func 223 0) [.t 4,.t 5],
 oN .defer [.t 13]] [0,1,4,5])
 (.seq (cR [oM 14 0,
 oA 15 (.build [(.slice none 0 0), (.slice none 0 0)] [(0, 1)]) [.t 14],
 oA 16 (.box 318 2) [.t 15],
 oM 6 16] [1,4,5,6])
 (.seq (cR [oM 17 6,
 oM 18 1,
 oA 19 .call [.c (.func (.func 224) #[] #[]),.t 17,.t 18]] [4,5,6])
 (.seq (cR [oM 20 6,
 oA 21 .nilCheck [.t 20],
 oA 22 (.fieldAddr 1) [.t 21],
 oA 23 (.load false 1) [.t 22],
 oN (.store 1) [.t 4,.t 23],
 oN (.store 1) [.t 5,.c (.int .i64 (0))]] [4,5])
 (.ret)))))),
 [.cell 4 false 1, .cell 5 false 1], none⟩

def f177 : Func := ⟨.seq (cR [oA 4 .move [.c (.slice none 0 0)],
 oA 5 .move [.c (.int .i64 (0))]] [0,1])
 (.seq (.seq (cR [oM 9 0,
 oA 10 .lenS [.t 9],
 oA 11 (.bin .lss) [.t 10,.c (.int .i64 (2))]] [0,1,11])
 (.cond (.t 11) (.seq (cR [oA 4 .move [.c (.slice none 0 0)],
 oA 5 .move [.c (.int .i64 (2))]] [4,5])
 (.ret))
 (.skip)))
 (.seq (cD [⟨[oM 12 0,
 oA 13 (.idxAddr 1) [.t 12,.c (.int .i64 (0))],
 oA 14 (.load false 1) [.t 13],
 oA 15 (.toInt .i64) [.t 14],
 oM 16 0,
 oA 17 (.idxAddr 1) [.t 16,.c (.int .i64 (1))],
 oA 18 (.load false 1) [.t 17],
 oA 19 (.toInt .i64) [.t 18],
 oA 20 (.bin .shl) [.t 19,.c (.int .u64 (8))],
 oA 21 (.bin .or) [.t 15,.t 20],
 oM 6 21],none,[],[]⟩] [12,13,14,15,16,17,18,19,20,21,6] [0,1,6])
 (.seq (.seq (cR [oM 22 6,
 oA 23 (.bin .gtr) [.t 22,.c (.int .i64 (4096))]] [0,1,6,23])
 (.cond (.t 23) (.seq (cR [oA 4 .move [.c (.slice none 0 0)],
 oA 5 .move [.c (.int .i64 (3))]] [4,5])
 (.ret))
 (.skip)))
 (.seq (cR [oM 25 0,
 oA 26 (.slice 1 true false false) [.t 25,.c (.int .i64 (2))],
 oM 27 6,
 oA 28 .call [.c (.func (.func 225) #[] #[]),.t 26,.t 27],
 oM 24 28,
 oA 29 (.extract 0) [.t 24],
 oA 30 (.extract 1) [.t 24],
 oM 7 29,
 oM 8 30] [1,7,8])
 (.seq (.seq (cR [oM 31 8,
 oA 32 (.bin .neq) [.t 31,.c (.int .i64 (0))]] [1,7,8,32])
 (.cond (.t 32) (.seq (cR [oM 33 8,
 oA 4 .move [.c (.slice none 0 0)],
 oM 5 33] [4,5])
 (.ret))
 (.skip)))
 (.seq (cR [oM 34 7,
 oM 35 1,
 oA 36 .call [.c (.func (.func 176) #[] #[]),.t 34,.t 35],
 oA 37 (.extract 0) [.t 36],
 oA 38 (.extract 1) [.t 36],
 oM 4 37,
 oM 5 38] [4,5])
 (.ret))))))),
 [.tmp 4, .tmp 5], none⟩

def l178_0 : Code :=
 .seq (.seq (cR [oM 16 6,
 oM 17 0,
 oA 18 .lenS [.t 17],
 oA 19 (.bin .lss) [.t 16,.t 18]] [0,1,5,6,19])
 (.cond (.t 19) (.skip)
 (.exit 0)))
 (.seq (.block 1 (.seq (cR [oM 22 0,
 oM 23 6,
 oA 24 (.idxAddr 2) [.t 22,.t 23],
 oA 25 (.load true 2) [.t 24],
 oA 7 (.new 102 2 [(.int .i64 (0)), (.int .i64 (0))]) [],
 oN (.store 2) [.t 7,.t 25]] [0,1,5,6,7])
 (.seq (cR [oM 26 1,
 oA 27 (.load true 2) [.t 7],
 oA 28 .call [.t 26,.t 27],
 oA 29 (.un .not) [.t 28]] [0,1,5,6,7,29])
 (.cond (.t 29) (.seq (cR [oM 30 0,
 oM 31 5,
 oA 32 (.load true 2) [.t 7],
 oA 33 (.idxAddr 2) [.t 30,.t 31],
 oN (.store 2) [.t 33,.t 32]] [0,1,5,6])
 (cR [oM 34 5,
 oA 35 (.bin .add) [.t 34,.c (.int .i64 (1))],
 oM 5 35] [0,1,5,6]))
 (.skip)))))
 (cR [oM 20 6,
 oA 21 (.bin .add) [.t 20,.c (.int .i64 (1))],
 oM 6 21] [0,1,5,6]))
def f178 : Func := ⟨.seq (cR [oA 4 .move [.c (.slice none 0 0)]] [0,1])
 (.seq (cR [oM 8 0,
 oM 9 1,
 oA 10 .call [.c (.func (.func 226) #[] #[]),.t 8,.t 9],
 oM 5 10] [0,1,5])
 (.seq (.seq (cR [oM 11 5,
 oA 12 (.bin .eql) [.t 11,.c (.int .i64 (-1))]] [0,1,5,12])
 (.cond (.t 12) (.seq (cR [oM 13 0,
 oM 4 13] [4])
 (.ret))
 (.skip)))
 (.seq (.seq (cR [oM 14 5,
 oA 15 (.bin .add) [.t 14,.c (.int .i64 (1))],
 oM 6 15] [0,1,5,6])
 (.block 0 (.loop [0,1,5,6] l178_0)))
 (.seq (cR [oM 36 0,
 oM 37 5,
 oA 38 (.slice 2 true false false) [.t 36,.t 37],
 oN (.clearS [(.int .i64 (0)), (.int .i64 (0))]) [.t 38]] [0,5])
 (.seq (cR [oM 39 0,
 oM 40 5,
 oA 41 (.slice 2 false true false) [.t 39,.t 40],
 oM 4 41] [4])
 (.ret)))))),
 [.tmp 4], none⟩

def f179 : Func := ⟨.seq (cR [oA 1 (.box 102 2) [.t 0],
 oA 2 .move [.c (.bool false)]] [1])
 (.seq (cR [oA 3 (.fieldAddr 1) [.t 1],
 oA 4 (.load false 1) [.t 3],
 oA 5 (.bin .eql) [.t 4,.c (.int .i64 (0))],
 oM 2 5] [2])
 (.ret)),
 [.tmp 2], none⟩

def f180 : Func := ⟨.seq (cR [oA 8 .move [.c (.slice none 0 0)]] [0,1,2,3])
 (.seq (cR [oM 15 0,
 oM 16 1,
 oM 17 2,
 oA 18 (.slice 2 true true false) [.t 15,.t 16,.t 17]] [0,1,2,3])
 (.seq (.seq (cR [oM 19 1,
 oM 20 2,
 oA 21 (.bin .eql) [.t 19,.t 20]] [0,1,2,3,21])
 (.cond (.t 21) (.seq (cR [oM 22 0,
 oM 23 1,
 oM 24 3,
 oA 25 .call [.c (.func (.func 227) #[] #[]),.t 22,.t 23,.t 24],
 oM 8 25] [8])
 (.ret))
 (.skip)))
 (.seq (.seq (cR [oM 26 2,
 oM 27 0,
 oA 28 .lenS [.t 27],
 oA 29 (.bin .eql) [.t 26,.t 28]] [0,1,2,3,29])
 (.cond (.t 29) (.seq (cR [oM 30 0,
 oM 31 1,
 oA 32 (.slice 2 false true false) [.t 30,.t 31],
 oM 33 3,
 oA 34 (.append 102 2 16) [.t 32,.t 33],
 oM 9 34] [0,9])
 (.seq (.seq (cR [oM 35 9,
 oA 36 .lenS [.t 35],
 oM 37 0,
 oA 38 .lenS [.t 37],
 oA 39 (.bin .lss) [.t 36,.t 38]] [0,9,39])
 (.cond (.t 39) (cR [oM 40 0,
 oM 41 9,
 oA 42 .lenS [.t 41],
 oA 43 (.slice 2 true false false) [.t 40,.t 42],
 oN (.clearS [(.int .i64 (0)), (.int .i64 (0))]) [.t 43]] [9])
 (.skip)))
 (.seq (cR [oM 44 9,
 oM 8 44] [8])
 (.ret))))
 (.skip)))
 (.seq (cD [⟨[oM 45 0,
 oM 46 1,
 oA 47 (.slice 2 false true false) [.t 45,.t 46],
 oA 48 .lenS [.t 47],
 oM 49 3,
 oA 50 .lenS [.t 49],
 oA 51 (.bin .add) [.t 48,.t 50],
 oM 52 0,
 oM 53 2,
 oA 54 (.slice 2 true false false) [.t 52,.t 53],
 oA 55 .lenS [.t 54],
 oA 56 (.bin .add) [.t 51,.t 55],
 oM 10 56],none,[],[]⟩] [45,46,47,48,49,50,51,52,53,54,55,56,10] [0,1,2,3,10])
 (.seq (.seq (cR [oM 57 10,
 oM 58 0,
 oA 59 .cap [.t 58],
 oA 60 (.bin .gtr) [.t 57,.t 59]] [0,1,2,3,10,60])
 (.cond (.t 60) (.seq (cR [oM 61 0,
 oM 62 1,
 oA 63 (.slice 2 false true false) [.t 61,.t 62],
 oM 64 10,
 oM 65 1,
 oA 66 (.bin .sub) [.t 64,.t 65],
 oA 67 (.appendZ 102 2 16 [(.int .i64 (0)), (.int .i64 (0))]) [.t 63,.t 66],
 oM 11 67] [0,1,2,3,11])
 (.seq (cR [oM 68 11,
 oM 69 1,
 oA 70 (.slice 2 true false false) [.t 68,.t 69],
 oM 71 3,
 oA 72 (.copy 2) [.t 70,.t 71]] [0,1,2,3,11])
 (.seq (cD [⟨[oM 73 11,
 oM 74 1,
 oM 75 3,
 oA 76 .lenS [.t 75],
 oA 77 (.bin .add) [.t 74,.t 76],
 oA 78 (.slice 2 true false false) [.t 73,.t 77],
 oM 79 0,
 oM 80 2,
 oA 81 (.slice 2 true false false) [.t 79,.t 80]],some (oA 82 (.copy 2) [.t 78,.t 81]),[],[]⟩] [73,74,75,76,77,78,79,80,81,82] [11])
 (.seq (cR [oM 83 11,
 oM 8 83] [8])
 (.ret)))))
 (.skip)))
 (.seq (cR [oM 84 0,
 oM 85 10,
 oA 86 (.slice 2 false true false) [.t 84,.t 85],
 oM 12 86] [0,1,2,3,10,12])
 (.seq (.seq (cR [oM 87 1,
 oM 88 3,
 oA 89 .lenS [.t 88],
 oA 90 (.bin .add) [.t 87,.t 89],
 oM 91 2,
 oA 92 (.bin .leq) [.t 90,.t 91]] [0,1,2,3,10,12,92])
 (.cond (.t 92) (.seq (cR [oM 93 12,
 oM 94 1,
 oA 95 (.slice 2 true false false) [.t 93,.t 94],
 oM 96 3,
 oA 97 (.copy 2) [.t 95,.t 96]] [0,1,2,3,10,12])
 (.seq (cD [⟨[oM 98 12,
 oM 99 1,
 oM 100 3,
 oA 101 .lenS [.t 100],
 oA 102 (.bin .add) [.t 99,.t 101],
 oA 103 (.slice 2 true false false) [.t 98,.t 102],
 oM 104 0,
 oM 105 2,
 oA 106 (.slice 2 true false false) [.t 104,.t 105]],some (oA 107 (.copy 2) [.t 103,.t 106]),[],[]⟩] [98,99,100,101,102,103,104,105,106,107] [0,10,12])
 (.seq (cR [oM 108 0,
 oM 109 10,
 oA 110 (.slice 2 true false false) [.t 108,.t 109],
 oN (.clearS [(.int .i64 (0)), (.int .i64 (0))]) [.t 110]] [12])
 (.seq (cR [oM 111 12,
 oM 8 111] [8])
 (.ret)))))
 (.skip)))
 (.seq (.seq (cR [oM 112 12,
 oM 113 1,
 oM 114 3,
 oA 115 .lenS [.t 114],
 oA 116 (.bin .add) [.t 113,.t 115],
 oA 117 (.slice 2 true false false) [.t 112,.t 116],
 oM 118 3,
 oA 119 .overlaps [.t 117,.t 118],
 oA 120 (.un .not) [.t 119]] [0,1,2,3,12,120])
 (.cond (.t 120) (.seq (cD [⟨[oM 121 12,
 oM 122 1,
 oM 123 3,
 oA 124 .lenS [.t 123],
 oA 125 (.bin .add) [.t 122,.t 124],
 oA 126 (.slice 2 true false false) [.t 121,.t 125],
 oM 127 0,
 oM 128 2,
 oA 129 (.slice 2 true false false) [.t 127,.t 128]],some (oA 130 (.copy 2) [.t 126,.t 129]),[],[]⟩] [121,122,123,124,125,126,127,128,129,130] [1,3,12])
 (.seq (cR [oM 131 12,
 oM 132 1,
 oA 133 (.slice 2 true false false) [.t 131,.t 132],
 oM 134 3,
 oA 135 (.copy 2) [.t 133,.t 134]] [12])
 (.seq (cR [oM 136 12,
 oM 8 136] [8])
 (.ret))))
 (.skip)))
 (.seq (cR [oM 137 3,
 oA 138 .lenS [.t 137],
 oM 139 2,
 oM 140 1,
 oA 141 (.bin .sub) [.t 139,.t 140],
 oA 142 (.bin .sub) [.t 138,.t 141],
 oM 13 142] [0,1,2,3,12,13])
 (.seq (.seq (cR [oM 143 12,
 oM 144 1,
 oM 145 2,
 oA 146 (.slice 2 true true false) [.t 143,.t 144,.t 145],
 oM 147 3,
 oA 148 .overlaps [.t 146,.t 147],
 oA 149 (.un .not) [.t 148]] [0,1,2,3,12,13,149])
 (.cond (.t 149) (.seq (cD [⟨[oM 150 12,
 oM 151 1,
 oM 152 2,
 oA 153 (.slice 2 true true false) [.t 150,.t 151,.t 152],
 oM 154 3,
 oM 155 13,
 oA 156 (.slice 2 true false false) [.t 154,.t 155]],some (oA 157 (.copy 2) [.t 153,.t 156]),[],[]⟩] [150,151,152,153,154,155,156,157] [0,1,3,12,13])
 (.seq (cD [⟨[oM 158 12,
 oM 159 0,
 oA 160 .lenS [.t 159],
 oA 161 (.slice 2 true false false) [.t 158,.t 160],
 oM 162 3,
 oM 163 13,
 oA 164 (.slice 2 false true false) [.t 162,.t 163]],some (oA 165 (.copy 2) [.t 161,.t 164]),[],[]⟩] [158,159,160,161,162,163,164,165] [1,12,13])
 (.seq (cR [oM 166 12,
 oM 167 1,
 oA 168 (.slice 2 true false false) [.t 166,.t 167],
 oM 169 13,
 oA 170 .call [.c (.func (.func 229) #[] #[]),.t 168,.t 169]] [12])
 (.seq (cR [oM 171 12,
 oM 8 171] [8])
 (.ret)))))
 (.skip)))
 (.seq (.seq (cR [oM 172 12,
 oM 173 0,
 oA 174 .lenS [.t 173],
 oA 175 (.slice 2 true false false) [.t 172,.t 174],
 oM 176 3,
 oA 177 .overlaps [.t 175,.t 176],
 oA 178 (.un .not) [.t 177]] [0,1,2,3,12,13,178])
 (.cond (.t 178) (.seq (cD [⟨[oM 179 12,
 oM 180 0,
 oA 181 .lenS [.t 180],
 oA 182 (.slice 2 true false false) [.t 179,.t 181],
 oM 183 3,
 oM 184 13,
 oA 185 (.slice 2 false true false) [.t 183,.t 184]],some (oA 186 (.copy 2) [.t 182,.t 185]),[],[]⟩] [179,180,181,182,183,184,185,186] [1,2,3,12,13])
 (.seq (cD [⟨[oM 187 12,
 oM 188 1,
 oM 189 2,
 oA 190 (.slice 2 true true false) [.t 187,.t 188,.t 189],
 oM 191 3,
 oM 192 13,
 oA 193 (.slice 2 true false false) [.t 191,.t 192]],some (oA 194 (.copy 2) [.t 190,.t 193]),[],[]⟩] [187,188,189,190,191,192,193,194] [1,12,13])
 (.seq (cR [oM 195 12,
 oM 196 1,
 oA 197 (.slice 2 true false false) [.t 195,.t 196],
 oM 198 13,
 oA 199 .call [.c (.func (.func 229) #[] #[]),.t 197,.t 198]] [12])
 (.seq (cR [oM 200 12,
 oM 8 200] [8])
 (.ret)))))
 (.skip)))
 (.seq (cR [oM 201 3,
 oM 202 0,
 oM 203 2,
 oA 204 (.slice 2 true false false) [.t 202,.t 203],
 oA 205 .call [.c (.func (.func 230) #[] #[]),.t 201,.t 204],
 oM 14 205] [1,3,12,14])
 (.seq (cR [oM 206 12,
 oM 207 1,
 oA 208 (.slice 2 true false false) [.t 206,.t 207],
 oM 209 3,
 oA 210 (.copy 2) [.t 208,.t 209]] [1,3,12,14])
 (.seq (cD [⟨[oM 211 12,
 oM 212 1,
 oM 213 3,
 oA 214 .lenS [.t 213],
 oA 215 (.bin .add) [.t 212,.t 214],
 oA 216 (.slice 2 true false false) [.t 211,.t 215],
 oM 217 12,
 oM 218 1,
 oM 219 14,
 oA 220 (.bin .add) [.t 218,.t 219],
 oA 221 (.slice 2 true false false) [.t 217,.t 220]],some (oA 222 (.copy 2) [.t 216,.t 221]),[],[]⟩] [211,212,213,214,215,216,217,218,219,220,221,222] [12])
 (.seq (cR [oM 223 12,
 oM 8 223] [8])
 (.ret)))))))))))))))),
 [.tmp 8], none⟩

def f181 : Func := ⟨.seq (cR [oM 1 4] [0,1])
 (.seq (cR [oM 5 1,
 oA 6 (.isNil .iface true) [.t 5]] [0,1,6])
 (.cond (.t 6) (.seq (.seq (cR [oM 8 1,
 oA 9 (.assert 279 (.agg #[]) true) [.t 8],
 oM 7 9,
 oA 10 (.extract 0) [.t 7],
 oA 11 (.extract 1) [.t 7],
 oA 2 (.new 279 0 []) [],
 oN (.store 0) [.t 2,.t 10],
 oM 3 11] [0,1,3])
 (.seq (cR [oM 12 3,
 oA 13 (.un .not) [.t 12]] [0,1,13])
 (.cond (.t 13) (cR [oM 14 1,
 oN .panic [.t 14]] [0])
 (.skip))))
 (cR [oN (.store 1) [.t 0,.c (.int .i64 (6))]] []))
 (.skip))),
 [], some 4⟩

def f182 : Func := ⟨.seq (cD [⟨[oM 4 0,
 oM 5 1,
 oA 6 .nilCheck [.t 4],
 oA 7 (.fieldAddr 3) [.t 6],
 oA 8 (.idxAddrA 4 1) [.t 7,.t 5],
 oA 9 (.load false 1) [.t 8],
 oA 10 (.bin .add) [.t 9,.c (.int .i64 (1))],
 oA 11 .nilCheck [.t 4],
 oA 12 (.fieldAddr 3) [.t 11],
 oA 13 (.idxAddrA 4 1) [.t 12,.t 5]],some (oN (.store 1) [.t 13,.t 10]),[],[]⟩] [4,5,6,7,8,9,10,11,12,13] [0,1])
 (.seq (cD [⟨[oM 14 0,
 oM 15 1,
 oA 16 .nilCheck [.t 14],
 oA 17 (.fieldAddr 7) [.t 16],
 oA 18 (.idxAddrA 4 1) [.t 17,.t 15],
 oA 19 (.load false 1) [.t 18],
 oA 20 (.bin .add) [.t 19,.c (.int .i64 (1))],
 oA 21 .nilCheck [.t 14],
 oA 22 (.fieldAddr 7) [.t 21],
 oA 23 (.idxAddrA 4 1) [.t 22,.t 15]],some (oN (.store 1) [.t 23,.t 20]),[],[]⟩] [14,15,16,17,18,19,20,21,22,23] [0,1])
 (.seq (cD [⟨[oM 24 0,
 oA 25 .nilCheck [.t 24],
 oA 26 (.fieldAddr 2) [.t 25],
 oA 27 (.load false 1) [.t 26],
 oM 28 1,
 oM 29 0,
 oM 30 1,
 oA 31 .nilCheck [.t 29],
 oA 32 (.fieldAddr 7) [.t 31],
 oA 33 (.idxAddrA 4 1) [.t 32,.t 30],
 oA 34 (.load false 1) [.t 33],
 oA 35 (.build [(.int .i64 (0)), (.int .i64 (0))] [(0, 1), (1, 1)]) [.t 28,.t 34]],some (oA 36 .call [.c (.func (.func 231) #[] #[]),.t 27,.t 35]),[],[]⟩] [24,25,26,27,28,29,30,31,32,33,34,35,36] [36])
 (.cond (.t 36) (cR [oA 37 (.build [] []) [],
 oA 38 (.iface 279) [.t 37],
 oN .panic [.t 38]] [])
 (.skip)))),
 [], none⟩

def l183_0 : Code :=
 .seq (cR [oA 8 (.bin .lss) [.t 7,.t 6]] [0,1,6,7,8])
 (.seq (.cond (.t 8) (.skip)
 (.exit 0))
 (.seq (.block 1 (.seq (cR [oM 9 7,
 oM 4 9] [0,1,4,6,7])
 (cR [oM 10 0,
 oM 11 4,
 oM 12 1,
 oM 13 4,
 oA 14 (.bin .mul) [.c (.int .i64 (8)),.t 13],
 oA 15 (.bin .shr) [.t 12,.t 14],
 oA 16 (.toInt .u8) [.t 15],
 oA 17 (.idxAddr 1) [.t 10,.t 11],
 oN (.store 1) [.t 17,.t 16]] [0,1,6,7])))
 (cR [oA 18 (.bin .add) [.t 7,.c (.int .i64 (1))],
 oM 7 18] [0,1,6,7])))
def f183 : Func := ⟨.seq (cR [oM 5 0,
 oA 6 .lenS [.t 5],
 oA 7 .move [.c (.int .i64 (0))]] [0,1,6,7])
 (.block 0 (.loop [0,1,6,7] l183_0)),
 [], none⟩

def f185 : Func := ⟨.seq (cR [oA 4 (.new 115 8 [(.int .i64 (0)), (.int .i64 (0)), (.int .i64 (0)), (.float .f64 0), (.int .i64 (0)), (.int .i64 (0)), (.int .i64 (0)), (.int .i64 (0))]) [],
 oA 5 .move [.c (.int .i64 (0))],
 oA 6 .move [.c (.int .i64 (0))]] [0,1,4])
 (.seq (cR [oM 10 0,
 oA 11 .call [.c (.func (.func 96) #[] #[]),.t 10],
 oM 9 11,
 oA 12 (.extract 0) [.t 9],
 oA 13 (.extract 1) [.t 9],
 oA 7 (.new 115 8 [(.int .i64 (0)), (.int .i64 (0)), (.int .i64 (0)), (.float .f64 0), (.int .i64 (0)), (.int .i64 (0)), (.int .i64 (0)), (.int .i64 (0))]) [],
 oN (.store 8) [.t 7,.t 12],
 oM 8 13] [1,4,7,8])
 (.seq (.seq (cR [oM 14 8,
 oA 15 (.bin .neq) [.t 14,.c (.int .i64 (0))],
 oM 16 15,
 oG (some 17) (.fieldAddr 0) [.t 7] 16 false,
 oG (some 18) (.load false 1) [.t 17] 16 false,
 oG (some 19) (.bin .neq) [.t 18,.c (.int .i64 (1))] 16 false,
 oA 20 .pick [.t 16,.c (.bool true),.t 19]] [1,4,7,20])
 (.cond (.t 20) (.seq (cR [oA 21 (.build [(.int .i64 (0)), (.int .i64 (0)), (.int .i64 (0)), (.float .f64 0), (.int .i64 (0)), (.int .i64 (0)), (.int .i64 (0)), (.int .i64 (0))] []) [],
 oN (.store 8) [.t 4,.t 21],
 oA 5 .move [.c (.int .i64 (0))],
 oA 6 .move [.c (.int .i64 (5))]] [4,5,6])
 (.ret))
 (.skip)))
 (.seq (cR [oA 22 (.load true 8) [.t 7],
 oM 23 1,
 oN (.store 8) [.t 4,.t 22],
 oM 5 23,
 oA 6 .move [.c (.int .i64 (0))]] [4,5,6])
 (.ret)))),
 [.cell 4 true 8, .tmp 5, .tmp 6], none⟩

def l186_0 : Code :=
 .seq (cR [oA 39 (.bin .lss) [.t 38,.c (.int .i64 (32))]] [1,3,4,5,6,7,8,9,10,11,38,39])
 (.seq (.cond (.t 39) (.skip)
 (.exit 2))
 (.seq (.block 3 (.seq (.seq (cR [oM 40 11,
 oA 41 (.bin .eql) [.t 40,.c (.int .i64 (0))]] [1,3,4,5,6,7,8,9,10,11,38,41])
 (.cond (.t 41) (.exit 2)
 (.skip)))
 (.seq (.seq (cR [oA 42 (.load false 1) [.t 1],
 oM 43 11,
 oA 44 (.bin .sub) [.t 43,.c (.int .i64 (1))],
 oM 45 8,
 oA 46 (.load false 1) [.t 1],
 oA 47 .lenS [.t 46],
 oA 48 (.bin .sub) [.t 47,.c (.int .i64 (5))],
 oA 49 .call [.c (.func (.func 233) #[] #[]),.t 42,.t 44,.t 45,.t 48],
 oM 12 49] [1,3,4,5,6,7,8,9,10,11,12,38])
 (.seq (cR [oM 50 12,
 oM 51 10,
 oA 52 (.bin .gtr) [.t 50,.t 51]] [1,3,4,5,6,7,8,9,10,11,12,38,52])
 (.cond (.t 52) (cR [oM 53 11,
 oA 54 (.bin .sub) [.t 53,.c (.int .i64 (1))],
 oM 55 12,
 oM 9 54,
 oM 10 55] [1,3,4,5,6,7,8,9,10,11,38])
 (.skip))))
 (cR [oA 56 (.load false 1) [.t 5],
 oM 57 11,
 oA 58 (.bin .sub) [.t 57,.c (.int .i64 (1))],
 oA 59 (.idxAddr 1) [.t 56,.t 58],
 oA 60 (.load false 1) [.t 59],
 oM 11 60] [1,3,4,5,6,7,8,9,10,11,38]))))
 (cR [oA 61 (.bin .add) [.t 38,.c (.int .i64 (1))],
 oM 38 61] [1,3,4,5,6,7,8,9,10,11,38])))
def l186_1 : Code :=
 .seq (cR [oA 81 (.bin .lss) [.t 80,.t 79]] [1,3,4,5,7,8,79,80,81])
 (.seq (.cond (.t 81) (.skip)
 (.exit 4))
 (.seq (.block 5 (.seq (cR [oM 82 7,
 oM 83 8,
 oA 84 .call [.t 82,.t 83]] [1,3,4,5,7,8,79,80])
 (cR [oM 85 8,
 oA 86 (.bin .add) [.t 85,.c (.int .i64 (1))],
 oM 8 86] [1,3,4,5,7,8,79,80])))
 (cR [oA 87 (.bin .add) [.t 80,.c (.int .i64 (1))],
 oM 80 87] [1,3,4,5,7,8,79,80])))
def l186_2 : Code :=
 .seq (.seq (cR [oM 24 8,
 oA 25 (.bin .add) [.t 24,.c (.int .i64 (12))],
 oA 26 (.load false 1) [.t 1],
 oA 27 .lenS [.t 26],
 oA 28 (.bin .leq) [.t 25,.t 27]] [1,3,4,5,6,7,8,28])
 (.cond (.t 28) (.skip)
 (.exit 0)))
 (.block 1 (.seq (cR [oA 9 .move [.c (.int .i64 (0))],
 oA 10 .move [.c (.int .i64 (0))]] [1,3,4,5,6,7,8,9,10])
 (.seq (cD [⟨[oA 29 (.load false 1) [.t 4],
 oA 30 (.load false 1) [.t 1],
 oM 31 8,
 oM 32 8,
 oA 33 (.bin .add) [.t 32,.c (.int .i64 (4))],
 oA 34 (.slice 1 true true false) [.t 30,.t 31,.t 33],
 oA 35 (.arrPtr 4) [.t 34],
 oA 36 (.load true 4) [.t 35],
 oA 37 (.lookup (some 4) (.int .i64 (0)) false) [.t 29,.t 36],
 oM 11 37],none,[],[]⟩] [29,30,31,32,33,34,35,36,37,11] [1,3,4,5,6,7,8,9,10,11])
 (.seq (.seq (cR [oA 38 .move [.c (.int .i64 (0))]] [1,3,4,5,6,7,8,9,10,11,38])
 (.block 2 (.loop [1,3,4,5,6,7,8,9,10,11,38] l186_0)))
 (.seq (.seq (cR [oM 62 10,
 oA 63 (.bin .lss) [.t 62,.c (.int .i64 (4))]] [1,3,4,5,6,7,8,9,10,63])
 (.cond (.t 63) (.seq (cR [oM 64 7,
 oM 65 8,
 oA 66 .call [.t 64,.t 65]] [1,3,4,5,6,7,8])
 (.seq (cR [oM 67 8,
 oA 68 (.bin .add) [.t 67,.c (.int .i64 (1))],
 oM 8 68] [1,3,4,5,6,7,8])
 (.exit 1)))
 (.skip)))
 (.seq (cR [oM 69 3,
 oA 70 (.load false 1) [.t 1],
 oM 71 6,
 oM 72 8,
 oA 73 (.slice 1 true true false) [.t 70,.t 71,.t 72],
 oM 74 8,
 oM 75 9,
 oA 76 (.bin .sub) [.t 74,.t 75],
 oM 77 10,
 oA 78 .call [.c (.func (.func 234) #[] #[]),.t 69,.t 73,.t 76,.t 77]] [1,3,4,5,7,8,10])
 (.seq (.seq (cR [oM 79 10,
 oA 80 .move [.c (.int .i64 (0))]] [1,3,4,5,7,8,79,80])
 (.block 4 (.loop [1,3,4,5,7,8,79,80] l186_1)))
 (cR [oM 88 8,
 oM 6 88] [1,3,4,5,6,7,8]))))))))
def f186 : Func := ⟨.seq (cR [oA 1 (.box 23 1) [.t 0],
 oA 2 .move [.c (.slice none 0 0)]] [1])
 (.seq (.seq (cR [oA 13 (.load false 1) [.t 1],
 oA 14 .lenS [.t 13],
 oA 15 (.bin .gtr) [.t 14,.c (.int .i64 (4096))]] [1,15])
 (.cond (.t 15) (.seq (cR [oA 2 .move [.c (.slice none 0 0)]] [2])
 (.ret))
 (.skip)))
 (.seq (cR [oA 16 (.load false 1) [.t 1],
 oA 17 (.build [(.slice none 0 0), (.slice none 0 0)] [(0, 1)]) [.t 16],
 oA 18 (.box 326 2) [.t 17],
 oM 3 18] [1,3])
 (.seq (cR [oA 19 .newMap [],
 oA 4 (.new 327 1 [(.map none)]) [],
 oN (.store 1) [.t 4,.t 19]] [1,3,4])
 (.seq (cR [oA 20 (.load false 1) [.t 1],
 oA 21 .lenS [.t 20],
 oA 22 (.newSlice 3 1 8 [(.int .i64 (0))]) [.t 21,.t 21],
 oA 5 (.new 92 1 [(.slice none 0 0)]) [],
 oN (.store 1) [.t 5,.t 22]] [1,3,4,5])
 (.seq (cR [oA 6 .move [.c (.int .i64 (0))]] [1,3,4,5,6])
 (.seq (cR [oA 23 (.func 232 0) [.t 1,.t 4,.t 5],
 oM 7 23] [1,3,4,5,6,7])
 (.seq (.seq (cR [oA 8 .move [.c (.int .i64 (0))]] [1,3,4,5,6,7,8])
 (.block 0 (.loop [1,3,4,5,6,7,8] l186_2)))
 (.seq (cR [oM 89 3,
 oA 90 (.load false 1) [.t 1],
 oM 91 6,
 oA 92 (.slice 1 true false false) [.t 90,.t 91],
 oA 93 .call [.c (.func (.func 234) #[] #[]),.t 89,.t 92,.c (.int .i64 (0)),.c (.int .i64 (0))]] [3])
 (.seq (cR [oM 94 3,
 oA 95 .nilCheck [.t 94],
 oA 96 (.fieldAddr 1) [.t 95],
 oA 97 (.load false 1) [.t 96],
 oA 98 .call [.c (.func (.func 50) #[] #[]),.t 97],
 oM 2 98] [2])
 (.ret)))))))))),
 [.tmp 2], none⟩

def l187_0 : Code :=
 .seq (cR [oA 20 (.bin .lss) [.t 19,.t 18]] [0,3,17,18,19,20])
 (.seq (.cond (.t 20) (.skip)
 (.exit 0))
 (.seq (.block 1 (.seq (cR [oA 21 (.idxAddr 1) [.t 17,.t 19],
 oA 22 (.load false 1) [.t 21],
 oM 5 22] [0,3,5,17,18,19])
 (cR [oM 23 5,
 oA 24 (.idxAddrA 256 1) [.t 3,.t 23],
 oA 25 (.load false 1) [.t 24],
 oA 26 (.bin .add) [.t 25,.c (.int .i64 (1))],
 oA 27 (.idxAddrA 256 1) [.t 3,.t 23],
 oN (.store 1) [.t 27,.t 26]] [0,3,17,18,19])))
 (cR [oA 28 (.bin .add) [.t 19,.c (.int .i64 (1))],
 oM 19 28] [0,3,17,18,19])))
def l187_1 : Code :=
 .seq (.seq (cD [⟨[oM 38 10,
 oA 39 (.bin .lss) [.t 38,.c (.int .i64 (16))],
 oM 40 39,
 oG (some 41) .move [.t 9] 40 true,
 oG (some 42) .move [.t 10] 40 true,
 oG (some 43) (.bin .add) [.t 41,.t 42] 40 true,
 oG (some 44) (.bin .lss) [.t 43,.c (.int .i64 (256))] 40 true,
 oA 45 .pick [.t 40,.t 44,.c (.bool false)],
 oM 46 45,
 oG (some 47) .move [.t 9] 46 true,
 oG (some 48) .move [.t 10] 46 true,
 oG (some 49) (.bin .add) [.t 47,.t 48] 46 true,
 oG (some 50) (.idxAddrA 256 1) [.t 6,.t 49] 46 true,
 oG (some 51) (.load false 1) [.t 50] 46 true,
 oG (some 52) .move [.t 9] 46 true,
 oG (some 53) (.idxAddrA 256 1) [.t 6,.t 52] 46 true,
 oG (some 54) (.load false 1) [.t 53] 46 true,
 oG (some 55) (.bin .eql) [.t 51,.t 54] 46 true,
 oA 56 .pick [.t 46,.t 55,.c (.bool false)]],none,[],[]⟩] [38,39,40,41,42,43,44,45,46,47,48,49,50,51,52,53,54,55,56] [0,6,8,9,10,56])
 (.cond (.t 56) (.skip)
 (.exit 4)))
 (.block 5 (cR [oM 57 10,
 oA 58 (.bin .add) [.t 57,.c (.int .i64 (1))],
 oM 10 58] [0,6,8,9,10]))
def l187_2 : Code :=
 .seq (.seq (cR [oM 36 9,
 oA 37 (.bin .lss) [.t 36,.c (.int .i64 (256))]] [0,6,8,9,37])
 (.cond (.t 37) (.skip)
 (.exit 2)))
 (.block 3 (.seq (cR [oA 10 .move [.c (.int .i64 (1))]] [0,6,8,9,10])
 (.seq (.block 4 (.loop [0,6,8,9,10] l187_1))
 (.seq (cD [⟨[oM 59 8,
 oM 60 8,
 oA 61 .nilCheck [.t 60],
 oA 62 (.fieldAddr 0) [.t 61],
 oA 63 (.load false 1) [.t 62],
 oM 64 9,
 oA 65 (.idxAddrA 256 1) [.t 6,.t 64],
 oA 66 (.load false 1) [.t 65],
 oA 67 (.bin .shl) [.t 66,.c (.int .u64 (4))],
 oM 68 10,
 oA 69 (.bin .sub) [.t 68,.c (.int .i64 (1))],
 oA 70 (.bin .or) [.t 67,.t 69],
 oA 71 (.toInt .u8) [.t 70]],some (oA 72 (.buildSlice 5 1 1 [(.int .u8 (0))] [(0, 1)]) [.t 71]),[63],[]⟩,
 ⟨[],some (oA 73 (.append 5 1 1) [.t 63,.t 72]),[],[]⟩,
 ⟨[oA 74 .nilCheck [.t 59],
 oA 75 (.fieldAddr 0) [.t 74]],some (oN (.store 1) [.t 75,.t 73]),[],[]⟩] [59,60,61,62,63,64,65,66,67,68,69,70,71,72,73,74,75] [0,6,8,9,10])
 (cR [oM 76 9,
 oM 77 10,
 oA 78 (.bin .add) [.t 76,.t 77],
 oM 9 78] [0,6,8,9])))))
def l187_3 : Code :=
 .seq (cR [oA 85 (.bin .lss) [.t 84,.t 83]] [6,8,11,82,83,84,85])
 (.seq (.cond (.t 85) (.skip)
 (.exit 6))
 (.seq (.block 7 (.seq (cR [oA 86 (.idxAddr 1) [.t 82,.t 84],
 oA 87 (.load false 1) [.t 86],
 oM 13 87] [6,8,11,13,82,83,84])
 (cD [⟨[oM 88 8,
 oM 89 13,
 oA 90 (.idxAddrA 256 1) [.t 11,.t 89],
 oA 91 (.load false 1) [.t 90],
 oM 92 13,
 oA 93 (.idxAddrA 256 1) [.t 6,.t 92],
 oA 94 (.load false 1) [.t 93]],some (oA 95 .call [.c (.func (.func 238) #[] #[]),.t 88,.t 91,.t 94]),[],[]⟩] [88,89,90,91,92,93,94,95] [6,8,11,82,83,84])))
 (cR [oA 96 (.bin .add) [.t 84,.c (.int .i64 (1))],
 oM 84 96] [6,8,11,82,83,84])))
def f187 : Func := ⟨.seq (cR [oA 2 .move [.c (.slice none 0 0)]] [0])
 (.seq (.seq (cR [oM 14 0,
 oA 15 .lenS [.t 14],
 oA 16 (.bin .gtr) [.t 15,.c (.int .i64 (4096))]] [0,16])
 (.cond (.t 16) (.seq (cR [oA 2 .move [.c (.slice none 0 0)]] [2])
 (.ret))
 (.skip)))
 (.seq (cR [oA 3 (.new 331 256 (List.replicate 256 (.int .i64 (0)))) []] [0,3])
 (.seq (.seq (cR [oM 17 0,
 oA 18 .lenS [.t 17],
 oA 19 .move [.c (.int .i64 (0))]] [0,3,17,18,19])
 (.block 0 (.loop [0,3,17,18,19] l187_0)))
 (.seq (cR [oA 30 (.load true 256) [.t 3],
 oA 31 .call [.c (.func (.func 235) #[] #[]),.t 30],
 oM 29 31,
 oA 32 (.extract 0) [.t 29],
 oA 33 (.extract 1) [.t 29],
 oA 6 (.new 331 256 (List.replicate 256 (.int .i64 (0)))) [],
 oN (.store 256) [.t 6,.t 32],
 oM 7 33] [0,6])
 (.seq (cR [oA 34 (.build [(.slice none 0 0), (.int .i64 (0))] []) [],
 oA 35 (.box 336 2) [.t 34],
 oM 8 35] [0,6,8])
 (.seq (.seq (cR [oA 9 .move [.c (.int .i64 (0))]] [0,6,8,9])
 (.block 2 (.loop [0,6,8,9] l187_2)))
 (.seq (cR [oA 79 (.load true 256) [.t 6],
 oA 80 .call [.c (.func (.func 236) #[] #[]),.t 79],
 oA 81 .call [.c (.func (.func 237) #[] #[]),.t 80],
 oA 11 (.new 331 256 (List.replicate 256 (.int .i64 (0)))) [],
 oN (.store 256) [.t 11,.t 81]] [0,6,8,11])
 (.seq (.seq (cR [oM 82 0,
 oA 83 .lenS [.t 82],
 oA 84 .move [.c (.int .i64 (0))]] [6,8,11,82,83,84])
 (.block 6 (.loop [6,8,11,82,83,84] l187_3)))
 (.seq (cR [oM 97 8,
 oA 98 .nilCheck [.t 97],
 oA 99 (.fieldAddr 0) [.t 98],
 oA 100 (.load false 1) [.t 99],
 oM 2 100] [2])
 (.ret)))))))))),
 [.tmp 2], none⟩

def f188 : Func := ⟨.seq (cR [oA 6 .move [.c (.bool false)]] [0,1,2])
 (.seq (cR [oM 7 1,
 oA 8 (.bin .geq) [.t 7,.c (.int .i64 (0))],
 oM 9 8,
 oG (some 10) .move [.t 2] 9 true,
 oG (some 11) (.bin .gtr) [.t 10,.c (.int .i64 (0))] 9 true,
 oA 12 .pick [.t 9,.t 11,.c (.bool false)],
 oM 13 12,
 oG (some 14) .move [.t 1] 13 true,
 oG (some 15) .move [.t 2] 13 true,
 oG (some 16) (.bin .lss) [.t 14,.t 15] 13 true,
 oA 17 .pick [.t 13,.t 16,.c (.bool false)],
 oM 18 17,
 oG (some 19) .move [.t 1] 18 true,
 oG (some 20) (.toFloat .f64) [.t 19] 18 true,
 oG (some 21) .move [.t 0] 18 true,
 oG (some 22) .call [.c (.func (.func 60) #[] #[]),.t 21] 18 true,
 oG (some 23) .move [.t 2] 18 true,
 oG (some 24) (.toFloat .f64) [.t 23] 18 true,
 oG (some 25) (.bin .mul) [.t 22,.t 24] 18 true,
 oG (some 26) (.bin .leq) [.t 20,.t 25] 18 true,
 oA 27 .pick [.t 18,.t 26,.c (.bool false)],
 oM 6 27] [6])
 (.ret)),
 [.tmp 6], none⟩

def l190_0 : Code :=
 .seq (cR [oA 6 (.bin .lss) [.t 5,.c (.int .i64 (4))]] [0,1,5,6])
 (.seq (.cond (.t 6) (.skip)
 (.exit 0))
 (.seq (.block 1 (.seq (cR [oM 7 5,
 oM 4 7] [0,1,4,5])
 (cR [oM 8 0,
 oM 9 4,
 oM 10 1,
 oM 11 4,
 oA 12 (.bin .mul) [.c (.int .i64 (8)),.t 11],
 oA 13 (.bin .shr) [.t 10,.t 12],
 oA 14 (.toInt .u8) [.t 13],
 oA 15 (.idxAddr 1) [.t 8,.t 9],
 oN (.store 1) [.t 15,.t 14]] [0,1,5])))
 (cR [oA 16 (.bin .add) [.t 5,.c (.int .i64 (1))],
 oM 5 16] [0,1,5])))
def f190 : Func := ⟨.seq (cR [oA 5 .move [.c (.int .i64 (0))]] [0,1,5])
 (.block 0 (.loop [0,1,5] l190_0)),
 [], none⟩

def f191 : Func := ⟨.seq (cR [oA 2 .move [.c (.slice none 0 0)]] [0])
 (.seq (cR [oM 3 0,
 oA 4 .call [.c (.func (.func 239) #[] #[]),.c (.slice none 0 0),.t 3],
 oM 2 4] [2])
 (.ret)),
 [.tmp 2], none⟩

def f192 : Func := ⟨.seq (cR [oM 3 0,
 oA 4 .lenS [.t 3],
 oM 2 4] [0,2])
 (cR [oM 5 0,
 oM 6 2,
 oM 7 2,
 oA 8 (.toInt .u64) [.t 7],
 oA 9 .call [.c (.func (.func 241) #[] #[]),.t 8],
 oA 10 .call [.c (.func (.func 240) #[] #[]),.t 5,.c (.int .i64 (0)),.t 6,.t 9]] []),
 [], none⟩

def f195 : Func := ⟨.seq (cR [oA 6 .move [.c (.bool false)]] [0,1,2])
 (.seq (cR [oM 7 0,
 oA 8 .call [.c (.func (.func 196) #[] #[]),.t 7,.c (.int .i64 (0)),.c (.int .i64 (8191))],
 oM 9 8,
 oG (some 10) .move [.t 1] 9 true,
 oG (some 11) .call [.c (.func (.func 196) #[] #[]),.t 10,.c (.int .i64 (1)),.c (.int .i64 (128))] 9 true,
 oA 12 .pick [.t 9,.t 11,.c (.bool false)],
 oM 13 12,
 oG (some 14) .move [.t 0] 13 true,
 oG (some 15) .move [.t 1] 13 true,
 oG (some 16) (.bin .add) [.t 14,.t 15] 13 true,
 oG (some 17) (.bin .leq) [.t 16,.c (.int .i64 (8192))] 13 true,
 oA 18 .pick [.t 13,.t 17,.c (.bool false)],
 oM 19 18,
 oG (some 20) .move [.t 2] 19 true,
 oG (some 21) .call [.c (.func (.func 196) #[] #[]),.t 20,.c (.int .i64 (0)),.c (.int .i64 (268435455))] 19 true,
 oA 22 .pick [.t 19,.t 21,.c (.bool false)],
 oM 6 22] [6])
 (.ret)),
 [.tmp 6], none⟩

def f196 : Func := ⟨.seq (cR [oA 6 .move [.c (.bool false)]] [0,1,2])
 (.seq (cR [oM 7 0,
 oM 8 1,
 oA 9 (.bin .geq) [.t 7,.t 8],
 oM 10 9,
 oG (some 11) .move [.t 0] 10 true,
 oG (some 12) .move [.t 2] 10 true,
 oG (some 13) (.bin .leq) [.t 11,.t 12] 10 true,
 oA 14 .pick [.t 10,.t 13,.c (.bool false)],
 oM 6 14] [6])
 (.ret)),
 [.tmp 6], none⟩

def l197_0 : Code :=
 .seq (cR [oA 9 (.bin .lss) [.t 8,.t 7]] [0,1,7,8,9])
 (.seq (.cond (.t 9) (.skip)
 (.exit 0))
 (.seq (.block 1 (.seq (cR [oM 10 8,
 oM 5 10] [0,1,5,7,8])
 (.seq (cR [oM 11 1,
 oM 12 0,
 oM 13 5,
 oA 14 (.idxAddr 5) [.t 12,.t 13],
 oA 15 (.load true 5) [.t 14],
 oA 16 .call [.t 11,.t 15]] [0,1,5,7,8,16])
 (.cond (.t 16) (.seq (cR [oM 17 5,
 oM 4 17] [4])
 (.ret))
 (.skip)))))
 (cR [oA 18 (.bin .add) [.t 8,.c (.int .i64 (1))],
 oM 8 18] [0,1,7,8])))
def f197 : Func := ⟨.seq (cR [oA 4 .move [.c (.int .i64 (0))]] [0,1])
 (.seq (.seq (cR [oM 6 0,
 oA 7 .lenS [.t 6],
 oA 8 .move [.c (.int .i64 (0))]] [0,1,7,8])
 (.block 0 (.loop [0,1,7,8] l197_0)))
 (.seq (cR [oA 4 .move [.c (.int .i64 (-1))]] [4])
 (.ret))),
 [.tmp 4], none⟩

def l198_0 : Code :=
 .seq (cR [oA 9 (.bin .lss) [.t 8,.t 7]] [0,1,7,8,9])
 (.seq (.cond (.t 9) (.skip)
 (.exit 0))
 (.seq (.block 1 (.seq (cR [oM 10 8,
 oM 5 10] [0,1,5,7,8])
 (.seq (cR [oM 11 1,
 oM 12 0,
 oM 13 5,
 oA 14 (.idxAddr 1) [.t 12,.t 13],
 oA 15 (.load false 1) [.t 14],
 oA 16 .call [.t 11,.t 15]] [0,1,5,7,8,16])
 (.cond (.t 16) (.seq (cR [oM 17 5,
 oM 4 17] [4])
 (.ret))
 (.skip)))))
 (cR [oA 18 (.bin .add) [.t 8,.c (.int .i64 (1))],
 oM 8 18] [0,1,7,8])))
def f198 : Func := ⟨.seq (cR [oA 4 .move [.c (.int .i64 (0))]] [0,1])
 (.seq (.seq (cR [oM 6 0,
 oA 7 .lenS [.t 6],
 oA 8 .move [.c (.int .i64 (0))]] [0,1,7,8])
 (.block 0 (.loop [0,1,7,8] l198_0)))
 (.seq (cR [oA 4 .move [.c (.int .i64 (-1))]] [4])
 (.ret))),
 [.tmp 4], none⟩

def f199 : Func := ⟨.seq (cR [oM 1 4] [0,1])
 (.seq (cR [oM 5 1,
 oA 6 (.isNil .iface true) [.t 5]] [0,1,6])
 (.cond (.t 6) (.seq (cR [oM 8 1,
 oA 9 (.assert 293 (.agg #[(.int .i64 (0))]) true) [.t 8],
 oM 7 9,
 oA 10 (.extract 0) [.t 7],
 oA 11 (.extract 1) [.t 7],
 oA 2 (.new 293 1 [(.int .i64 (0))]) [],
 oN (.store 1) [.t 2,.t 10],
 oM 3 11] [0,1,2,3])
 (.seq (.seq (cR [oM 12 3,
 oA 13 (.un .not) [.t 12]] [0,1,2,13])
 (.cond (.t 13) (cR [oM 14 1,
 oN .panic [.t 14]] [0,2])
 (.skip)))
 (cR [oA 15 (.fieldAddr 0) [.t 2],
 oA 16 (.load false 1) [.t 15],
 oN (.store 1) [.t 0,.t 16]] [])))
 (.skip))),
 [], some 4⟩

def f200 : Func := ⟨.seq (cR [oM 4 0,
 oA 5 (.un .not) [.t 4]] [1,5])
 (.cond (.t 5) (cR [oM 6 1,
 oA 7 (.build [(.int .i64 (0))] [(0, 1)]) [.t 6],
 oA 8 (.iface 293) [.t 7],
 oN .panic [.t 8]] [])
 (.skip)),
 [], none⟩

def f201 : Func := ⟨.seq (cR [oA 2 .move [.c (.slice none 0 0)]] [0])
 (.seq (.seq (cR [oM 3 0,
 oA 4 (.isNil .slice false) [.t 3]] [0,4])
 (.cond (.t 4) (.seq (cR [oA 2 .move [.c (.slice none 0 0)]] [2])
 (.ret))
 (.skip)))
 (.seq (cR [oA 5 (.buildSlice 3 1 0 [] []) [],
 oM 6 0,
 oA 7 (.append 3 1 8) [.t 5,.t 6],
 oM 2 7] [2])
 (.ret))),
 [.tmp 2], none⟩

def f202 : Func := ⟨.seq (cR [oA 2 .move [.c (.slice none 0 0)]] [0])
 (.seq (.seq (cR [oM 3 0,
 oA 4 (.isNil .slice false) [.t 3]] [0,4])
 (.cond (.t 4) (.seq (cR [oA 2 .move [.c (.slice none 0 0)]] [2])
 (.ret))
 (.skip)))
 (.seq (cR [oA 5 (.buildSlice 68 3 0 [] []) [],
 oM 6 0,
 oA 7 (.append 68 3 24) [.t 5,.t 6],
 oM 2 7] [2])
 (.ret))),
 [.tmp 2], none⟩

def f203 : Func := ⟨.seq (cR [oA 2 .move [.c (.slice none 0 0)]] [0])
 (.seq (.seq (cR [oM 3 0,
 oA 4 (.isNil .slice false) [.t 3]] [0,4])
 (.cond (.t 4) (.seq (cR [oA 2 .move [.c (.slice none 0 0)]] [2])
 (.ret))
 (.skip)))
 (.seq (cR [oA 5 (.buildSlice 111 3 0 [] []) [],
 oM 6 0,
 oA 7 (.append 111 3 24) [.t 5,.t 6],
 oM 2 7] [2])
 (.ret))),
 [.tmp 2], none⟩

def f204 : Func := ⟨.seq (cR [oA 6 .move [.c (.slice none 0 0)]] [0,1,2])
 (.seq (cR [oM 8 0,
 oM 9 1,
 oM 10 2,
 oM 11 0,
 oA 12 .lenS [.t 11],
 oA 13 (.slice 1 true true true) [.t 8,.t 9,.t 10,.t 12]] [0,1,2])
 (.seq (.seq (cR [oM 14 1,
 oM 15 2,
 oA 16 (.bin .eql) [.t 14,.t 15]] [0,1,2,16])
 (.cond (.t 16) (.seq (cR [oM 17 0,
 oM 6 17] [6])
 (.ret))
 (.skip)))
 (.seq (cR [oM 18 0,
 oA 19 .lenS [.t 18],
 oM 7 19] [0,1,2,7])
 (.seq (cD [⟨[oM 20 0,
 oM 21 1,
 oA 22 (.slice 1 false true false) [.t 20,.t 21],
 oM 23 0,
 oM 24 2,
 oA 25 (.slice 1 true false false) [.t 23,.t 24]],some (oA 26 (.append 3 1 8) [.t 22,.t 25]),[],[]⟩,
 ⟨[oM 0 26],none,[],[]⟩] [20,21,22,23,24,25,26,0] [0,7])
 (.seq (cR [oM 27 0,
 oM 28 0,
 oA 29 .lenS [.t 28],
 oM 30 7,
 oA 31 (.slice 1 true true false) [.t 27,.t 29,.t 30],
 oN (.clearS [(.int .i64 (0))]) [.t 31]] [0])
 (.seq (cR [oM 32 0,
 oM 6 32] [6])
 (.ret))))))),
 [.tmp 6], none⟩

def f205 : Func := ⟨.seq (cR [oA 6 .move [.c (.slice none 0 0)]] [0,1,2])
 (.seq (cR [oM 8 0,
 oM 9 1,
 oM 10 2,
 oM 11 0,
 oA 12 .lenS [.t 11],
 oA 13 (.slice 3 true true true) [.t 8,.t 9,.t 10,.t 12]] [0,1,2])
 (.seq (.seq (cR [oM 14 1,
 oM 15 2,
 oA 16 (.bin .eql) [.t 14,.t 15]] [0,1,2,16])
 (.cond (.t 16) (.seq (cR [oM 17 0,
 oM 6 17] [6])
 (.ret))
 (.skip)))
 (.seq (cR [oM 18 0,
 oA 19 .lenS [.t 18],
 oM 7 19] [0,1,2,7])
 (.seq (cD [⟨[oM 20 0,
 oM 21 1,
 oA 22 (.slice 3 false true false) [.t 20,.t 21],
 oM 23 0,
 oM 24 2,
 oA 25 (.slice 3 true false false) [.t 23,.t 24]],some (oA 26 (.append 68 3 24) [.t 22,.t 25]),[],[]⟩,
 ⟨[oM 0 26],none,[],[]⟩] [20,21,22,23,24,25,26,0] [0,7])
 (.seq (cR [oM 27 0,
 oM 28 0,
 oA 29 .lenS [.t 28],
 oM 30 7,
 oA 31 (.slice 3 true true false) [.t 27,.t 29,.t 30],
 oN (.clearS [(.int .i64 (0)), (.int .i64 (0)), (.int .i64 (0))]) [.t 31]] [0])
 (.seq (cR [oM 32 0,
 oM 6 32] [6])
 (.ret))))))),
 [.tmp 6], none⟩

def f206 : Func := ⟨.seq (cR [oA 6 .move [.c (.pointer none)]] [0,1,2])
 (.seq (.seq (cR [oM 7 1,
 oA 8 .nilCheck [.t 7],
 oA 9 (.fieldAddr 7) [.t 8],
 oA 10 (.load false 1) [.t 9],
 oM 11 2,
 oA 12 (.idxAddr 1) [.t 10,.t 11],
 oA 13 (.load false 1) [.t 12],
 oA 14 (.isNil .ptr false) [.t 13]] [0,1,2,14])
 (.cond (.t 14) (cD [⟨[oM 15 1,
 oA 16 .nilCheck [.t 15],
 oA 17 (.fieldAddr 7) [.t 16],
 oA 18 (.load false 1) [.t 17],
 oM 19 2,
 oM 20 0,
 oM 21 1,
 oA 22 .nilCheck [.t 21],
 oA 23 (.fieldAddr 0) [.t 22],
 oA 24 (.fieldAddr 4) [.t 23],
 oA 25 (.load false 1) [.t 24],
 oM 26 2,
 oA 27 (.idxAddr 3) [.t 25,.t 26],
 oA 28 (.load true 3) [.t 27],
 oM 29 1,
 oA 30 .nilCheck [.t 29],
 oA 31 (.fieldAddr 0) [.t 30],
 oA 32 (.fieldAddr 0) [.t 31],
 oA 33 (.load false 1) [.t 32],
 oA 34 (.bin .sub) [.t 33,.c (.int .i64 (1))],
 oM 35 1,
 oA 36 .nilCheck [.t 35],
 oA 37 (.fieldAddr 0) [.t 36],
 oA 38 (.fieldAddr 1) [.t 37],
 oA 39 (.load false 1) [.t 38],
 oM 40 2,
 oA 41 (.idxAddr 1) [.t 39,.t 40],
 oA 42 (.load false 1) [.t 41],
 oM 43 1,
 oA 44 .nilCheck [.t 43],
 oA 45 (.fieldAddr 0) [.t 44],
 oA 46 (.load true 5) [.t 45],
 oM 47 2,
 oM 48 1,
 oA 49 .nilCheck [.t 48],
 oA 50 (.fieldAddr 6) [.t 49],
 oA 51 (.load false 1) [.t 50]],some (oA 52 .call [.c (.func (.func 93) #[] #[]),.t 46,.t 47,.t 51]),[18,25,28,33,39,42],[]⟩,
 ⟨[],some (oA 53 .call [.c (.func (.func 144) #[] #[]),.t 20,.t 28,.t 34,.t 42,.t 52]),[18],[]⟩,
 ⟨[oA 54 (.idxAddr 1) [.t 18,.t 19]],some (oN (.store 1) [.t 54,.t 53]),[],[]⟩] [15,16,17,18,19,20,21,22,23,24,25,26,27,28,29,30,31,32,33,34,35,36,37,38,39,40,41,42,43,44,45,46,47,48,49,50,51,52,53,54] [1,2])
 (.skip)))
 (.seq (cR [oM 55 1,
 oA 56 .nilCheck [.t 55],
 oA 57 (.fieldAddr 7) [.t 56],
 oA 58 (.load false 1) [.t 57],
 oM 59 2,
 oA 60 (.idxAddr 1) [.t 58,.t 59],
 oA 61 (.load false 1) [.t 60],
 oM 6 61] [6])
 (.ret))),
 [.tmp 6], none⟩

def f207 : Func := ⟨.seq (.seq (cR [oM 9 1,
 oA 10 .nilCheck [.t 9],
 oA 11 (.fieldAddr 0) [.t 10],
 oA 12 (.fieldAddr 1) [.t 11],
 oA 13 (.load false 1) [.t 12],
 oA 14 .lenS [.t 13],
 oA 15 (.bin .eql) [.t 14,.c (.int .i64 (1))]] [0,1,2,15])
 (.cond (.t 15) (.seq (.seq (cR [oM 16 1,
 oA 17 .nilCheck [.t 16],
 oA 18 (.fieldAddr 7) [.t 17],
 oA 19 (.load false 1) [.t 18],
 oA 20 (.idxAddr 1) [.t 19,.c (.int .i64 (0))],
 oA 21 (.load false 1) [.t 20],
 oA 22 .nilCheck [.t 21],
 oA 23 (.fieldAddr 0) [.t 22],
 oA 24 (.fieldAddr 1) [.t 23],
 oA 25 (.load false 1) [.t 24],
 oA 26 .lenS [.t 25],
 oA 27 (.bin .eql) [.t 26,.c (.int .i64 (0))]] [1,27])
 (.cond (.t 27) (cR [oM 28 1,
 oA 29 .call [.c (.func (.func 242) #[] #[]),.t 28,.c (.int .i64 (0))]] [])
 (.skip)))
 (.ret))
 (.skip)))
 (.seq (cR [oM 30 2,
 oM 31 1,
 oA 32 .nilCheck [.t 31],
 oA 33 (.fieldAddr 0) [.t 32],
 oA 34 (.fieldAddr 1) [.t 33],
 oA 35 (.load false 1) [.t 34],
 oA 36 .lenS [.t 35],
 oA 37 (.bin .sub) [.t 36,.c (.int .i64 (2))],
 oA 38 .min [.t 30,.t 37],
 oM 2 38] [0,1,2])
 (.seq (cR [oM 39 0,
 oM 40 1,
 oM 41 2,
 oA 42 .call [.c (.func (.func 206) #[] #[]),.t 39,.t 40,.t 41],
 oM 43 0,
 oM 44 1,
 oM 45 2,
 oA 46 (.bin .add) [.t 45,.c (.int .i64 (1))],
 oA 47 .call [.c (.func (.func 206) #[] #[]),.t 43,.t 44,.t 46],
 oM 6 42,
 oM 7 47] [1,2,6,7])
 (.seq (cR [oM 48 6,
 oM 49 7,
 oA 50 .call [.c (.func (.func 243) #[] #[]),.t 48,.t 49]] [1,2,6])
 (.seq (cR [oM 51 1,
 oM 52 2,
 oA 53 (.bin .add) [.t 52,.c (.int .i64 (1))],
 oA 54 .call [.c (.func (.func 242) #[] #[]),.t 51,.t 53]] [1,2,6])
 (.seq (.seq (cR [oM 55 6,
 oA 56 .nilCheck [.t 55],
 oA 57 (.fieldAddr 0) [.t 56],
 oA 58 (.fieldAddr 1) [.t 57],
 oA 59 (.load false 1) [.t 58],
 oA 60 .lenS [.t 59],
 oM 8 60] [1,2,6,8])
 (.seq (cR [oM 61 8,
 oA 62 (.bin .gtr) [.t 61,.c (.int .i64 (8))]] [1,2,6,8,62])
 (.cond (.t 62) (cR [oM 63 1,
 oM 64 2,
 oA 65 (.bin .add) [.t 64,.c (.int .i64 (1))],
 oM 66 6,
 oM 67 8,
 oA 68 (.bin .quo) [.t 67,.c (.int .i64 (2))],
 oA 69 .call [.c (.func (.func 244) #[] #[]),.t 66,.t 68],
 oA 70 .call [.c (.func (.func 211) #[] #[]),.t 63,.t 65,.t 69]] [1,2,6])
 (.skip))))
 (.seq (cR [oM 71 6,
 oA 72 .nilCheck [.t 71],
 oA 73 (.fieldAddr 0) [.t 72],
 oA 74 (.fieldAddr 1) [.t 73],
 oA 75 (.load false 1) [.t 74],
 oA 76 .lenS [.t 75],
 oA 77 (.bin .eql) [.t 76,.c (.int .i64 (0))]] [1,2,77])
 (.cond (.t 77) (cR [oM 78 1,
 oM 79 2,
 oA 80 .call [.c (.func (.func 242) #[] #[]),.t 78,.t 79]] [])
 (.skip)))))))),
 [], none⟩

def f208 : Func := ⟨.seq (cR [oA 6 .move [.c (.slice none 0 0)]] [0,1,2])
 (.seq (cR [oM 10 0,
 oM 11 1,
 oA 12 (.slice 1 true false false) [.t 10,.t 11]] [0,1,2])
 (.seq (cR [oM 13 2,
 oA 14 .lenS [.t 13],
 oM 7 14] [0,1,2,7])
 (.seq (.seq (cR [oM 15 7,
 oA 16 (.bin .eql) [.t 15,.c (.int .i64 (0))]] [0,1,2,7,16])
 (.cond (.t 16) (.seq (cR [oM 17 0,
 oM 6 17] [6])
 (.ret))
 (.skip)))
 (.seq (cR [oM 18 0,
 oA 19 .lenS [.t 18],
 oM 8 19] [0,1,2,7,8])
 (.seq (.seq (cR [oM 20 1,
 oM 21 8,
 oA 22 (.bin .eql) [.t 20,.t 21]] [0,1,2,7,8,22])
 (.cond (.t 22) (.seq (cR [oM 23 0,
 oM 24 2,
 oA 25 (.append 3 1 8) [.t 23,.t 24],
 oM 6 25] [6])
 (.ret))
 (.skip)))
 (.seq (.seq (cR [oM 26 8,
 oM 27 7,
 oA 28 (.bin .add) [.t 26,.t 27],
 oM 29 0,
 oA 30 .cap [.t 29],
 oA 31 (.bin .gtr) [.t 28,.t 30]] [0,1,2,7,8,31])
 (.cond (.t 31) (.seq (cR [oM 32 0,
 oM 33 1,
 oA 34 (.slice 1 false true false) [.t 32,.t 33],
 oM 35 8,
 oM 36 7,
 oA 37 (.bin .add) [.t 35,.t 36],
 oM 38 1,
 oA 39 (.bin .sub) [.t 37,.t 38],
 oA 40 (.appendZ 3 1 8 [(.int .i64 (0))]) [.t 34,.t 39],
 oM 9 40] [0,1,2,7,9])
 (.seq (cR [oM 41 9,
 oM 42 1,
 oA 43 (.slice 1 true false false) [.t 41,.t 42],
 oM 44 2,
 oA 45 (.copy 1) [.t 43,.t 44]] [0,1,7,9])
 (.seq (cD [⟨[oM 46 9,
 oM 47 1,
 oM 48 7,
 oA 49 (.bin .add) [.t 47,.t 48],
 oA 50 (.slice 1 true false false) [.t 46,.t 49],
 oM 51 0,
 oM 52 1,
 oA 53 (.slice 1 true false false) [.t 51,.t 52]],some (oA 54 (.copy 1) [.t 50,.t 53]),[],[]⟩] [46,47,48,49,50,51,52,53,54] [9])
 (.seq (cR [oM 55 9,
 oM 6 55] [6])
 (.ret)))))
 (.skip)))
 (.seq (cR [oM 56 0,
 oM 57 8,
 oM 58 7,
 oA 59 (.bin .add) [.t 57,.t 58],
 oA 60 (.slice 1 false true false) [.t 56,.t 59],
 oM 0 60] [0,1,2,7,8])
 (.seq (.seq (cR [oM 61 2,
 oM 62 0,
 oM 63 1,
 oM 64 7,
 oA 65 (.bin .add) [.t 63,.t 64],
 oA 66 (.slice 1 true false false) [.t 62,.t 65],
 oA 67 .overlaps [.t 61,.t 66],
 oA 68 (.un .not) [.t 67]] [0,1,2,7,8,68])
 (.cond (.t 68) (.seq (cD [⟨[oM 69 0,
 oM 70 1,
 oM 71 7,
 oA 72 (.bin .add) [.t 70,.t 71],
 oA 73 (.slice 1 true false false) [.t 69,.t 72],
 oM 74 0,
 oM 75 1,
 oA 76 (.slice 1 true false false) [.t 74,.t 75]],some (oA 77 (.copy 1) [.t 73,.t 76]),[],[]⟩] [69,70,71,72,73,74,75,76,77] [0,1,2])
 (.seq (cR [oM 78 0,
 oM 79 1,
 oA 80 (.slice 1 true false false) [.t 78,.t 79],
 oM 81 2,
 oA 82 (.copy 1) [.t 80,.t 81]] [0])
 (.seq (cR [oM 83 0,
 oM 6 83] [6])
 (.ret))))
 (.skip)))
 (.seq (cR [oM 84 0,
 oM 85 8,
 oA 86 (.slice 1 true false false) [.t 84,.t 85],
 oM 87 2,
 oA 88 (.copy 1) [.t 86,.t 87]] [0,1,7])
 (.seq (cR [oM 89 0,
 oM 90 1,
 oA 91 (.slice 1 true false false) [.t 89,.t 90],
 oM 92 7,
 oA 93 .call [.c (.func (.func 246) #[] #[]),.t 91,.t 92]] [0])
 (.seq (cR [oM 94 0,
 oM 6 94] [6])
 (.ret)))))))))))),
 [.tmp 6], none⟩

def f209 : Func := ⟨.seq (cR [oA 6 .move [.c (.slice none 0 0)]] [0,1,2])
 (.seq (cR [oM 10 0,
 oM 11 1,
 oA 12 (.slice 3 true false false) [.t 10,.t 11]] [0,1,2])
 (.seq (cR [oM 13 2,
 oA 14 .lenS [.t 13],
 oM 7 14] [0,1,2,7])
 (.seq (.seq (cR [oM 15 7,
 oA 16 (.bin .eql) [.t 15,.c (.int .i64 (0))]] [0,1,2,7,16])
 (.cond (.t 16) (.seq (cR [oM 17 0,
 oM 6 17] [6])
 (.ret))
 (.skip)))
 (.seq (cR [oM 18 0,
 oA 19 .lenS [.t 18],
 oM 8 19] [0,1,2,7,8])
 (.seq (.seq (cR [oM 20 1,
 oM 21 8,
 oA 22 (.bin .eql) [.t 20,.t 21]] [0,1,2,7,8,22])
 (.cond (.t 22) (.seq (cR [oM 23 0,
 oM 24 2,
 oA 25 (.append 68 3 24) [.t 23,.t 24],
 oM 6 25] [6])
 (.ret))
 (.skip)))
 (.seq (.seq (cR [oM 26 8,
 oM 27 7,
 oA 28 (.bin .add) [.t 26,.t 27],
 oM 29 0,
 oA 30 .cap [.t 29],
 oA 31 (.bin .gtr) [.t 28,.t 30]] [0,1,2,7,8,31])
 (.cond (.t 31) (.seq (cR [oM 32 0,
 oM 33 1,
 oA 34 (.slice 3 false true false) [.t 32,.t 33],
 oM 35 8,
 oM 36 7,
 oA 37 (.bin .add) [.t 35,.t 36],
 oM 38 1,
 oA 39 (.bin .sub) [.t 37,.t 38],
 oA 40 (.appendZ 68 3 24 [(.int .i64 (0)), (.int .i64 (0)), (.int .i64 (0))]) [.t 34,.t 39],
 oM 9 40] [0,1,2,7,9])
 (.seq (cR [oM 41 9,
 oM 42 1,
 oA 43 (.slice 3 true false false) [.t 41,.t 42],
 oM 44 2,
 oA 45 (.copy 3) [.t 43,.t 44]] [0,1,7,9])
 (.seq (cD [⟨[oM 46 9,
 oM 47 1,
 oM 48 7,
 oA 49 (.bin .add) [.t 47,.t 48],
 oA 50 (.slice 3 true false false) [.t 46,.t 49],
 oM 51 0,
 oM 52 1,
 oA 53 (.slice 3 true false false) [.t 51,.t 52]],some (oA 54 (.copy 3) [.t 50,.t 53]),[],[]⟩] [46,47,48,49,50,51,52,53,54] [9])
 (.seq (cR [oM 55 9,
 oM 6 55] [6])
 (.ret)))))
 (.skip)))
 (.seq (cR [oM 56 0,
 oM 57 8,
 oM 58 7,
 oA 59 (.bin .add) [.t 57,.t 58],
 oA 60 (.slice 3 false true false) [.t 56,.t 59],
 oM 0 60] [0,1,2,7,8])
 (.seq (.seq (cR [oM 61 2,
 oM 62 0,
 oM 63 1,
 oM 64 7,
 oA 65 (.bin .add) [.t 63,.t 64],
 oA 66 (.slice 3 true false false) [.t 62,.t 65],
 oA 67 .overlaps [.t 61,.t 66],
 oA 68 (.un .not) [.t 67]] [0,1,2,7,8,68])
 (.cond (.t 68) (.seq (cD [⟨[oM 69 0,
 oM 70 1,
 oM 71 7,
 oA 72 (.bin .add) [.t 70,.t 71],
 oA 73 (.slice 3 true false false) [.t 69,.t 72],
 oM 74 0,
 oM 75 1,
 oA 76 (.slice 3 true false false) [.t 74,.t 75]],some (oA 77 (.copy 3) [.t 73,.t 76]),[],[]⟩] [69,70,71,72,73,74,75,76,77] [0,1,2])
 (.seq (cR [oM 78 0,
 oM 79 1,
 oA 80 (.slice 3 true false false) [.t 78,.t 79],
 oM 81 2,
 oA 82 (.copy 3) [.t 80,.t 81]] [0])
 (.seq (cR [oM 83 0,
 oM 6 83] [6])
 (.ret))))
 (.skip)))
 (.seq (cR [oM 84 0,
 oM 85 8,
 oA 86 (.slice 3 true false false) [.t 84,.t 85],
 oM 87 2,
 oA 88 (.copy 3) [.t 86,.t 87]] [0,1,7])
 (.seq (cR [oM 89 0,
 oM 90 1,
 oA 91 (.slice 3 true false false) [.t 89,.t 90],
 oM 92 7,
 oA 93 .call [.c (.func (.func 248) #[] #[]),.t 91,.t 92]] [0])
 (.seq (cR [oM 94 0,
 oM 6 94] [6])
 (.ret)))))))))))),
 [.tmp 6], none⟩

def f210 : Func := ⟨.seq (cR [oA 2 .move [.c (.pointer none)]] [0])
 (.seq (cR [oM 4 0,
 oA 5 .nilCheck [.t 4],
 oA 6 (.fieldAddr 0) [.t 5],
 oA 7 (.fieldAddr 1) [.t 6],
 oA 8 (.load false 1) [.t 7],
 oA 9 .lenS [.t 8],
 oA 10 (.bin .quo) [.t 9,.c (.int .i64 (2))],
 oM 3 10] [0,3])
 (.seq (cR [oM 11 0,
 oM 12 3,
 oA 13 .call [.c (.func (.func 244) #[] #[]),.t 11,.t 12],
 oM 2 13] [2])
 (.ret))),
 [.tmp 2], none⟩

def f211 : Func := ⟨.seq (cD [⟨[oM 6 0,
 oM 7 0,
 oA 8 .nilCheck [.t 7],
 oA 9 (.fieldAddr 0) [.t 8],
 oA 10 (.fieldAddr 1) [.t 9],
 oA 11 (.load false 1) [.t 10],
 oM 12 1,
 oM 13 2,
 oA 14 .nilCheck [.t 13],
 oA 15 (.fieldAddr 5) [.t 14],
 oA 16 (.load false 1) [.t 15]],some (oA 17 (.buildSlice 3 1 1 [(.int .i64 (0))] [(0, 1)]) [.t 16]),[11],[]⟩,
 ⟨[],some (oA 18 .call [.c (.func (.func 208) #[] #[]),.t 11,.t 12,.t 17]),[],[]⟩,
 ⟨[oA 19 .nilCheck [.t 6],
 oA 20 (.fieldAddr 0) [.t 19],
 oA 21 (.fieldAddr 1) [.t 20]],some (oN (.store 1) [.t 21,.t 18]),[],[]⟩] [6,7,8,9,10,11,12,13,14,15,16,17,18,19,20,21] [0,1,2])
 (.seq (cD [⟨[oM 22 0,
 oM 23 0,
 oA 24 .nilCheck [.t 23],
 oA 25 (.fieldAddr 0) [.t 24],
 oA 26 (.fieldAddr 4) [.t 25],
 oA 27 (.load false 1) [.t 26],
 oM 28 1,
 oM 29 2,
 oA 30 .nilCheck [.t 29],
 oA 31 (.fieldAddr 8) [.t 30],
 oA 32 (.load true 3) [.t 31]],some (oA 33 (.buildSlice 111 3 1 [(.int .i64 (0)), (.int .i64 (0)), (.int .i64 (0))] [(0, 3)]) [.t 32]),[27],[]⟩,
 ⟨[],some (oA 34 .call [.c (.func (.func 249) #[] #[]),.t 27,.t 28,.t 33]),[],[]⟩,
 ⟨[oA 35 .nilCheck [.t 22],
 oA 36 (.fieldAddr 0) [.t 35],
 oA 37 (.fieldAddr 4) [.t 36]],some (oN (.store 1) [.t 37,.t 34]),[],[]⟩] [22,23,24,25,26,27,28,29,30,31,32,33,34,35,36,37] [0,1,2])
 (.seq (cR [oM 38 0,
 oM 39 0,
 oA 40 .nilCheck [.t 39],
 oA 41 (.fieldAddr 7) [.t 40],
 oA 42 (.load false 1) [.t 41],
 oM 43 1,
 oM 44 2,
 oA 45 (.buildSlice 236 1 1 [(.pointer none)] [(0, 1)]) [.t 44],
 oA 46 .call [.c (.func (.func 250) #[] #[]),.t 42,.t 43,.t 45],
 oA 47 .nilCheck [.t 38],
 oA 48 (.fieldAddr 7) [.t 47],
 oN (.store 1) [.t 48,.t 46]] [0])
 (cR [oM 49 0,
 oA 50 .nilCheck [.t 49],
 oA 51 (.fieldAddr 11) [.t 50],
 oN (.store 1) [.t 51,.c (.bool true)]] []))),
 [], none⟩

def f212 : Func := ⟨.seq (cR [oA 3 (.box 180 1) [.t 0],
 oA 4 (.box 113 4) [.t 1],
 oA 5 (.box 307 1) [.t 2],
 oA 6 .move [.c (.int .i64 (0))]] [3,4,5])
 (.seq (.seq (cR [oA 7 (.load false 1) [.t 3],
 oA 8 (.isNil .iface false) [.t 7]] [3,4,5,8])
 (.cond (.t 8) (.seq (cR [oA 6 .move [.c (.int .i64 (1))]] [6])
 (.ret))
 (.skip)))
 (.seq (cR [oA 9 (.func 251 0) [.t 3,.t 4,.t 5],
 oA 10 .call [.c (.func (.func 142) #[] #[]),.t 9],
 oM 6 10] [6])
 (.ret))),
 [.tmp 6], none⟩

def f213 : Func := ⟨.seq (cR [oA 3 (.box 111 3) [.t 0],
 oA 4 (.box 171 5) [.t 1]] [2,3])
 (cR [oA 5 (.load false 1) [.t 2],
 oA 6 (.load true 3) [.t 3],
 oA 7 (.buildSlice 111 3 1 [(.int .i64 (0)), (.int .i64 (0)), (.int .i64 (0))] [(0, 3)]) [.t 6],
 oA 8 (.append 111 3 24) [.t 5,.t 7],
 oN (.store 1) [.t 2,.t 8]] []),
 [], none⟩

def l214_0 : Code :=
 .seq (cR [oA 10 (.bin .lss) [.t 9,.t 8]] [2,4,8,9,10])
 (.seq (.cond (.t 10) (.skip)
 (.exit 0))
 (.seq (.block 1 (.seq (cR [oM 11 9,
 oM 5 11] [2,4,5,8,9])
 (cD [⟨[oA 12 (.load false 1) [.t 2],
 oA 13 (.load true 5) [.t 4],
 oM 14 5],some (oA 15 .call [.c (.func (.func 100) #[] #[]),.t 13,.t 14]),[12],[]⟩,
 ⟨[],some (oA 16 (.buildSlice 70 5 1 [(.int .i64 (0)), (.int .i64 (0)), (.int .i64 (0)), (.int .i64 (0)), (.int .i64 (0))] [(0, 5)]) [.t 15]),[12],[]⟩,
 ⟨[],some (oA 17 (.append 70 5 40) [.t 12,.t 16]),[],[]⟩,
 ⟨[],some (oN (.store 1) [.t 2,.t 17]),[],[]⟩] [12,13,14,15,16,17] [2,4,8,9])))
 (cR [oA 18 (.bin .add) [.t 9,.c (.int .i64 (1))],
 oM 9 18] [2,4,8,9])))
def f214 : Func := ⟨.seq (cR [oA 3 (.box 111 3) [.t 0],
 oA 4 (.box 171 5) [.t 1]] [2,4])
 (.seq (cR [oA 6 (.fieldAddr 2) [.t 4],
 oA 7 (.load false 1) [.t 6],
 oA 8 .lenS [.t 7],
 oA 9 .move [.c (.int .i64 (0))]] [2,4,8,9])
 (.block 0 (.loop [2,4,8,9] l214_0))),
 [], none⟩

def l215_0 : Code :=
 .seq (.seq (cR [oM 11 8,
 oM 12 1,
 oA 13 (.bin .leq) [.t 11,.t 12]] [0,1,2,6,7,8,13])
 (.cond (.t 13) (.skip)
 (.exit 0)))
 (.block 1 (.seq (cR [oM 14 0,
 oM 15 7,
 oM 16 8,
 oM 17 2,
 oA 18 .call [.c (.func (.func 253) #[] #[]),.t 14,.t 15,.t 16,.t 17]] [0,1,2,6,8])
 (.seq (cR [oM 19 8,
 oM 7 19] [0,1,2,6,7,8])
 (cR [oM 20 8,
 oM 21 6,
 oA 22 (.bin .add) [.t 20,.t 21],
 oM 8 22] [0,1,2,6,7,8]))))
def l215_1 : Code :=
 .seq (.seq (cR [oM 33 8,
 oM 34 1,
 oA 35 (.bin .leq) [.t 33,.t 34]] [0,1,2,6,7,8,35])
 (.cond (.t 35) (.skip)
 (.exit 4)))
 (.block 5 (.seq (cR [oM 36 0,
 oM 37 7,
 oM 38 7,
 oM 39 6,
 oA 40 (.bin .add) [.t 38,.t 39],
 oM 41 8,
 oM 42 2,
 oA 43 .call [.c (.func (.func 254) #[] #[]),.t 36,.t 37,.t 40,.t 41,.t 42]] [0,1,2,6,8])
 (.seq (cR [oM 44 8,
 oM 7 44] [0,1,2,6,7,8])
 (cR [oM 45 8,
 oM 46 6,
 oA 47 (.bin .mul) [.c (.int .i64 (2)),.t 46],
 oA 48 (.bin .add) [.t 45,.t 47],
 oM 8 48] [0,1,2,6,7,8]))))
def l215_2 : Code :=
 .seq (.seq (cR [oM 28 6,
 oM 29 1,
 oA 30 (.bin .lss) [.t 28,.t 29]] [0,1,2,6,30])
 (.cond (.t 30) (.skip)
 (.exit 2)))
 (.block 3 (.seq (cR [oM 31 6,
 oA 32 (.bin .mul) [.c (.int .i64 (2)),.t 31],
 oA 7 .move [.c (.int .i64 (0))],
 oM 8 32] [0,1,2,6,7,8])
 (.seq (.block 4 (.loop [0,1,2,6,7,8] l215_1))
 (.seq (.seq (cR [oM 49 7,
 oM 50 6,
 oA 51 (.bin .add) [.t 49,.t 50],
 oM 9 51] [0,1,2,6,7,9])
 (.seq (cR [oM 52 9,
 oM 53 1,
 oA 54 (.bin .lss) [.t 52,.t 53]] [0,1,2,6,7,9,54])
 (.cond (.t 54) (cR [oM 55 0,
 oM 56 7,
 oM 57 9,
 oM 58 1,
 oM 59 2,
 oA 60 .call [.c (.func (.func 254) #[] #[]),.t 55,.t 56,.t 57,.t 58,.t 59]] [0,1,2,6])
 (.skip))))
 (cR [oM 61 6,
 oA 62 (.bin .mul) [.t 61,.c (.int .i64 (2))],
 oM 6 62] [0,1,2,6])))))
def f215 : Func := ⟨.seq (cR [oA 6 .move [.c (.int .i64 (20))]] [0,1,2,6])
 (.seq (cR [oM 10 6,
 oA 7 .move [.c (.int .i64 (0))],
 oM 8 10] [0,1,2,6,7,8])
 (.seq (.block 0 (.loop [0,1,2,6,7,8] l215_0))
 (.seq (cR [oM 23 0,
 oM 24 7,
 oM 25 1,
 oM 26 2,
 oA 27 .call [.c (.func (.func 253) #[] #[]),.t 23,.t 24,.t 25,.t 26]] [0,1,2,6])
 (.block 2 (.loop [0,1,2,6] l215_2))))),
 [], none⟩

def f216 : Func := ⟨.seq (cR [oA 2 .move [.c (.bool false)]] [0])
 (.seq (cR [oM 3 0,
 oM 4 0,
 oA 5 (.bin .neq) [.t 3,.t 4],
 oM 2 5] [2])
 (.ret)),
 [.tmp 2], none⟩

def l217_0 : Code :=
 .seq (cR [oA 11 (.bin .lss) [.t 10,.t 9]] [0,3,8,9,10,11])
 (.seq (.cond (.t 11) (.skip)
 (.exit 0))
 (.seq (.block 1 (.seq (cR [oA 12 (.idxAddr 1) [.t 8,.t 10],
 oA 13 (.load false 1) [.t 12],
 oM 5 13] [0,3,5,8,9,10])
 (cR [oM 14 3,
 oM 15 0,
 oM 16 5,
 oA 17 (.lookup none (.agg #[(.int .i64 (0)), (.int .i64 (0)), (.int .i64 (0))]) false) [.t 15,.t 16],
 oA 18 (.field 0 true 2) [.t 17],
 oA 19 (.buildSlice 102 2 1 [(.int .i64 (0)), (.int .i64 (0))] [(0, 2)]) [.t 18],
 oA 20 (.append 102 2 16) [.t 14,.t 19],
 oM 3 20] [0,3,8,9,10])))
 (cR [oA 21 (.bin .add) [.t 10,.c (.int .i64 (1))],
 oM 10 21] [0,3,8,9,10])))
def f217 : Func := ⟨.seq (cR [oA 2 .move [.c (.slice none 0 0)]] [0])
 (.seq (cR [oA 3 .move [.c (.slice none 0 0)]] [0,3])
 (.seq (.seq (cR [oM 6 0,
 oA 7 .call [.c (.func (.func 255) #[] #[]),.t 6],
 oA 8 .call [.c (.func (.func 132) #[] #[]),.t 7],
 oA 9 .lenS [.t 8],
 oA 10 .move [.c (.int .i64 (0))]] [0,3,8,9,10])
 (.block 0 (.loop [0,3,8,9,10] l217_0)))
 (.seq (cR [oM 22 3,
 oM 2 22] [2])
 (.ret)))),
 [.tmp 2], none⟩

def l218_0 : Code :=
 .seq (cR [oA 11 (.bin .lss) [.t 10,.t 9]] [0,8,9,10,11])
 (.seq (.cond (.t 11) (.skip)
 (.exit 0))
 (.seq (.block 1 (.seq (cR [oM 12 10,
 oA 13 (.idxAddr 1) [.t 8,.t 10],
 oA 14 (.load false 1) [.t 13],
 oM 3 12,
 oM 4 14] [0,3,4,8,9,10])
 (.seq (cR [oM 15 4,
 oA 16 .call [.c (.func (.func 196) #[] #[]),.t 15,.c (.int .i64 (0)),.c (.int .i64 (511))],
 oA 17 (.un .not) [.t 16],
 oM 18 17,
 oG (some 19) .move [.t 3] 18 false,
 oG (some 20) (.bin .gtr) [.t 19,.c (.int .i64 (0))] 18 false,
 oG (some 21) .move [.t 20] 18 false,
 oG (some 22) .move [.t 4] 21 true,
 oG (some 23) .move [.t 0] 21 true,
 oG (some 24) .move [.t 3] 21 true,
 oG (some 25) (.bin .sub) [.t 24,.c (.int .i64 (1))] 21 true,
 oG (some 26) (.idxAddr 1) [.t 23,.t 25] 21 true,
 oG (some 27) (.load false 1) [.t 26] 21 true,
 oG (some 28) (.bin .leq) [.t 22,.t 27] 21 true,
 oG (some 29) .pick [.t 21,.t 28,.c (.bool false)] 18 false,
 oA 30 .pick [.t 18,.c (.bool true),.t 29]] [0,8,9,10,30])
 (.cond (.t 30) (.seq (cR [oA 2 .move [.c (.bool false)]] [2])
 (.ret))
 (.skip)))))
 (cR [oA 31 (.bin .add) [.t 10,.c (.int .i64 (1))],
 oM 10 31] [0,8,9,10])))
def f218 : Func := ⟨.seq (cR [oA 2 .move [.c (.bool false)]] [0])
 (.seq (.seq (cR [oM 5 0,
 oA 6 .lenS [.t 5],
 oA 7 (.bin .gtr) [.t 6,.c (.int .i64 (8))]] [0,7])
 (.cond (.t 7) (.seq (cR [oA 2 .move [.c (.bool false)]] [2])
 (.ret))
 (.skip)))
 (.seq (.seq (cR [oM 8 0,
 oA 9 .lenS [.t 8],
 oA 10 .move [.c (.int .i64 (0))]] [0,8,9,10])
 (.block 0 (.loop [0,8,9,10] l218_0)))
 (.seq (cR [oA 2 .move [.c (.bool true)]] [2])
 (.ret)))),
 [.tmp 2], none⟩

def l219_0 : Code :=
 .seq (cR [oA 31 (.bin .lss) [.t 30,.t 29]] [1,28,29,30,31])
 (.seq (.cond (.t 31) (.skip)
 (.exit 0))
 (.seq (.block 1 (.seq (cR [oM 32 30,
 oA 33 (.idxAddr 3) [.t 28,.t 30],
 oA 34 (.load true 3) [.t 33],
 oA 4 (.new 68 3 [(.int .i64 (0)), (.int .i64 (0)), (.int .i64 (0))]) [],
 oM 3 32,
 oN (.store 3) [.t 4,.t 34]] [1,3,4,28,29,30])
 (.seq (cD [⟨[oA 35 (.load true 3) [.t 4],
 oA 36 (.fieldAddr 3) [.t 1],
 oA 37 (.load false 1) [.t 36],
 oM 38 3,
 oA 39 (.idxAddr 1) [.t 37,.t 38],
 oA 40 (.load false 1) [.t 39]],some (oA 41 .call [.c (.func (.func 138) #[] #[]),.t 35,.t 40]),[],[]⟩,
 ⟨[oA 42 (.un .not) [.t 41]],none,[],[]⟩] [35,36,37,38,39,40,41,42] [1,28,29,30,42])
 (.cond (.t 42) (.seq (cR [oA 2 .move [.c (.bool false)]] [2])
 (.ret))
 (.skip)))))
 (cR [oA 43 (.bin .add) [.t 30,.c (.int .i64 (1))],
 oM 30 43] [1,28,29,30])))
def f219 : Func := ⟨.seq (cR [oA 1 (.box 171 5) [.t 0],
 oA 2 .move [.c (.bool false)]] [1])
 (.seq (.seq (cR [oA 5 (.fieldAddr 2) [.t 1],
 oA 6 (.load false 1) [.t 5],
 oA 7 .lenS [.t 6],
 oA 8 (.fieldAddr 1) [.t 1],
 oA 9 (.load false 1) [.t 8],
 oA 10 .lenS [.t 9],
 oA 11 (.bin .neq) [.t 7,.t 10],
 oM 12 11,
 oG (some 13) (.fieldAddr 3) [.t 1] 12 false,
 oG (some 14) (.load false 1) [.t 13] 12 false,
 oG (some 15) .lenS [.t 14] 12 false,
 oG (some 16) (.fieldAddr 1) [.t 1] 12 false,
 oG (some 17) (.load false 1) [.t 16] 12 false,
 oG (some 18) .lenS [.t 17] 12 false,
 oG (some 19) (.bin .neq) [.t 15,.t 18] 12 false,
 oA 20 .pick [.t 12,.c (.bool true),.t 19],
 oM 21 20,
 oG (some 22) (.fieldAddr 4) [.t 1] 21 false,
 oG (some 23) (.load false 1) [.t 22] 21 false,
 oG (some 24) .lenS [.t 23] 21 false,
 oG (some 25) (.bin .gtr) [.t 24,.c (.int .i64 (0))] 21 false,
 oA 26 .pick [.t 21,.c (.bool true),.t 25]] [1,26])
 (.cond (.t 26) (.seq (cR [oA 2 .move [.c (.bool false)]] [2])
 (.ret))
 (.skip)))
 (.seq (.seq (cR [oA 27 (.fieldAddr 2) [.t 1],
 oA 28 (.load false 1) [.t 27],
 oA 29 .lenS [.t 28],
 oA 30 .move [.c (.int .i64 (0))]] [1,28,29,30])
 (.block 0 (.loop [1,28,29,30] l219_0)))
 (.seq (cR [oA 2 .move [.c (.bool true)]] [2])
 (.ret)))),
 [.tmp 2], none⟩

def f220 : Func := ⟨.seq (cR [oA 1 (.box 171 5) [.t 0],
 oA 2 .move [.c (.bool false)]] [1])
 (.seq (cR [oA 3 .move [.c (.func (.func 256) #[] #[])]] [1,3])
 (.seq (cR [oA 4 (.fieldAddr 1) [.t 1],
 oA 5 (.load false 1) [.t 4],
 oA 6 .lenS [.t 5],
 oA 7 (.bin .gtr) [.t 6,.c (.int .i64 (0))],
 oM 8 7,
 oG (some 9) (.fieldAddr 4) [.t 1] 8 true,
 oG (some 10) (.load false 1) [.t 9] 8 true,
 oG (some 11) .lenS [.t 10] 8 true,
 oG (some 12) (.fieldAddr 1) [.t 1] 8 true,
 oG (some 13) (.load false 1) [.t 12] 8 true,
 oG (some 14) .lenS [.t 13] 8 true,
 oG (some 15) (.bin .eql) [.t 11,.t 14] 8 true,
 oA 16 .pick [.t 8,.t 15,.c (.bool false)],
 oM 17 16,
 oG (some 18) (.fieldAddr 2) [.t 1] 17 true,
 oG (some 19) (.load false 1) [.t 18] 17 true,
 oG (some 20) .lenS [.t 19] 17 true,
 oG (some 21) (.fieldAddr 3) [.t 1] 17 true,
 oG (some 22) (.load false 1) [.t 21] 17 true,
 oG (some 23) .lenS [.t 22] 17 true,
 oG (some 24) (.bin .add) [.t 20,.t 23] 17 true,
 oG (some 25) (.bin .eql) [.t 24,.c (.int .i64 (0))] 17 true,
 oA 26 .pick [.t 17,.t 25,.c (.bool false)],
 oM 27 26,
 oG (some 28) (.fieldAddr 4) [.t 1] 27 true,
 oG (some 29) (.load false 1) [.t 28] 27 true,
 oG (some 30) .move [.t 3] 27 true,
 oG (some 31) .call [.c (.func (.func 257) #[] #[]),.t 29,.t 30] 27 true,
 oG (some 32) (.un .not) [.t 31] 27 true,
 oA 33 .pick [.t 27,.t 32,.c (.bool false)],
 oM 2 33] [2])
 (.ret))),
 [.tmp 2], none⟩

def l221_0 : Code :=
 .seq (cR [oA 23 (.bin .lss) [.t 22,.c (.int .i64 (8))]] [5,11,12,13,22,23])
 (.seq (.cond (.t 23) (.skip)
 (.exit 2))
 (.seq (.block 3 (.seq (cR [oM 24 5,
 oA 25 (.bin .and) [.t 24,.c (.int .u32 (2147483648))],
 oA 26 (.bin .neq) [.t 25,.c (.int .u32 (0))],
 oM 8 26] [5,8,11,12,13,22])
 (.seq (cR [oM 27 5,
 oA 28 (.bin .shl) [.t 27,.c (.int .u64 (1))],
 oM 5 28] [5,8,11,12,13,22])
 (.seq (cR [oM 29 8] [5,11,12,13,22,29])
 (.cond (.t 29) (cR [oM 30 5,
 oA 31 (.bin .xor) [.t 30,.c (.int .u32 (1947962583))],
 oM 5 31] [5,11,12,13,22])
 (.skip))))))
 (cR [oA 32 (.bin .add) [.t 22,.c (.int .i64 (1))],
 oM 22 32] [5,11,12,13,22])))
def l221_1 : Code :=
 .seq (cR [oA 14 (.bin .lss) [.t 13,.t 12]] [5,11,12,13,14])
 (.seq (.cond (.t 14) (.skip)
 (.exit 0))
 (.seq (.block 1 (.seq (cR [oA 15 (.idxAddr 1) [.t 11,.t 13],
 oA 16 (.load false 1) [.t 15],
 oM 7 16] [5,7,11,12,13])
 (.seq (cR [oM 17 5,
 oM 18 7,
 oA 19 (.toInt .u32) [.t 18],
 oA 20 (.bin .shl) [.t 19,.c (.int .u64 (24))],
 oA 21 (.bin .xor) [.t 17,.t 20],
 oM 5 21] [5,11,12,13])
 (.seq (cR [oA 22 .move [.c (.int .i64 (0))]] [5,11,12,13,22])
 (.block 2 (.loop [5,11,12,13,22] l221_0))))))
 (cR [oA 33 (.bin .add) [.t 13,.c (.int .i64 (1))],
 oM 13 33] [5,11,12,13])))
def f221 : Func := ⟨.seq (cR [oA 4 .move [.c (.int .u32 (0))]] [0,1])
 (.seq (cR [oM 9 0,
 oA 10 (.un .xor) [.t 9],
 oM 5 10] [1,5])
 (.seq (.seq (cR [oM 11 1,
 oA 12 .lenS [.t 11],
 oA 13 .move [.c (.int .i64 (0))]] [5,11,12,13])
 (.block 0 (.loop [5,11,12,13] l221_1)))
 (.seq (cR [oM 34 5,
 oA 35 (.un .xor) [.t 34],
 oM 4 35] [4])
 (.ret)))),
 [.tmp 4], none⟩

def f222 : Func := ⟨.seq (cR [oA 6 .move [.c (.bool false)]] [0,1,2])
 (.seq (cR [oM 7 0,
 oM 8 1,
 oA 9 (.bin .geq) [.t 7,.t 8],
 oM 10 9,
 oG (some 11) .move [.t 0] 10 true,
 oG (some 12) .move [.t 2] 10 true,
 oG (some 13) (.bin .leq) [.t 11,.t 12] 10 true,
 oA 14 .pick [.t 10,.t 13,.c (.bool false)],
 oM 6 14] [6])
 (.ret)),
 [.tmp 6], none⟩

def f223 : Func := ⟨.seq (cR [oM 2 5] [0,1,2])
 (.seq (cR [oM 6 2,
 oA 7 (.isNil .iface true) [.t 6]] [0,1,2,7])
 (.cond (.t 7) (.seq (cR [oM 9 2,
 oA 10 (.assert 314 (.agg #[(.int .i64 (0))]) true) [.t 9],
 oM 8 10,
 oA 11 (.extract 0) [.t 8],
 oA 12 (.extract 1) [.t 8],
 oA 3 (.new 314 1 [(.int .i64 (0))]) [],
 oN (.store 1) [.t 3,.t 11],
 oM 4 12] [0,1,2,3,4])
 (.seq (.seq (cR [oM 13 4,
 oA 14 (.un .not) [.t 13]] [0,1,2,3,14])
 (.cond (.t 14) (cR [oM 15 2,
 oN .panic [.t 15]] [0,1,3])
 (.skip)))
 (cD [⟨[oA 16 (.fieldAddr 0) [.t 3],
 oA 17 (.load false 1) [.t 16]],some (oN (.store 1) [.t 0,.c (.slice none 0 0)]),[17],[]⟩,
 ⟨[],some (oN (.store 1) [.t 1,.t 17]),[],[]⟩] [16,17] [])))
 (.skip))),
 [], some 5⟩

def l224_0 : Code :=
 .seq (cR [oA 91 (.bin .lss) [.t 90,.t 89]] [0,1,6,89,90,91])
 (.seq (.cond (.t 91) (.skip)
 (.exit 2))
 (.seq (.block 3 (cD [⟨[oM 92 0,
 oM 93 0,
 oA 94 .nilCheck [.t 93],
 oA 95 (.fieldAddr 1) [.t 94],
 oA 96 (.load false 1) [.t 95],
 oM 97 0,
 oA 98 .nilCheck [.t 97],
 oA 99 (.fieldAddr 1) [.t 98],
 oA 100 (.load false 1) [.t 99],
 oM 101 0,
 oA 102 .nilCheck [.t 101],
 oA 103 (.fieldAddr 1) [.t 102],
 oA 104 (.load false 1) [.t 103],
 oA 105 .lenS [.t 104],
 oM 106 6,
 oA 107 (.bin .sub) [.t 105,.t 106],
 oA 108 (.idxAddr 1) [.t 100,.t 107],
 oA 109 (.load false 1) [.t 108]],some (oA 110 (.buildSlice 5 1 1 [(.int .u8 (0))] [(0, 1)]) [.t 109]),[96],[]⟩,
 ⟨[],some (oA 111 (.append 5 1 1) [.t 96,.t 110]),[],[]⟩,
 ⟨[oA 112 .nilCheck [.t 92],
 oA 113 (.fieldAddr 1) [.t 112]],some (oN (.store 1) [.t 113,.t 111]),[],[]⟩] [92,93,94,95,96,97,98,99,100,101,102,103,104,105,106,107,108,109,110,111,112,113] [0,1,6,89,90]))
 (cR [oA 114 (.bin .add) [.t 90,.c (.int .i64 (1))],
 oM 90 114] [0,1,6,89,90])))
def l224_1 : Code :=
 .block 1 (.seq (cR [oM 10 0,
 oA 11 .call [.c (.func (.func 258) #[] #[]),.t 10,.c (.int .i64 (1))],
 oA 12 (.idxAddr 1) [.t 11,.c (.int .i64 (0))],
 oA 13 (.load false 1) [.t 12],
 oA 14 (.toInt .i64) [.t 13],
 oM 4 14] [0,1,4])
 (.seq (cR [oM 15 0,
 oM 16 0,
 oM 17 4,
 oA 18 (.bin .shr) [.t 17,.c (.int .u64 (4))],
 oA 19 .call [.c (.func (.func 259) #[] #[]),.t 16,.t 18],
 oA 20 .call [.c (.func (.func 258) #[] #[]),.t 15,.t 19],
 oM 5 20] [0,1,4,5])
 (.seq (cR [oA 6 .move [.c (.int .i64 (0))],
 oA 7 .move [.c (.int .i64 (0))]] [0,1,4,5,6,7])
 (.seq (cR [oM 21 0,
 oA 22 .nilCheck [.t 21],
 oA 23 (.fieldAddr 0) [.t 22],
 oA 24 (.load false 1) [.t 23],
 oA 25 .lenS [.t 24],
 oA 26 (.bin .eql) [.t 25,.c (.int .i64 (0))],
 oM 8 26] [0,1,4,5,6,7,8])
 (.seq (.seq (cR [oM 27 8,
 oA 28 (.un .not) [.t 27]] [0,1,4,5,6,7,8,28])
 (.cond (.t 28) (.seq (cR [oM 29 0,
 oA 30 .call [.c (.func (.func 258) #[] #[]),.t 29,.c (.int .i64 (2))],
 oM 9 30] [0,1,4,5,8,9])
 (.seq (cD [⟨[oM 31 9,
 oA 32 (.idxAddr 1) [.t 31,.c (.int .i64 (0))],
 oA 33 (.load false 1) [.t 32],
 oA 34 (.toInt .i64) [.t 33],
 oM 35 9,
 oA 36 (.idxAddr 1) [.t 35,.c (.int .i64 (1))],
 oA 37 (.load false 1) [.t 36],
 oA 38 (.toInt .i64) [.t 37],
 oA 39 (.bin .shl) [.t 38,.c (.int .u64 (8))],
 oA 40 (.bin .or) [.t 34,.t 39],
 oM 6 40],none,[],[]⟩] [31,32,33,34,35,36,37,38,39,40,6] [0,1,4,5,6,8])
 (cR [oM 41 0,
 oM 42 4,
 oA 43 (.bin .and) [.t 42,.c (.int .i64 (15))],
 oA 44 .call [.c (.func (.func 259) #[] #[]),.t 41,.t 43],
 oA 45 (.bin .add) [.t 44,.c (.int .i64 (4))],
 oM 7 45] [0,1,5,6,7,8])))
 (.skip)))
 (.seq (cR [oM 46 5,
 oA 47 .lenS [.t 46],
 oM 48 1,
 oM 49 0,
 oA 50 .nilCheck [.t 49],
 oA 51 (.fieldAddr 1) [.t 50],
 oA 52 (.load false 1) [.t 51],
 oA 53 .lenS [.t 52],
 oA 54 (.bin .sub) [.t 48,.t 53],
 oA 55 (.bin .leq) [.t 47,.t 54],
 oA 56 .call [.c (.func (.func 260) #[] #[]),.t 55,.c (.int .i64 (3))]] [0,1,5,6,7,8])
 (.seq (cR [oM 57 0,
 oM 58 0,
 oA 59 .nilCheck [.t 58],
 oA 60 (.fieldAddr 1) [.t 59],
 oA 61 (.load false 1) [.t 60],
 oM 62 5,
 oA 63 (.append 5 1 1) [.t 61,.t 62],
 oA 64 .nilCheck [.t 57],
 oA 65 (.fieldAddr 1) [.t 64],
 oN (.store 1) [.t 65,.t 63]] [0,1,6,7,8])
 (.seq (.seq (cR [oM 66 8] [0,1,6,7,66])
 (.cond (.t 66) (.exit 0)
 (.skip)))
 (.seq (cR [oM 67 6,
 oA 68 (.bin .gtr) [.t 67,.c (.int .i64 (0))],
 oM 69 68,
 oG (some 70) .move [.t 6] 69 true,
 oG (some 71) .move [.t 0] 69 true,
 oG (some 72) .nilCheck [.t 71] 69 true,
 oG (some 73) (.fieldAddr 1) [.t 72] 69 true,
 oG (some 74) (.load false 1) [.t 73] 69 true,
 oG (some 75) .lenS [.t 74] 69 true,
 oG (some 76) (.bin .leq) [.t 70,.t 75] 69 true,
 oA 77 .pick [.t 69,.t 76,.c (.bool false)],
 oA 78 .call [.c (.func (.func 260) #[] #[]),.t 77,.c (.int .i64 (4))]] [0,1,6,7])
 (.seq (cR [oM 79 7,
 oM 80 1,
 oM 81 0,
 oA 82 .nilCheck [.t 81],
 oA 83 (.fieldAddr 1) [.t 82],
 oA 84 (.load false 1) [.t 83],
 oA 85 .lenS [.t 84],
 oA 86 (.bin .sub) [.t 80,.t 85],
 oA 87 (.bin .leq) [.t 79,.t 86],
 oA 88 .call [.c (.func (.func 260) #[] #[]),.t 87,.c (.int .i64 (3))]] [0,1,6,7])
 (.seq (cR [oM 89 7,
 oA 90 .move [.c (.int .i64 (0))]] [0,1,6,89,90])
 (.block 2 (.loop [0,1,6,89,90] l224_0)))))))))))))
def f224 : Func := ⟨.seq (.block 0 (.loop [0,1] l224_1))
 (cR [oM 115 0,
 oA 116 .nilCheck [.t 115],
 oA 117 (.fieldAddr 1) [.t 116],
 oA 118 (.load false 1) [.t 117],
 oA 119 .lenS [.t 118],
 oM 120 1,
 oA 121 (.bin .eql) [.t 119,.t 120],
 oA 122 .call [.c (.func (.func 260) #[] #[]),.t 121,.c (.int .i64 (2))]] []),
 [], none⟩

def l225_0 : Code :=
 .seq (cR [oA 25 (.bin .lss) [.t 24,.t 23]] [4,5,6,7,23,24,25])
 (.seq (.cond (.t 25) (.skip)
 (.exit 0))
 (.seq (.block 1 (cD [⟨[oA 26 (.load false 1) [.t 4],
 oM 27 6,
 oM 28 7],some (oA 29 .call [.c (.func (.func 264) #[] #[]),.t 27,.t 28]),[26],[]⟩,
 ⟨[],some (oA 30 (.buildSlice 5 1 1 [(.int .u8 (0))] [(0, 1)]) [.t 29]),[26],[]⟩,
 ⟨[],some (oA 31 (.append 5 1 1) [.t 26,.t 30]),[],[]⟩,
 ⟨[],some (oN (.store 1) [.t 4,.t 31]),[],[]⟩] [26,27,28,29,30,31] [4,5,6,7,23,24]))
 (cR [oA 32 (.bin .add) [.t 24,.c (.int .i64 (1))],
 oM 24 32] [4,5,6,7,23,24])))
def f225 : Func := ⟨.seq (cR [oA 4 (.new 23 1 [(.slice none 0 0)]) [],
 oA 5 (.new 26 1 [(.int .i64 (0))]) []] [0,1,4,5])
 (.seq (.seq (cR [oM 8 1,
 oA 9 (.bin .lss) [.t 8,.c (.int .i64 (0))],
 oM 10 9,
 oG (some 11) .move [.t 1] 10 false,
 oG (some 12) (.bin .gtr) [.t 11,.c (.int .i64 (4096))] 10 false,
 oA 13 .pick [.t 10,.c (.bool true),.t 12]] [0,1,4,5,13])
 (.cond (.t 13) (.seq (cR [oN (.store 1) [.t 4,.c (.slice none 0 0)],
 oN (.store 1) [.t 5,.c (.int .i64 (1))]] [4,5])
 (.ret))
 (.skip)))
 (.seq (cR [oA 14 (.func 261 0) [.t 4,.t 5],
 oN .defer [.t 14]] [0,1,4,5])
 (.seq (cR [oM 15 0,
 oA 16 (.build [(.slice none 0 0), (.int .i64 (0))] [(0, 1)]) [.t 15],
 oA 17 (.box 362 2) [.t 16],
 oM 6 17] [1,4,5,6])
 (.seq (cR [oM 18 6,
 oA 19 .call [.c (.func (.func 262) #[] #[]),.t 18],
 oA 20 .call [.c (.func (.func 236) #[] #[]),.t 19],
 oM 7 20] [1,4,5,6,7])
 (.seq (cR [oM 21 7,
 oA 22 .call [.c (.func (.func 263) #[] #[]),.t 21]] [1,4,5,6,7])
 (.seq (.seq (cR [oM 23 1,
 oA 24 .move [.c (.int .i64 (0))]] [4,5,6,7,23,24])
 (.block 0 (.loop [4,5,6,7,23,24] l225_0)))
 (.seq (cR [oM 33 6,
 oA 34 .call [.c (.func (.func 265) #[] #[]),.t 33]] [4,5])
 (.seq (cR [oA 35 (.load false 1) [.t 4],
 oN (.store 1) [.t 4,.t 35],
 oN (.store 1) [.t 5,.c (.int .i64 (0))]] [4,5])
 (.ret))))))))),
 [.cell 4 false 1, .cell 5 false 1], none⟩

def l226_0 : Code :=
 .seq (cR [oA 9 (.bin .lss) [.t 8,.t 7]] [0,1,7,8,9])
 (.seq (.cond (.t 9) (.skip)
 (.exit 0))
 (.seq (.block 1 (.seq (cR [oM 10 8,
 oM 5 10] [0,1,5,7,8])
 (.seq (cR [oM 11 1,
 oM 12 0,
 oM 13 5,
 oA 14 (.idxAddr 2) [.t 12,.t 13],
 oA 15 (.load true 2) [.t 14],
 oA 16 .call [.t 11,.t 15]] [0,1,5,7,8,16])
 (.cond (.t 16) (.seq (cR [oM 17 5,
 oM 4 17] [4])
 (.ret))
 (.skip)))))
 (cR [oA 18 (.bin .add) [.t 8,.c (.int .i64 (1))],
 oM 8 18] [0,1,7,8])))
def f226 : Func := ⟨.seq (cR [oA 4 .move [.c (.int .i64 (0))]] [0,1])
 (.seq (.seq (cR [oM 6 0,
 oA 7 .lenS [.t 6],
 oA 8 .move [.c (.int .i64 (0))]] [0,1,7,8])
 (.block 0 (.loop [0,1,7,8] l226_0)))
 (.seq (cR [oA 4 .move [.c (.int .i64 (-1))]] [4])
 (.ret))),
 [.tmp 4], none⟩

def f227 : Func := ⟨.seq (cR [oA 6 .move [.c (.slice none 0 0)]] [0,1,2])
 (.seq (cR [oM 10 0,
 oM 11 1,
 oA 12 (.slice 2 true false false) [.t 10,.t 11]] [0,1,2])
 (.seq (cR [oM 13 2,
 oA 14 .lenS [.t 13],
 oM 7 14] [0,1,2,7])
 (.seq (.seq (cR [oM 15 7,
 oA 16 (.bin .eql) [.t 15,.c (.int .i64 (0))]] [0,1,2,7,16])
 (.cond (.t 16) (.seq (cR [oM 17 0,
 oM 6 17] [6])
 (.ret))
 (.skip)))
 (.seq (cR [oM 18 0,
 oA 19 .lenS [.t 18],
 oM 8 19] [0,1,2,7,8])
 (.seq (.seq (cR [oM 20 1,
 oM 21 8,
 oA 22 (.bin .eql) [.t 20,.t 21]] [0,1,2,7,8,22])
 (.cond (.t 22) (.seq (cR [oM 23 0,
 oM 24 2,
 oA 25 (.append 102 2 16) [.t 23,.t 24],
 oM 6 25] [6])
 (.ret))
 (.skip)))
 (.seq (.seq (cR [oM 26 8,
 oM 27 7,
 oA 28 (.bin .add) [.t 26,.t 27],
 oM 29 0,
 oA 30 .cap [.t 29],
 oA 31 (.bin .gtr) [.t 28,.t 30]] [0,1,2,7,8,31])
 (.cond (.t 31) (.seq (cR [oM 32 0,
 oM 33 1,
 oA 34 (.slice 2 false true false) [.t 32,.t 33],
 oM 35 8,
 oM 36 7,
 oA 37 (.bin .add) [.t 35,.t 36],
 oM 38 1,
 oA 39 (.bin .sub) [.t 37,.t 38],
 oA 40 (.appendZ 102 2 16 [(.int .i64 (0)), (.int .i64 (0))]) [.t 34,.t 39],
 oM 9 40] [0,1,2,7,9])
 (.seq (cR [oM 41 9,
 oM 42 1,
 oA 43 (.slice 2 true false false) [.t 41,.t 42],
 oM 44 2,
 oA 45 (.copy 2) [.t 43,.t 44]] [0,1,7,9])
 (.seq (cD [⟨[oM 46 9,
 oM 47 1,
 oM 48 7,
 oA 49 (.bin .add) [.t 47,.t 48],
 oA 50 (.slice 2 true false false) [.t 46,.t 49],
 oM 51 0,
 oM 52 1,
 oA 53 (.slice 2 true false false) [.t 51,.t 52]],some (oA 54 (.copy 2) [.t 50,.t 53]),[],[]⟩] [46,47,48,49,50,51,52,53,54] [9])
 (.seq (cR [oM 55 9,
 oM 6 55] [6])
 (.ret)))))
 (.skip)))
 (.seq (cR [oM 56 0,
 oM 57 8,
 oM 58 7,
 oA 59 (.bin .add) [.t 57,.t 58],
 oA 60 (.slice 2 false true false) [.t 56,.t 59],
 oM 0 60] [0,1,2,7,8])
 (.seq (.seq (cR [oM 61 2,
 oM 62 0,
 oM 63 1,
 oM 64 7,
 oA 65 (.bin .add) [.t 63,.t 64],
 oA 66 (.slice 2 true false false) [.t 62,.t 65],
 oA 67 .overlaps [.t 61,.t 66],
 oA 68 (.un .not) [.t 67]] [0,1,2,7,8,68])
 (.cond (.t 68) (.seq (cD [⟨[oM 69 0,
 oM 70 1,
 oM 71 7,
 oA 72 (.bin .add) [.t 70,.t 71],
 oA 73 (.slice 2 true false false) [.t 69,.t 72],
 oM 74 0,
 oM 75 1,
 oA 76 (.slice 2 true false false) [.t 74,.t 75]],some (oA 77 (.copy 2) [.t 73,.t 76]),[],[]⟩] [69,70,71,72,73,74,75,76,77] [0,1,2])
 (.seq (cR [oM 78 0,
 oM 79 1,
 oA 80 (.slice 2 true false false) [.t 78,.t 79],
 oM 81 2,
 oA 82 (.copy 2) [.t 80,.t 81]] [0])
 (.seq (cR [oM 83 0,
 oM 6 83] [6])
 (.ret))))
 (.skip)))
 (.seq (cR [oM 84 0,
 oM 85 8,
 oA 86 (.slice 2 true false false) [.t 84,.t 85],
 oM 87 2,
 oA 88 (.copy 2) [.t 86,.t 87]] [0,1,7])
 (.seq (cR [oM 89 0,
 oM 90 1,
 oA 91 (.slice 2 true false false) [.t 89,.t 90],
 oM 92 7,
 oA 93 .call [.c (.func (.func 229) #[] #[]),.t 91,.t 92]] [0])
 (.seq (cR [oM 94 0,
 oM 6 94] [6])
 (.ret)))))))))))),
 [.tmp 6], none⟩

def f229 : Func := ⟨cR [oM 4 0,
 oM 5 0,
 oA 6 .lenS [.t 5],
 oM 7 1,
 oA 8 (.bin .sub) [.t 6,.t 7],
 oA 9 .call [.c (.func (.func 266) #[] #[]),.t 4,.t 8]] [],
 [], none⟩

def l230_0 : Code :=
 .seq (cR [oA 12 (.bin .lss) [.t 11,.t 10]] [0,4,5,10,11,12])
 (.seq (.cond (.t 12) (.skip)
 (.exit 0))
 (.seq (.block 1 (.seq (cR [oM 13 11,
 oM 6 13] [0,4,5,6,10,11])
 (.seq (cR [oM 14 5,
 oM 15 0,
 oM 16 6,
 oA 17 (.idxAddr 2) [.t 15,.t 16],
 oA 18 (.eqPtr false) [.t 14,.t 17]] [0,4,5,6,10,11,18])
 (.cond (.t 18) (.seq (cR [oM 19 6,
 oM 4 19] [4])
 (.ret))
 (.skip)))))
 (cR [oA 20 (.bin .add) [.t 11,.c (.int .i64 (1))],
 oM 11 20] [0,4,5,10,11])))
def f230 : Func := ⟨.seq (cR [oA 4 .move [.c (.int .i64 (0))]] [0,1,4])
 (.seq (cR [oM 7 1,
 oA 8 (.idxAddr 2) [.t 7,.c (.int .i64 (0))],
 oM 5 8] [0,4,5])
 (.seq (.seq (cR [oM 9 0,
 oA 10 .lenS [.t 9],
 oA 11 .move [.c (.int .i64 (0))]] [0,4,5,10,11])
 (.block 0 (.loop [0,4,5,10,11] l230_0)))
 (cR [oA 21 (.iface 9) [.c (.string ⟨⟨[110, 101, 101, 100, 108, 101, 32, 110, 111, 116, 32, 102, 111, 117, 110, 100]⟩⟩)],
 oN .panic [.t 21]] [4]))),
 [.tmp 4], none⟩

def f231 : Func := ⟨.seq (cR [oA 3 (.box 90 2) [.t 1],
 oA 4 .move [.c (.bool false)]] [0,3])
 (.seq (cR [oM 5 0,
 oA 6 (.load true 2) [.t 3],
 oA 7 .call [.c (.func (.func 267) #[] #[]),.t 5,.t 6],
 oA 8 (.bin .geq) [.t 7,.c (.int .i64 (0))],
 oM 4 8] [4])
 (.ret)),
 [.tmp 4], none⟩

def f232 : Func := ⟨.seq (cR [oM 6 0,
 oA 7 (.bin .add) [.t 6,.c (.int .i64 (4))],
 oA 8 (.load false 1) [.t 1],
 oA 9 .lenS [.t 8],
 oA 10 (.bin .leq) [.t 7,.t 9]] [0,1,2,3,10])
 (.cond (.t 10) (.seq (cR [oA 11 (.load false 1) [.t 1],
 oM 12 0,
 oM 13 0,
 oA 14 (.bin .add) [.t 13,.c (.int .i64 (4))],
 oA 15 (.slice 1 true true false) [.t 11,.t 12,.t 14],
 oA 16 (.arrPtr 4) [.t 15],
 oA 17 (.load true 4) [.t 16],
 oA 5 (.new 328 4 [(.int .u8 (0)), (.int .u8 (0)), (.int .u8 (0)), (.int .u8 (0))]) [],
 oN (.store 4) [.t 5,.t 17]] [0,2,3,5])
 (.seq (cD [⟨[oA 18 (.load false 1) [.t 3],
 oM 19 0,
 oA 20 (.load false 1) [.t 2],
 oA 21 (.load true 4) [.t 5],
 oA 22 (.lookup (some 4) (.int .i64 (0)) false) [.t 20,.t 21],
 oA 23 (.idxAddr 1) [.t 18,.t 19]],some (oN (.store 1) [.t 23,.t 22]),[],[]⟩] [18,19,20,21,22,23] [0,2,5])
 (cR [oA 24 (.load false 1) [.t 2],
 oA 25 (.load true 4) [.t 5],
 oM 26 0,
 oA 27 (.bin .add) [.t 26,.c (.int .i64 (1))],
 oN (.mapSet (some 4)) [.t 24,.t 25,.t 27]] [])))
 (.skip)),
 [], none⟩

def l233_0 : Code :=
 .seq (.seq (cD [⟨[oM 10 2,
 oM 11 9,
 oA 12 (.bin .add) [.t 10,.t 11],
 oM 13 3,
 oA 14 (.bin .lss) [.t 12,.t 13],
 oM 15 14,
 oG (some 16) .move [.t 0] 15 true,
 oG (some 17) .move [.t 1] 15 true,
 oG (some 18) .move [.t 9] 15 true,
 oG (some 19) (.bin .add) [.t 17,.t 18] 15 true,
 oG (some 20) (.idxAddr 1) [.t 16,.t 19] 15 true,
 oG (some 21) (.load false 1) [.t 20] 15 true,
 oG (some 22) .move [.t 0] 15 true,
 oG (some 23) .move [.t 2] 15 true,
 oG (some 24) .move [.t 9] 15 true,
 oG (some 25) (.bin .add) [.t 23,.t 24] 15 true,
 oG (some 26) (.idxAddr 1) [.t 22,.t 25] 15 true,
 oG (some 27) (.load false 1) [.t 26] 15 true,
 oG (some 28) (.bin .eql) [.t 21,.t 27] 15 true,
 oA 29 .pick [.t 15,.t 28,.c (.bool false)]],none,[],[]⟩] [10,11,12,13,14,15,16,17,18,19,20,21,22,23,24,25,26,27,28,29] [0,1,2,3,9,29])
 (.cond (.t 29) (.skip)
 (.exit 0)))
 (.block 1 (cR [oM 30 9,
 oA 31 (.bin .add) [.t 30,.c (.int .i64 (1))],
 oM 9 31] [0,1,2,3,9]))
def f233 : Func := ⟨.seq (cR [oA 8 .move [.c (.int .i64 (0))]] [0,1,2,3])
 (.seq (cR [oA 9 .move [.c (.int .i64 (0))]] [0,1,2,3,9])
 (.seq (.block 0 (.loop [0,1,2,3,9] l233_0))
 (.seq (cR [oM 32 9,
 oM 8 32] [8])
 (.ret)))),
 [.tmp 8], none⟩

def f234 : Func := ⟨.seq (cR [oM 9 1,
 oA 10 .lenS [.t 9],
 oA 11 .min [.t 10,.c (.int .i64 (15))],
 oA 12 (.bin .shl) [.t 11,.c (.int .u64 (4))],
 oM 8 12] [0,1,2,3,8])
 (.seq (.seq (cR [oM 13 2,
 oA 14 (.bin .gtr) [.t 13,.c (.int .i64 (0))]] [0,1,2,3,8,14])
 (.cond (.t 14) (cR [oM 15 8,
 oM 16 3,
 oA 17 (.bin .sub) [.t 16,.c (.int .i64 (4))],
 oA 18 .min [.t 17,.c (.int .i64 (15))],
 oA 19 (.bin .or) [.t 15,.t 18],
 oM 8 19] [0,1,2,3,8])
 (.skip)))
 (.seq (cR [oM 20 0,
 oM 21 0,
 oA 22 .nilCheck [.t 21],
 oA 23 (.fieldAddr 1) [.t 22],
 oA 24 (.load false 1) [.t 23],
 oM 25 8,
 oA 26 (.toInt .u8) [.t 25],
 oA 27 (.buildSlice 5 1 1 [(.int .u8 (0))] [(0, 1)]) [.t 26],
 oA 28 (.append 5 1 1) [.t 24,.t 27],
 oA 29 .nilCheck [.t 20],
 oA 30 (.fieldAddr 1) [.t 29],
 oN (.store 1) [.t 30,.t 28]] [0,1,2,3])
 (.seq (cR [oM 31 0,
 oM 32 1,
 oA 33 .lenS [.t 32],
 oA 34 .call [.c (.func (.func 268) #[] #[]),.t 31,.t 33]] [0,1,2,3])
 (.seq (cR [oM 35 0,
 oM 36 0,
 oA 37 .nilCheck [.t 36],
 oA 38 (.fieldAddr 1) [.t 37],
 oA 39 (.load false 1) [.t 38],
 oM 40 1,
 oA 41 (.append 5 1 1) [.t 39,.t 40],
 oA 42 .nilCheck [.t 35],
 oA 43 (.fieldAddr 1) [.t 42],
 oN (.store 1) [.t 43,.t 41]] [0,2,3])
 (.seq (cR [oM 44 2,
 oA 45 (.bin .gtr) [.t 44,.c (.int .i64 (0))]] [0,2,3,45])
 (.cond (.t 45) (.seq (cR [oM 46 0,
 oM 47 0,
 oA 48 .nilCheck [.t 47],
 oA 49 (.fieldAddr 1) [.t 48],
 oA 50 (.load false 1) [.t 49],
 oM 51 2,
 oA 52 (.toInt .u8) [.t 51],
 oM 53 2,
 oA 54 (.bin .shr) [.t 53,.c (.int .u64 (8))],
 oA 55 (.toInt .u8) [.t 54],
 oA 56 (.buildSlice 5 1 2 [(.int .u8 (0)), (.int .u8 (0))] [(0, 1), (1, 1)]) [.t 52,.t 55],
 oA 57 (.append 5 1 1) [.t 50,.t 56],
 oA 58 .nilCheck [.t 46],
 oA 59 (.fieldAddr 1) [.t 58],
 oN (.store 1) [.t 59,.t 57]] [0,3])
 (cR [oM 60 0,
 oM 61 3,
 oA 62 (.bin .sub) [.t 61,.c (.int .i64 (4))],
 oA 63 .call [.c (.func (.func 268) #[] #[]),.t 60,.t 62]] []))
 (.skip))))))),
 [], none⟩

def l235_0 : Code :=
 .seq (cR [oA 22 (.bin .lss) [.t 21,.c (.int .i64 (256))]] [1,2,4,5,6,20,21,22])
 (.seq (.cond (.t 22) (.skip)
 (.exit 0))
 (.seq (.block 1 (.seq (cR [oM 23 21,
 oA 24 (.idx 256 1 false) [.t 20,.t 21],
 oM 7 23,
 oM 8 24] [1,2,4,5,6,7,8,20,21])
 (.seq (cR [oM 25 8,
 oA 26 (.bin .gtr) [.t 25,.c (.int .i64 (0))]] [1,2,4,5,6,7,20,21,26])
 (.cond (.t 26) (cR [oM 27 5,
 oM 28 7,
 oA 29 (.buildSlice 3 1 1 [(.int .i64 (0))] [(0, 1)]) [.t 28],
 oA 30 (.append 3 1 8) [.t 27,.t 29],
 oM 5 30] [1,2,4,5,6,20,21])
 (.skip)))))
 (cR [oA 31 (.bin .add) [.t 21,.c (.int .i64 (1))],
 oM 21 31] [1,2,4,5,6,20,21])))
def l235_1 : Code :=
 .seq (cR [oA 46 (.bin .lss) [.t 45,.t 44]] [1,2,4,5,6,43,44,45,46])
 (.seq (.cond (.t 46) (.skip)
 (.exit 2))
 (.seq (.block 3 (.seq (cR [oA 47 (.idxAddr 1) [.t 43,.t 45],
 oA 48 (.load false 1) [.t 47],
 oM 10 48] [1,2,4,5,6,10,43,44,45])
 (cR [oM 49 6,
 oM 50 10,
 oA 51 (.idxAddrA 256 1) [.t 1,.t 50],
 oA 52 (.load false 1) [.t 51],
 oA 53 (.buildSlice 3 1 1 [(.int .i64 (0))] [(0, 1)]) [.t 52],
 oA 54 (.append 3 1 8) [.t 49,.t 53],
 oM 6 54] [1,2,4,5,6,43,44,45])))
 (cR [oA 55 (.bin .add) [.t 45,.c (.int .i64 (1))],
 oM 45 55] [1,2,4,5,6,43,44,45])))
def l235_2 : Code :=
 .seq (cR [oA 69 (.bin .lss) [.t 68,.t 67]] [2,4,5,6,66,67,68,69])
 (.seq (.cond (.t 69) (.skip)
 (.exit 6))
 (.seq (.block 7 (.seq (cR [oM 70 68,
 oA 71 (.idxAddr 1) [.t 66,.t 68],
 oA 72 (.load false 1) [.t 71],
 oM 12 70,
 oM 13 72] [2,4,5,6,12,13,66,67,68])
 (cR [oM 73 6,
 oM 74 12,
 oM 75 13,
 oA 76 (.bin .add) [.t 75,.c (.int .i64 (1))],
 oA 77 (.bin .quo) [.t 76,.c (.int .i64 (2))],
 oA 78 (.idxAddr 1) [.t 73,.t 74],
 oN (.store 1) [.t 78,.t 77]] [2,4,5,6,66,67,68])))
 (cR [oA 79 (.bin .add) [.t 68,.c (.int .i64 (1))],
 oM 68 79] [2,4,5,6,66,67,68])))
def l235_3 : Code :=
 .seq (.seq (cR [oM 58 11,
 oA 59 .lenS [.t 58],
 oA 60 (.bin .gtr) [.t 59,.c (.int .i64 (0))],
 oM 61 60,
 oG (some 62) .move [.t 11] 61 true,
 oG (some 63) .call [.c (.func (.func 273) #[] #[]),.t 62] 61 true,
 oG (some 64) (.bin .gtr) [.t 63,.c (.int .i64 (11))] 61 true,
 oA 65 .pick [.t 61,.t 64,.c (.bool false)]] [2,4,5,6,11,65])
 (.cond (.t 65) (.skip)
 (.exit 4)))
 (.block 5 (.seq (.seq (cR [oM 66 6,
 oA 67 .lenS [.t 66],
 oA 68 .move [.c (.int .i64 (0))]] [2,4,5,6,66,67,68])
 (.block 6 (.loop [2,4,5,6,66,67,68] l235_2)))
 (cR [oM 80 6,
 oA 81 .call [.c (.func (.func 272) #[] #[]),.t 80],
 oM 11 81] [2,4,5,6,11])))
def l235_4 : Code :=
 .seq (cR [oA 87 (.bin .lss) [.t 86,.t 85]] [2,4,5,84,85,86,87])
 (.seq (.cond (.t 87) (.skip)
 (.exit 8))
 (.seq (.block 9 (.seq (cR [oM 88 86,
 oA 89 (.idxAddr 1) [.t 84,.t 86],
 oA 90 (.load false 1) [.t 89],
 oM 14 88,
 oM 15 90] [2,4,5,14,15,84,85,86])
 (cR [oM 91 5,
 oM 92 14,
 oA 93 (.idxAddr 1) [.t 91,.t 92],
 oA 94 (.load false 1) [.t 93],
 oM 95 15,
 oA 96 (.idxAddrA 256 1) [.t 4,.t 94],
 oN (.store 1) [.t 96,.t 95]] [2,4,5,84,85,86])))
 (cR [oA 97 (.bin .add) [.t 86,.c (.int .i64 (1))],
 oM 86 97] [2,4,5,84,85,86])))
def f235 : Func := ⟨.seq (cR [oA 1 (.box 331 256) [.t 0],
 oA 2 (.new 331 256 (List.replicate 256 (.int .i64 (0)))) [],
 oA 3 .move [.c (.bool false)]] [1,2])
 (.seq (cR [oA 4 (.new 331 256 (List.replicate 256 (.int .i64 (0)))) []] [1,2,4])
 (.seq (.seq (cR [oA 16 (.load true 256) [.t 1],
 oA 17 .call [.c (.func (.func 269) #[] #[]),.t 16],
 oA 18 (.un .not) [.t 17]] [1,2,4,18])
 (.cond (.t 18) (.seq (cR [oA 19 (.load true 256) [.t 4],
 oN (.store 256) [.t 2,.t 19],
 oA 3 .move [.c (.bool false)]] [2,3])
 (.ret))
 (.skip)))
 (.seq (cR [oA 5 .move [.c (.slice none 0 0)],
 oA 6 .move [.c (.slice none 0 0)]] [1,2,4,5,6])
 (.seq (.seq (cR [oA 20 (.load true 256) [.t 1],
 oA 21 .move [.c (.int .i64 (0))]] [1,2,4,5,6,20,21])
 (.block 0 (.loop [1,2,4,5,6,20,21] l235_0)))
 (.seq (cR [oM 32 5,
 oA 33 (.func 271 0) [.t 1],
 oA 34 .call [.c (.func (.func 270) #[] #[]),.t 32,.t 33]] [1,2,4,5,6])
 (.seq (.seq (cR [oM 35 5,
 oA 36 .lenS [.t 35],
 oA 37 (.bin .eql) [.t 36,.c (.int .i64 (1))]] [1,2,4,5,6,37])
 (.cond (.t 37) (.seq (cR [oM 38 5,
 oA 39 (.idxAddr 1) [.t 38,.c (.int .i64 (0))],
 oA 40 (.load false 1) [.t 39],
 oA 41 (.idxAddrA 256 1) [.t 4,.t 40],
 oN (.store 1) [.t 41,.c (.int .i64 (1))]] [2,4])
 (.seq (cR [oA 42 (.load true 256) [.t 4],
 oN (.store 256) [.t 2,.t 42],
 oA 3 .move [.c (.bool true)]] [2,3])
 (.ret)))
 (.skip)))
 (.seq (.seq (cR [oM 43 5,
 oA 44 .lenS [.t 43],
 oA 45 .move [.c (.int .i64 (0))]] [1,2,4,5,6,43,44,45])
 (.block 2 (.loop [1,2,4,5,6,43,44,45] l235_1)))
 (.seq (cR [oM 56 6,
 oA 57 .call [.c (.func (.func 272) #[] #[]),.t 56],
 oM 11 57] [2,4,5,6,11])
 (.seq (.block 4 (.loop [2,4,5,6,11] l235_3))
 (.seq (cR [oM 82 11,
 oA 83 .call [.c (.func (.func 192) #[] #[]),.t 82]] [2,4,5,11])
 (.seq (.seq (cR [oM 84 11,
 oA 85 .lenS [.t 84],
 oA 86 .move [.c (.int .i64 (0))]] [2,4,5,84,85,86])
 (.block 8 (.loop [2,4,5,84,85,86] l235_4)))
 (.seq (cR [oA 98 (.load true 256) [.t 4],
 oN (.store 256) [.t 2,.t 98],
 oA 3 .move [.c (.bool true)]] [2,3])
 (.ret))))))))))))),
 [.cell 2 true 256, .tmp 3], none⟩

def l236_0 : Code :=
 .seq (cR [oA 16 (.bin .lss) [.t 15,.c (.int .i64 (256))]] [1,3,4,14,15,16])
 (.seq (.cond (.t 16) (.skip)
 (.exit 2))
 (.seq (.block 3 (.seq (cR [oM 17 15,
 oA 18 (.idx 256 1 false) [.t 14,.t 15],
 oM 5 17,
 oM 6 18] [1,3,4,5,6,14,15])
 (.seq (cR [oM 19 6,
 oM 20 4,
 oA 21 (.bin .eql) [.t 19,.t 20]] [1,3,4,5,14,15,21])
 (.cond (.t 21) (.seq (cD [⟨[oM 22 3,
 oM 23 4,
 oA 24 .nilCheck [.t 22],
 oA 25 (.fieldAddr 256) [.t 24],
 oA 26 (.idxAddrA 12 1) [.t 25,.t 23],
 oA 27 (.load false 1) [.t 26],
 oA 28 (.bin .add) [.t 27,.c (.int .i64 (1))],
 oA 29 .nilCheck [.t 22],
 oA 30 (.fieldAddr 256) [.t 29],
 oA 31 (.idxAddrA 12 1) [.t 30,.t 23]],some (oN (.store 1) [.t 31,.t 28]),[],[]⟩] [22,23,24,25,26,27,28,29,30,31] [1,3,4,5,14,15])
 (cR [oM 32 3,
 oM 33 3,
 oA 34 .nilCheck [.t 33],
 oA 35 (.fieldAddr 268) [.t 34],
 oA 36 (.load false 1) [.t 35],
 oM 37 5,
 oA 38 (.toInt .u8) [.t 37],
 oA 39 (.buildSlice 5 1 1 [(.int .u8 (0))] [(0, 1)]) [.t 38],
 oA 40 (.append 5 1 1) [.t 36,.t 39],
 oA 41 .nilCheck [.t 32],
 oA 42 (.fieldAddr 268) [.t 41],
 oN (.store 1) [.t 42,.t 40]] [1,3,4,14,15]))
 (.skip)))))
 (cR [oA 43 (.bin .add) [.t 15,.c (.int .i64 (1))],
 oM 15 43] [1,3,4,14,15])))
def l236_1 : Code :=
 .seq (.seq (cR [oM 10 4,
 oA 11 (.bin .leq) [.t 10,.c (.int .i64 (11))]] [1,3,4,11])
 (.cond (.t 11) (.skip)
 (.exit 0)))
 (.seq (.block 1 (.seq (cR [oA 14 (.load true 256) [.t 1],
 oA 15 .move [.c (.int .i64 (0))]] [1,3,4,14,15])
 (.block 2 (.loop [1,3,4,14,15] l236_0))))
 (cR [oM 12 4,
 oA 13 (.bin .add) [.t 12,.c (.int .i64 (1))],
 oM 4 13] [1,3,4]))
def f236 : Func := ⟨.seq (cR [oA 1 (.box 331 256) [.t 0],
 oA 2 .move [.c (.pointer none)]] [1])
 (.seq (cR [oA 7 (.load true 256) [.t 1],
 oA 8 (.build [(.int .i64 (0)), (.int .i64 (0)), (.int .i64 (0)), (.int .i64 (0)), (.int .i64 (0)), (.int .i64 (0)), (.int .i64 (0)), (.int .i64 (0)), (.int .i64 (0)), (.int .i64 (0)), (.int .i64 (0)), (.int .i64 (0)), (.int .i64 (0)), (.int .i64 (0)), (.int .i64 (0)), (.int .i64 (0)), (.int .i64 (0)), (.int .i64 (0)), (.int .i64 (0)), (.int .i64 (0)), (.int .i64 (0)), (.int .i64 (0)), (.int .i64 (0)), (.int .i64 (0)), (.int .i64 (0)), (.int .i64 (0)), (.int .i64 (0)), (.int .i64 (0)), (.int .i64 (0)), (.int .i64 (0)), (.int .i64 (0)), (.int .i64 (0)), (.int .i64 (0)), (.int .i64 (0)), (.int .i64 (0)), (.int .i64 (0)), (.int .i64 (0)), (.int .i64 (0)), (.int .i64 (0)), (.int .i64 (0)), (.int .i64 (0)), (.int .i64 (0)), (.int .i64 (0)), (.int .i64 (0)), (.int .i64 (0)), (.int .i64 (0)), (.int .i64 (0)), (.int .i64 (0)), (.int .i64 (0)), (.int .i64 (0)), (.int .i64 (0)), (.int .i64 (0)), (.int .i64 (0)), (.int .i64 (0)), (.int .i64 (0)), (.int .i64 (0)), (.int .i64 (0)), (.int .i64 (0)), (.int .i64 (0)), (.int .i64 (0)), (.int .i64 (0)), (.int .i64 (0)), (.int .i64 (0)), (.int .i64 (0)), (.int .i64 (0)), (.int .i64 (0)), (.int .i64 (0)), (.int .i64 (0)), (.int .i64 (0)), (.int .i64 (0)), (.int .i64 (0)), (.int .i64 (0)), (.int .i64 (0)), (.int .i64 (0)), (.int .i64 (0)), (.int .i64 (0)), (.int .i64 (0)), (.int .i64 (0)), (.int .i64 (0)), (.int .i64 (0)), (.int .i64 (0)), (.int .i64 (0)), (.int .i64 (0)), (.int .i64 (0)), (.int .i64 (0)), (.int .i64 (0)), (.int .i64 (0)), (.int .i64 (0)), (.int .i64 (0)), (.int .i64 (0)), (.int .i64 (0)), (.int .i64 (0)), (.int .i64 (0)), (.int .i64 (0)), (.int .i64 (0)), (.int .i64 (0)), (.int .i64 (0)), (.int .i64 (0)), (.int .i64 (0)), (.int .i64 (0)), (.int .i64 (0)), (.int .i64 (0)), (.int .i64 (0)), (.int .i64 (0)), (.int .i64 (0)), (.int .i64 (0)), (.int .i64 (0)), (.int .i64 (0)), (.int .i64 (0)), (.int .i64 (0)), (.int .i64 (0)), (.int .i64 (0)), (.int .i64 (0)), (.int .i64 (0)), (.int .i64 (0)), (.int .i64 (0)), (.int .i64 (0)), (.int .i64 (0)), (.int .i64 (0)), (.int .i64 (0)), (.int .i64 (0)), (.int .i64 (0)), (.int .i64 (0)), (.int .i64 (0)), (.int .i64 (0)), (.int .i64 (0)), (.int .i64 (0)), (.int .i64 (0)), (.int .i64 (0)), (.int .i64 (0)), (.int .i64 (0)), (.int .i64 (0)), (.int .i64 (0)), (.int .i64 (0)), (.int .i64 (0)), (.int .i64 (0)), (.int .i64 (0)), (.int .i64 (0)), (.int .i64 (0)), (.int .i64 (0)), (.int .i64 (0)), (.int .i64 (0)), (.int .i64 (0)), (.int .i64 (0)), (.int .i64 (0)), (.int .i64 (0)), (.int .i64 (0)), (.int .i64 (0)), (.int .i64 (0)), (.int .i64 (0)), (.int .i64 (0)), (.int .i64 (0)), (.int .i64 (0)), (.int .i64 (0)), (.int .i64 (0)), (.int .i64 (0)), (.int .i64 (0)), (.int .i64 (0)), (.int .i64 (0)), (.int .i64 (0)), (.int .i64 (0)), (.int .i64 (0)), (.int .i64 (0)), (.int .i64 (0)), (.int .i64 (0)), (.int .i64 (0)), (.int .i64 (0)), (.int .i64 (0)), (.int .i64 (0)), (.int .i64 (0)), (.int .i64 (0)), (.int .i64 (0)), (.int .i64 (0)), (.int .i64 (0)), (.int .i64 (0)), (.int .i64 (0)), (.int .i64 (0)), (.int .i64 (0)), (.int .i64 (0)), (.int .i64 (0)), (.int .i64 (0)), (.int .i64 (0)), (.int .i64 (0)), (.int .i64 (0)), (.int .i64 (0)), (.int .i64 (0)), (.int .i64 (0)), (.int .i64 (0)), (.int .i64 (0)), (.int .i64 (0)), (.int .i64 (0)), (.int .i64 (0)), (.int .i64 (0)), (.int .i64 (0)), (.int .i64 (0)), (.int .i64 (0)), (.int .i64 (0)), (.int .i64 (0)), (.int .i64 (0)), (.int .i64 (0)), (.int .i64 (0)), (.int .i64 (0)), (.int .i64 (0)), (.int .i64 (0)), (.int .i64 (0)), (.int .i64 (0)), (.int .i64 (0)), (.int .i64 (0)), (.int .i64 (0)), (.int .i64 (0)), (.int .i64 (0)), (.int .i64 (0)), (.int .i64 (0)), (.int .i64 (0)), (.int .i64 (0)), (.int .i64 (0)), (.int .i64 (0)), (.int .i64 (0)), (.int .i64 (0)), (.int .i64 (0)), (.int .i64 (0)), (.int .i64 (0)), (.int .i64 (0)), (.int .i64 (0)), (.int .i64 (0)), (.int .i64 (0)), (.int .i64 (0)), (.int .i64 (0)), (.int .i64 (0)), (.int .i64 (0)), (.int .i64 (0)), (.int .i64 (0)), (.int .i64 (0)), (.int .i64 (0)), (.int .i64 (0)), (.int .i64 (0)), (.int .i64 (0)), (.int .i64 (0)), (.int .i64 (0)), (.int .i64 (0)), (.int .i64 (0)), (.int .i64 (0)), (.int .i64 (0)), (.int .i64 (0)), (.int .i64 (0)), (.int .i64 (0)), (.int .i64 (0)), (.int .i64 (0)), (.int .i64 (0)), (.int .i64 (0)), (.int .i64 (0)), (.int .i64 (0)), (.int .i64 (0)), (.int .i64 (0)), (.int .i64 (0)), (.int .i64 (0)), (.int .i64 (0)), (.int .i64 (0)), (.int .i64 (0)), (.int .i64 (0)), (.int .i64 (0)), (.int .i64 (0)), (.int .i64 (0)), (.int .i64 (0)), (.int .i64 (0)), (.int .i64 (0)), (.int .i64 (0)), (.int .i64 (0)), (.slice none 0 0)] [(0, 256)]) [.t 7],
 oA 9 (.box 371 269) [.t 8],
 oM 3 9] [1,3])
 (.seq (.seq (cR [oA 4 .move [.c (.int .i64 (1))]] [1,3,4])
 (.block 0 (.loop [1,3,4] l236_1)))
 (.seq (cR [oM 44 3,
 oM 2 44] [2])
 (.ret)))),
 [.tmp 2], none⟩

def l237_0 : Code :=
 .seq (cR [oA 20 (.bin .lss) [.t 19,.t 18]] [0,2,3,4,5,6,18,19,20])
 (.seq (.cond (.t 20) (.skip)
 (.exit 2))
 (.seq (.block 3 (.seq (cR [oM 21 0,
 oA 22 .nilCheck [.t 21],
 oA 23 (.fieldAddr 268) [.t 22],
 oA 24 (.load false 1) [.t 23],
 oM 25 5,
 oA 26 (.idxAddr 1) [.t 24,.t 25],
 oA 27 (.load false 1) [.t 26],
 oM 28 4,
 oA 29 (.idxAddrA 256 1) [.t 3,.t 27],
 oN (.store 1) [.t 29,.t 28]] [0,2,3,4,5,6,18,19])
 (.seq (cR [oM 30 4,
 oA 31 (.bin .add) [.t 30,.c (.int .i64 (1))],
 oM 4 31] [0,2,3,4,5,6,18,19])
 (cR [oM 32 5,
 oA 33 (.bin .add) [.t 32,.c (.int .i64 (1))],
 oM 5 33] [0,2,3,4,5,6,18,19]))))
 (cR [oA 34 (.bin .add) [.t 19,.c (.int .i64 (1))],
 oM 19 34] [0,2,3,4,5,6,18,19])))
def l237_1 : Code :=
 .seq (.seq (cR [oM 7 6,
 oA 8 (.bin .leq) [.t 7,.c (.int .i64 (11))]] [0,2,3,4,5,6,8])
 (.cond (.t 8) (.skip)
 (.exit 0)))
 (.seq (.block 1 (.seq (cR [oM 11 4,
 oA 12 (.bin .shl) [.t 11,.c (.int .u64 (1))],
 oM 4 12] [0,2,3,4,5,6])
 (.seq (cR [oM 13 0,
 oM 14 6,
 oA 15 .nilCheck [.t 13],
 oA 16 (.fieldAddr 256) [.t 15],
 oA 17 (.idxAddrA 12 1) [.t 16,.t 14],
 oA 18 (.load false 1) [.t 17],
 oA 19 .move [.c (.int .i64 (0))]] [0,2,3,4,5,6,18,19])
 (.block 2 (.loop [0,2,3,4,5,6,18,19] l237_0)))))
 (cR [oM 9 6,
 oA 10 (.bin .add) [.t 9,.c (.int .i64 (1))],
 oM 6 10] [0,2,3,4,5,6]))
def f237 : Func := ⟨.seq (cR [oA 2 (.new 331 256 (List.replicate 256 (.int .i64 (0)))) []] [0,2])
 (.seq (cR [oA 3 (.new 331 256 (List.replicate 256 (.int .i64 (0)))) []] [0,2,3])
 (.seq (cR [oA 4 .move [.c (.int .i64 (0))],
 oA 5 .move [.c (.int .i64 (0))]] [0,2,3,4,5])
 (.seq (.seq (cR [oA 6 .move [.c (.int .i64 (1))]] [0,2,3,4,5,6])
 (.block 0 (.loop [0,2,3,4,5,6] l237_1)))
 (.seq (cR [oA 35 (.load true 256) [.t 3],
 oN (.store 256) [.t 2,.t 35]] [2])
 (.ret))))),
 [.cell 2 true 256], none⟩

def l238_0 : Code :=
 .seq (.seq (cR [oM 9 6,
 oA 10 (.bin .geq) [.t 9,.c (.int .i64 (0))]] [0,1,6,10])
 (.cond (.t 10) (.skip)
 (.exit 0)))
 (.seq (.block 1 (.seq (.seq (cR [oM 13 0,
 oA 14 .nilCheck [.t 13],
 oA 15 (.fieldAddr 1) [.t 14],
 oA 16 (.load false 1) [.t 15],
 oA 17 (.bin .eql) [.t 16,.c (.int .i64 (0))]] [0,1,6,17])
 (.cond (.t 17) (cR [oM 18 0,
 oM 19 0,
 oM 20 0,
 oA 21 .nilCheck [.t 20],
 oA 22 (.fieldAddr 0) [.t 21],
 oA 23 (.load false 1) [.t 22],
 oA 24 (.buildSlice 5 1 1 [(.int .u8 (0))] [(0, 1)]) [.c (.int .u8 (0))],
 oA 25 (.append 5 1 1) [.t 23,.t 24],
 oA 26 .nilCheck [.t 18],
 oA 27 (.fieldAddr 0) [.t 26],
 oN (.store 1) [.t 27,.t 25],
 oA 28 .nilCheck [.t 19],
 oA 29 (.fieldAddr 1) [.t 28],
 oN (.store 1) [.t 29,.c (.int .i64 (8))]] [0,1,6])
 (.skip)))
 (.seq (cR [oM 30 0,
 oA 31 .nilCheck [.t 30],
 oA 32 (.fieldAddr 1) [.t 31],
 oA 33 (.load false 1) [.t 32],
 oA 34 (.bin .sub) [.t 33,.c (.int .i64 (1))],
 oA 35 .nilCheck [.t 30],
 oA 36 (.fieldAddr 1) [.t 35],
 oN (.store 1) [.t 36,.t 34]] [0,1,6])
 (cD [⟨[oM 37 0,
 oA 38 .nilCheck [.t 37],
 oA 39 (.fieldAddr 0) [.t 38],
 oA 40 (.load false 1) [.t 39],
 oM 41 0,
 oA 42 .nilCheck [.t 41],
 oA 43 (.fieldAddr 0) [.t 42],
 oA 44 (.load false 1) [.t 43],
 oA 45 .lenS [.t 44],
 oA 46 (.bin .sub) [.t 45,.c (.int .i64 (1))],
 oA 47 (.idxAddr 1) [.t 40,.t 46],
 oA 48 (.load false 1) [.t 47],
 oM 49 1,
 oM 50 6,
 oA 51 (.bin .shr) [.t 49,.t 50],
 oA 52 (.bin .and) [.t 51,.c (.int .i64 (1))],
 oA 53 (.toInt .u8) [.t 52],
 oM 54 0,
 oA 55 .nilCheck [.t 54],
 oA 56 (.fieldAddr 1) [.t 55],
 oA 57 (.load false 1) [.t 56],
 oA 58 (.bin .shl) [.t 53,.t 57],
 oA 59 (.bin .or) [.t 48,.t 58],
 oA 60 (.idxAddr 1) [.t 40,.t 46]],some (oN (.store 1) [.t 60,.t 59]),[],[]⟩] [37,38,39,40,41,42,43,44,45,46,47,48,49,50,51,52,53,54,55,56,57,58,59,60] [0,1,6]))))
 (cR [oM 11 6,
 oA 12 (.bin .sub) [.t 11,.c (.int .i64 (1))],
 oM 6 12] [0,1,6]))
def f238 : Func := ⟨.seq (cR [oM 7 2,
 oA 8 (.bin .sub) [.t 7,.c (.int .i64 (1))],
 oM 6 8] [0,1,6])
 (.block 0 (.loop [0,1,6] l238_0)),
 [], none⟩

def l240_0 : Code :=
 .block 1 (.seq (cR [oM 19 2,
 oM 20 1,
 oA 21 (.bin .sub) [.t 19,.t 20],
 oM 10 21] [0,1,2,3,8,9,10])
 (.seq (.seq (cR [oM 22 10,
 oA 23 (.bin .leq) [.t 22,.c (.int .i64 (12))]] [0,1,2,3,8,9,10,23])
 (.cond (.t 23) (.seq (cR [oM 24 0,
 oM 25 1,
 oM 26 2,
 oA 27 .call [.c (.func (.func 274) #[] #[]),.t 24,.t 25,.t 26]] [])
 (.ret))
 (.skip)))
 (.seq (.seq (cR [oM 28 3,
 oA 29 (.bin .eql) [.t 28,.c (.int .i64 (0))]] [0,1,2,3,8,9,10,29])
 (.cond (.t 29) (.seq (cR [oM 30 0,
 oM 31 1,
 oM 32 2,
 oA 33 .call [.c (.func (.func 275) #[] #[]),.t 30,.t 31,.t 32]] [])
 (.ret))
 (.skip)))
 (.seq (.seq (cR [oM 34 8,
 oA 35 (.un .not) [.t 34]] [0,1,2,3,8,9,10,35])
 (.cond (.t 35) (.seq (cR [oM 36 0,
 oM 37 1,
 oM 38 2,
 oA 39 .call [.c (.func (.func 276) #[] #[]),.t 36,.t 37,.t 38]] [0,1,2,3,8,9,10])
 (cR [oM 40 3,
 oA 41 (.bin .sub) [.t 40,.c (.int .i64 (1))],
 oM 3 41] [0,1,2,3,8,9,10]))
 (.skip)))
 (.seq (cR [oM 43 0,
 oM 44 1,
 oM 45 2,
 oA 46 .call [.c (.func (.func 277) #[] #[]),.t 43,.t 44,.t 45],
 oM 42 46,
 oA 47 (.extract 0) [.t 42],
 oA 48 (.extract 1) [.t 42],
 oM 11 47,
 oM 12 48] [0,1,2,3,8,9,10,11,12])
 (.seq (.seq (cR [oM 49 12,
 oA 50 (.bin .eql) [.t 49,.c (.int .i64 (2))]] [0,1,2,3,8,9,10,11,12,50])
 (.cond (.t 50) (.seq (cR [oM 51 0,
 oM 52 1,
 oM 53 2,
 oA 54 .call [.c (.func (.func 278) #[] #[]),.t 51,.t 52,.t 53]] [0,1,2,3,8,9,10,11])
 (.seq (cR [oM 55 2,
 oA 56 (.bin .sub) [.t 55,.c (.int .i64 (1))],
 oM 57 11,
 oM 58 1,
 oA 59 (.bin .sub) [.t 57,.t 58],
 oA 60 (.bin .sub) [.t 56,.t 59],
 oM 11 60] [0,1,2,3,8,9,10,11])
 (cR [oA 12 .move [.c (.int .i64 (1))]] [0,1,2,3,8,9,10,11,12])))
 (.skip)))
 (.seq (.seq (cR [oM 61 8,
 oM 62 61,
 oG (some 63) .move [.t 9] 62 true,
 oA 64 .pick [.t 62,.t 63,.c (.bool false)],
 oM 65 64,
 oG (some 66) .move [.t 12] 65 true,
 oG (some 67) (.bin .eql) [.t 66,.c (.int .i64 (1))] 65 true,
 oA 68 .pick [.t 65,.t 67,.c (.bool false)]] [0,1,2,3,8,9,10,11,68])
 (.cond (.t 68) (.seq (cR [oM 69 0,
 oM 70 1,
 oM 71 2,
 oA 72 .call [.c (.func (.func 279) #[] #[]),.t 69,.t 70,.t 71]] [0,1,2,3,8,9,10,11,72])
 (.cond (.t 72) (.ret)
 (.skip)))
 (.skip)))
 (.seq (.seq (cD [⟨[oM 73 1,
 oA 74 (.bin .gtr) [.t 73,.c (.int .i64 (0))],
 oM 75 74,
 oG (some 76) .move [.t 0] 75 true,
 oG (some 77) .move [.t 1] 75 true,
 oG (some 78) (.bin .sub) [.t 77,.c (.int .i64 (1))] 75 true,
 oG (some 79) (.idxAddr 1) [.t 76,.t 78] 75 true,
 oG (some 80) (.load false 1) [.t 79] 75 true,
 oG (some 81) .move [.t 0] 75 true,
 oG (some 82) .move [.t 11] 75 true,
 oG (some 83) (.idxAddr 1) [.t 81,.t 82] 75 true,
 oG (some 84) (.load false 1) [.t 83] 75 true],some (oG (some 85) .call [.c (.func (.func 280) #[] #[]),.t 80,.t 84] 75 true),[],[]⟩,
 ⟨[oG (some 86) (.un .not) [.t 85] 75 true,
 oA 87 .pick [.t 75,.t 86,.c (.bool false)]],none,[],[]⟩] [73,74,75,76,77,78,79,80,81,82,83,84,85,86,87] [0,1,2,3,8,9,10,11,87])
 (.cond (.t 87) (.seq (cR [oM 88 0,
 oM 89 1,
 oM 90 2,
 oM 91 11,
 oA 92 .call [.c (.func (.func 281) #[] #[]),.t 88,.t 89,.t 90,.t 91],
 oM 13 92] [0,2,3,8,9,13])
 (.seq (cR [oM 93 13,
 oM 1 93] [0,1,2,3,8,9])
 (.exit 1)))
 (.skip)))
 (.seq (cR [oM 95 0,
 oM 96 1,
 oM 97 2,
 oM 98 11,
 oA 99 .call [.c (.func (.func 282) #[] #[]),.t 95,.t 96,.t 97,.t 98],
 oM 94 99,
 oA 100 (.extract 0) [.t 94],
 oA 101 (.extract 1) [.t 94],
 oM 14 100,
 oM 15 101] [0,1,2,3,10,14,15])
 (.seq (cR [oM 102 15,
 oM 9 102] [0,1,2,3,9,10,14])
 (.seq (cR [oM 103 14,
 oM 104 1,
 oA 105 (.bin .sub) [.t 103,.t 104],
 oM 106 2,
 oM 107 14,
 oA 108 (.bin .sub) [.t 106,.t 107],
 oM 16 105,
 oM 17 108] [0,1,2,3,9,10,14,16,17])
 (.seq (cR [oM 109 10,
 oA 110 (.bin .quo) [.t 109,.c (.int .i64 (8))],
 oM 18 110] [0,1,2,3,9,14,16,17,18])
 (.seq (cR [oM 111 16,
 oM 112 17,
 oA 113 (.bin .lss) [.t 111,.t 112]] [0,1,2,3,9,14,16,17,18,113])
 (.cond (.t 113) (.seq (cR [oM 114 16,
 oM 115 18,
 oA 116 (.bin .geq) [.t 114,.t 115],
 oM 8 116] [0,1,2,3,8,9,14])
 (.seq (cR [oM 117 0,
 oM 118 1,
 oM 119 14,
 oM 120 3,
 oA 121 .call [.c (.func (.func 240) #[] #[]),.t 117,.t 118,.t 119,.t 120]] [0,2,3,8,9,14])
 (cR [oM 122 14,
 oA 123 (.bin .add) [.t 122,.c (.int .i64 (1))],
 oM 1 123] [0,1,2,3,8,9])))
 (.seq (cR [oM 124 17,
 oM 125 18,
 oA 126 (.bin .geq) [.t 124,.t 125],
 oM 8 126] [0,1,2,3,8,9,14])
 (.seq (cR [oM 127 0,
 oM 128 14,
 oA 129 (.bin .add) [.t 128,.c (.int .i64 (1))],
 oM 130 2,
 oM 131 3,
 oA 132 .call [.c (.func (.func 240) #[] #[]),.t 127,.t 129,.t 130,.t 131]] [0,1,3,8,9,14])
 (cR [oM 133 14,
 oM 2 133] [0,1,2,3,8,9])))))))))))))))))
def f240 : Func := ⟨.seq (cR [oA 8 .move [.c (.bool true)]] [0,1,2,3,8])
 (.seq (cR [oA 9 .move [.c (.bool true)]] [0,1,2,3,8,9])
 (.block 0 (.loop [0,1,2,3,8,9] l240_0))),
 [], none⟩

def f241 : Func := ⟨.seq (cR [oA 2 .move [.c (.int .i64 (0))]] [0])
 (.seq (.cond (.c (.bool false)) (.seq (cR [oM 3 0,
 oA 4 (.toInt .u32) [.t 3],
 oA 5 .call [.c (.func (.func 283) #[] #[]),.t 4],
 oM 2 5] [2])
 (.ret))
 (.skip))
 (.seq (cR [oM 6 0,
 oA 7 .call [.c (.func (.func 284) #[] #[]),.t 6],
 oM 2 7] [2])
 (.ret))),
 [.tmp 2], none⟩

def f242 : Func := ⟨.seq (cR [oM 4 0,
 oM 5 0,
 oA 6 .nilCheck [.t 5],
 oA 7 (.fieldAddr 0) [.t 6],
 oA 8 (.fieldAddr 1) [.t 7],
 oA 9 (.load false 1) [.t 8],
 oM 10 1,
 oM 11 1,
 oA 12 (.bin .add) [.t 11,.c (.int .i64 (1))],
 oA 13 .call [.c (.func (.func 204) #[] #[]),.t 9,.t 10,.t 12],
 oA 14 .nilCheck [.t 4],
 oA 15 (.fieldAddr 0) [.t 14],
 oA 16 (.fieldAddr 1) [.t 15],
 oN (.store 1) [.t 16,.t 13]] [0,1])
 (.seq (cR [oM 17 0,
 oM 18 0,
 oA 19 .nilCheck [.t 18],
 oA 20 (.fieldAddr 0) [.t 19],
 oA 21 (.fieldAddr 4) [.t 20],
 oA 22 (.load false 1) [.t 21],
 oM 23 1,
 oM 24 1,
 oA 25 (.bin .add) [.t 24,.c (.int .i64 (1))],
 oA 26 .call [.c (.func (.func 285) #[] #[]),.t 22,.t 23,.t 25],
 oA 27 .nilCheck [.t 17],
 oA 28 (.fieldAddr 0) [.t 27],
 oA 29 (.fieldAddr 4) [.t 28],
 oN (.store 1) [.t 29,.t 26]] [0,1])
 (.seq (cR [oM 30 0,
 oM 31 0,
 oA 32 .nilCheck [.t 31],
 oA 33 (.fieldAddr 7) [.t 32],
 oA 34 (.load false 1) [.t 33],
 oM 35 1,
 oM 36 1,
 oA 37 (.bin .add) [.t 36,.c (.int .i64 (1))],
 oA 38 .call [.c (.func (.func 286) #[] #[]),.t 34,.t 35,.t 37],
 oA 39 .nilCheck [.t 30],
 oA 40 (.fieldAddr 7) [.t 39],
 oN (.store 1) [.t 40,.t 38]] [0])
 (cR [oM 41 0,
 oA 42 .nilCheck [.t 41],
 oA 43 (.fieldAddr 11) [.t 42],
 oN (.store 1) [.t 43,.c (.bool true)]] []))),
 [], none⟩
end Go.Proofs.YtlelihddjacplaaGreat.AM
namespace Go.Proofs.YtlelihddjacplaaGreat.AM
def f243 : Func := ⟨.seq (cD [⟨[oM 4 0,
 oM 5 0,
 oA 6 .nilCheck [.t 5],
 oA 7 (.fieldAddr 0) [.t 6],
 oA 8 (.fieldAddr 1) [.t 7],
 oA 9 (.load false 1) [.t 8],
 oM 10 1,
 oA 11 .nilCheck [.t 10],
 oA 12 (.fieldAddr 0) [.t 11],
 oA 13 (.fieldAddr 1) [.t 12],
 oA 14 (.load false 1) [.t 13]],some (oA 15 (.append 3 1 8) [.t 9,.t 14]),[],[]⟩,
 ⟨[oA 16 .nilCheck [.t 4],
 oA 17 (.fieldAddr 0) [.t 16],
 oA 18 (.fieldAddr 1) [.t 17]],some (oN (.store 1) [.t 18,.t 15]),[],[]⟩] [4,5,6,7,8,9,10,11,12,13,14,15,16,17,18] [0,1])
 (.seq (cD [⟨[oM 19 0,
 oM 20 0,
 oA 21 .nilCheck [.t 20],
 oA 22 (.fieldAddr 0) [.t 21],
 oA 23 (.fieldAddr 2) [.t 22],
 oA 24 (.load false 1) [.t 23],
 oM 25 1,
 oA 26 .nilCheck [.t 25],
 oA 27 (.fieldAddr 0) [.t 26],
 oA 28 (.fieldAddr 2) [.t 27],
 oA 29 (.load false 1) [.t 28]],some (oA 30 (.append 68 3 24) [.t 24,.t 29]),[],[]⟩,
 ⟨[oA 31 .nilCheck [.t 19],
 oA 32 (.fieldAddr 0) [.t 31],
 oA 33 (.fieldAddr 2) [.t 32]],some (oN (.store 1) [.t 33,.t 30]),[],[]⟩] [19,20,21,22,23,24,25,26,27,28,29,30,31,32,33] [0,1])
 (.seq (cD [⟨[oM 34 0,
 oM 35 0,
 oA 36 .nilCheck [.t 35],
 oA 37 (.fieldAddr 0) [.t 36],
 oA 38 (.fieldAddr 3) [.t 37],
 oA 39 (.load false 1) [.t 38],
 oM 40 1,
 oA 41 .nilCheck [.t 40],
 oA 42 (.fieldAddr 0) [.t 41],
 oA 43 (.fieldAddr 3) [.t 42],
 oA 44 (.load false 1) [.t 43]],some (oA 45 (.append 3 1 8) [.t 39,.t 44]),[],[]⟩,
 ⟨[oA 46 .nilCheck [.t 34],
 oA 47 (.fieldAddr 0) [.t 46],
 oA 48 (.fieldAddr 3) [.t 47]],some (oN (.store 1) [.t 48,.t 45]),[],[]⟩] [34,35,36,37,38,39,40,41,42,43,44,45,46,47,48] [0,1])
 (.seq (cD [⟨[oM 49 0,
 oM 50 0,
 oA 51 .nilCheck [.t 50],
 oA 52 (.fieldAddr 0) [.t 51],
 oA 53 (.fieldAddr 4) [.t 52],
 oA 54 (.load false 1) [.t 53],
 oM 55 1,
 oA 56 .nilCheck [.t 55],
 oA 57 (.fieldAddr 0) [.t 56],
 oA 58 (.fieldAddr 4) [.t 57],
 oA 59 (.load false 1) [.t 58]],some (oA 60 (.append 111 3 24) [.t 54,.t 59]),[],[]⟩,
 ⟨[oA 61 .nilCheck [.t 49],
 oA 62 (.fieldAddr 0) [.t 61],
 oA 63 (.fieldAddr 4) [.t 62]],some (oN (.store 1) [.t 63,.t 60]),[],[]⟩] [49,50,51,52,53,54,55,56,57,58,59,60,61,62,63] [0,1])
 (.seq (cD [⟨[oM 64 0,
 oM 65 0,
 oA 66 .nilCheck [.t 65],
 oA 67 (.fieldAddr 7) [.t 66],
 oA 68 (.load false 1) [.t 67],
 oM 69 1,
 oA 70 .nilCheck [.t 69],
 oA 71 (.fieldAddr 7) [.t 70],
 oA 72 (.load false 1) [.t 71]],some (oA 73 (.append 236 1 8) [.t 68,.t 72]),[],[]⟩,
 ⟨[oA 74 .nilCheck [.t 64],
 oA 75 (.fieldAddr 7) [.t 74]],some (oN (.store 1) [.t 75,.t 73]),[],[]⟩] [64,65,66,67,68,69,70,71,72,73,74,75] [0,1])
 (cR [oM 76 0,
 oM 77 0,
 oM 78 1,
 oA 79 .nilCheck [.t 78],
 oA 80 (.fieldAddr 6) [.t 79],
 oA 81 (.load false 1) [.t 80],
 oA 82 .nilCheck [.t 76],
 oA 83 (.fieldAddr 6) [.t 82],
 oN (.store 1) [.t 83,.t 81],
 oA 84 .nilCheck [.t 77],
 oA 85 (.fieldAddr 11) [.t 84],
 oN (.store 1) [.t 85,.c (.bool true)]] []))))),
 [], none⟩

def f244 : Func := ⟨.seq (cR [oA 4 .move [.c (.pointer none)]] [0,1])
 (.seq (cD [⟨[oM 6 0,
 oA 7 .nilCheck [.t 6],
 oA 8 (.fieldAddr 0) [.t 7],
 oA 9 (.fieldAddr 0) [.t 8],
 oA 10 (.load false 1) [.t 9],
 oA 11 (.build [(.int .i64 (0)), (.slice none 0 0), (.slice none 0 0), (.slice none 0 0), (.slice none 0 0)] [(0, 1)]) [.t 10],
 oM 12 0,
 oA 13 .nilCheck [.t 12],
 oA 14 (.fieldAddr 0) [.t 13],
 oA 15 (.fieldAddr 1) [.t 14],
 oA 16 (.load false 1) [.t 15],
 oM 17 1,
 oA 18 (.idxAddr 1) [.t 16,.t 17],
 oA 19 (.load false 1) [.t 18],
 oM 20 0,
 oA 21 .nilCheck [.t 20],
 oA 22 (.fieldAddr 6) [.t 21],
 oA 23 (.load false 1) [.t 22],
 oA 24 (.build [(.int .i64 (0)), (.slice none 0 0), (.slice none 0 0), (.slice none 0 0), (.slice none 0 0), (.int .i64 (0)), (.int .i64 (0)), (.slice none 0 0), (.int .i64 (0)), (.int .i64 (0)), (.int .i64 (0)), (.bool false)] [(0, 5), (5, 1), (6, 1), (11, 1)]) [.t 11,.t 19,.t 23,.c (.bool true)]],some (oA 25 (.box 245 12) [.t 24]),[],[]⟩,
 ⟨[oM 5 25],none,[],[]⟩] [6,7,8,9,10,11,12,13,14,15,16,17,18,19,20,21,22,23,24,25,5] [0,1,5])
 (.seq (cR [oM 26 0,
 oM 27 0,
 oM 28 5,
 oA 29 .nilCheck [.t 28],
 oA 30 (.fieldAddr 5) [.t 29],
 oA 31 (.load false 1) [.t 30],
 oA 32 .nilCheck [.t 26],
 oA 33 (.fieldAddr 6) [.t 32],
 oN (.store 1) [.t 33,.t 31],
 oA 34 .nilCheck [.t 27],
 oA 35 (.fieldAddr 11) [.t 34],
 oN (.store 1) [.t 35,.c (.bool true)]] [0,1,5])
 (.seq (cD [⟨[oM 36 0,
 oM 37 5,
 oM 38 0,
 oA 39 .nilCheck [.t 38],
 oA 40 (.fieldAddr 0) [.t 39],
 oA 41 (.fieldAddr 1) [.t 40],
 oA 42 (.load false 1) [.t 41],
 oM 43 1,
 oM 44 1,
 oA 45 (.slice 1 false true true) [.t 42,.t 43,.t 44],
 oM 46 0,
 oA 47 .nilCheck [.t 46],
 oA 48 (.fieldAddr 0) [.t 47],
 oA 49 (.fieldAddr 1) [.t 48],
 oA 50 (.load false 1) [.t 49],
 oM 51 1,
 oA 52 (.slice 1 true false false) [.t 50,.t 51]],some (oA 53 .call [.c (.func (.func 201) #[] #[]),.t 52]),[42],[]⟩,
 ⟨[oA 54 .nilCheck [.t 36],
 oA 55 (.fieldAddr 0) [.t 54],
 oA 56 (.fieldAddr 1) [.t 55]],some (oN (.store 1) [.t 56,.t 45]),[],[]⟩,
 ⟨[oA 57 .nilCheck [.t 37],
 oA 58 (.fieldAddr 0) [.t 57],
 oA 59 (.fieldAddr 1) [.t 58]],some (oN (.store 1) [.t 59,.t 53]),[],[]⟩] [36,37,38,39,40,41,42,43,44,45,46,47,48,49,50,51,52,53,54,55,56,57,58,59] [0,1,5])
 (.seq (.seq (cR [oM 60 0,
 oA 61 .nilCheck [.t 60],
 oA 62 (.fieldAddr 0) [.t 61],
 oA 63 (.fieldAddr 0) [.t 62],
 oA 64 (.load false 1) [.t 63],
 oA 65 (.bin .eql) [.t 64,.c (.int .i64 (0))]] [0,1,5,65])
 (.cond (.t 65) (.seq (cD [⟨[oM 66 0,
 oM 67 5,
 oM 68 0,
 oA 69 .nilCheck [.t 68],
 oA 70 (.fieldAddr 0) [.t 69],
 oA 71 (.fieldAddr 2) [.t 70],
 oA 72 (.load false 1) [.t 71],
 oM 73 1,
 oM 74 1,
 oA 75 (.slice 3 false true true) [.t 72,.t 73,.t 74],
 oM 76 0,
 oA 77 .nilCheck [.t 76],
 oA 78 (.fieldAddr 0) [.t 77],
 oA 79 (.fieldAddr 2) [.t 78],
 oA 80 (.load false 1) [.t 79],
 oM 81 1,
 oA 82 (.slice 3 true false false) [.t 80,.t 81]],some (oA 83 .call [.c (.func (.func 202) #[] #[]),.t 82]),[72],[]⟩,
 ⟨[oA 84 .nilCheck [.t 66],
 oA 85 (.fieldAddr 0) [.t 84],
 oA 86 (.fieldAddr 2) [.t 85]],some (oN (.store 1) [.t 86,.t 75]),[],[]⟩,
 ⟨[oA 87 .nilCheck [.t 67],
 oA 88 (.fieldAddr 0) [.t 87],
 oA 89 (.fieldAddr 2) [.t 88]],some (oN (.store 1) [.t 89,.t 83]),[],[]⟩] [66,67,68,69,70,71,72,73,74,75,76,77,78,79,80,81,82,83,84,85,86,87,88,89] [0,1,5])
 (.seq (cD [⟨[oM 90 0,
 oM 91 5,
 oM 92 0,
 oA 93 .nilCheck [.t 92],
 oA 94 (.fieldAddr 0) [.t 93],
 oA 95 (.fieldAddr 3) [.t 94],
 oA 96 (.load false 1) [.t 95],
 oM 97 1,
 oM 98 1,
 oA 99 (.slice 1 false true true) [.t 96,.t 97,.t 98],
 oM 100 0,
 oA 101 .nilCheck [.t 100],
 oA 102 (.fieldAddr 0) [.t 101],
 oA 103 (.fieldAddr 3) [.t 102],
 oA 104 (.load false 1) [.t 103],
 oM 105 1,
 oA 106 (.slice 1 true false false) [.t 104,.t 105]],some (oA 107 .call [.c (.func (.func 201) #[] #[]),.t 106]),[96],[]⟩,
 ⟨[oA 108 .nilCheck [.t 90],
 oA 109 (.fieldAddr 0) [.t 108],
 oA 110 (.fieldAddr 3) [.t 109]],some (oN (.store 1) [.t 110,.t 99]),[],[]⟩,
 ⟨[oA 111 .nilCheck [.t 91],
 oA 112 (.fieldAddr 0) [.t 111],
 oA 113 (.fieldAddr 3) [.t 112]],some (oN (.store 1) [.t 113,.t 107]),[],[]⟩] [90,91,92,93,94,95,96,97,98,99,100,101,102,103,104,105,106,107,108,109,110,111,112,113] [5])
 (.seq (cR [oM 114 5,
 oM 4 114] [4])
 (.ret))))
 (.skip)))
 (.seq (cD [⟨[oM 115 0,
 oM 116 5,
 oM 117 0,
 oA 118 .nilCheck [.t 117],
 oA 119 (.fieldAddr 0) [.t 118],
 oA 120 (.fieldAddr 4) [.t 119],
 oA 121 (.load false 1) [.t 120],
 oM 122 1,
 oM 123 1,
 oA 124 (.slice 3 false true true) [.t 121,.t 122,.t 123],
 oM 125 0,
 oA 126 .nilCheck [.t 125],
 oA 127 (.fieldAddr 0) [.t 126],
 oA 128 (.fieldAddr 4) [.t 127],
 oA 129 (.load false 1) [.t 128],
 oM 130 1,
 oA 131 (.slice 3 true false false) [.t 129,.t 130]],some (oA 132 .call [.c (.func (.func 203) #[] #[]),.t 131]),[121],[]⟩,
 ⟨[oA 133 .nilCheck [.t 115],
 oA 134 (.fieldAddr 0) [.t 133],
 oA 135 (.fieldAddr 4) [.t 134]],some (oN (.store 1) [.t 135,.t 124]),[],[]⟩,
 ⟨[oA 136 .nilCheck [.t 116],
 oA 137 (.fieldAddr 0) [.t 136],
 oA 138 (.fieldAddr 4) [.t 137]],some (oN (.store 1) [.t 138,.t 132]),[],[]⟩] [115,116,117,118,119,120,121,122,123,124,125,126,127,128,129,130,131,132,133,134,135,136,137,138] [0,1,5])
 (.seq (cD [⟨[oM 139 0,
 oM 140 5,
 oM 141 0,
 oA 142 .nilCheck [.t 141],
 oA 143 (.fieldAddr 7) [.t 142],
 oA 144 (.load false 1) [.t 143],
 oM 145 1,
 oM 146 1,
 oA 147 (.slice 1 false true true) [.t 144,.t 145,.t 146],
 oM 148 0,
 oA 149 .nilCheck [.t 148],
 oA 150 (.fieldAddr 7) [.t 149],
 oA 151 (.load false 1) [.t 150],
 oM 152 1,
 oA 153 (.slice 1 true false false) [.t 151,.t 152]],some (oA 154 .call [.c (.func (.func 287) #[] #[]),.t 153]),[144],[]⟩,
 ⟨[oA 155 .nilCheck [.t 139],
 oA 156 (.fieldAddr 7) [.t 155]],some (oN (.store 1) [.t 156,.t 147]),[],[]⟩,
 ⟨[oA 157 .nilCheck [.t 140],
 oA 158 (.fieldAddr 7) [.t 157]],some (oN (.store 1) [.t 158,.t 154]),[],[]⟩] [139,140,141,142,143,144,145,146,147,148,149,150,151,152,153,154,155,156,157,158] [5])
 (.seq (cR [oM 159 5,
 oM 4 159] [4])
 (.ret)))))))),
 [.tmp 4], none⟩

def f246 : Func := ⟨cR [oM 4 0,
 oM 5 0,
 oA 6 .lenS [.t 5],
 oM 7 1,
 oA 8 (.bin .sub) [.t 6,.t 7],
 oA 9 .call [.c (.func (.func 288) #[] #[]),.t 4,.t 8]] [],
 [], none⟩

def f248 : Func := ⟨cR [oM 4 0,
 oM 5 0,
 oA 6 .lenS [.t 5],
 oM 7 1,
 oA 8 (.bin .sub) [.t 6,.t 7],
 oA 9 .call [.c (.func (.func 289) #[] #[]),.t 4,.t 8]] [],
 [], none⟩

def f249 : Func := ⟨.seq (cR [oA 6 .move [.c (.slice none 0 0)]] [0,1,2])
 (.seq (cR [oM 10 0,
 oM 11 1,
 oA 12 (.slice 3 true false false) [.t 10,.t 11]] [0,1,2])
 (.seq (cR [oM 13 2,
 oA 14 .lenS [.t 13],
 oM 7 14] [0,1,2,7])
 (.seq (.seq (cR [oM 15 7,
 oA 16 (.bin .eql) [.t 15,.c (.int .i64 (0))]] [0,1,2,7,16])
 (.cond (.t 16) (.seq (cR [oM 17 0,
 oM 6 17] [6])
 (.ret))
 (.skip)))
 (.seq (cR [oM 18 0,
 oA 19 .lenS [.t 18],
 oM 8 19] [0,1,2,7,8])
 (.seq (.seq (cR [oM 20 1,
 oM 21 8,
 oA 22 (.bin .eql) [.t 20,.t 21]] [0,1,2,7,8,22])
 (.cond (.t 22) (.seq (cR [oM 23 0,
 oM 24 2,
 oA 25 (.append 111 3 24) [.t 23,.t 24],
 oM 6 25] [6])
 (.ret))
 (.skip)))
 (.seq (.seq (cR [oM 26 8,
 oM 27 7,
 oA 28 (.bin .add) [.t 26,.t 27],
 oM 29 0,
 oA 30 .cap [.t 29],
 oA 31 (.bin .gtr) [.t 28,.t 30]] [0,1,2,7,8,31])
 (.cond (.t 31) (.seq (cR [oM 32 0,
 oM 33 1,
 oA 34 (.slice 3 false true false) [.t 32,.t 33],
 oM 35 8,
 oM 36 7,
 oA 37 (.bin .add) [.t 35,.t 36],
 oM 38 1,
 oA 39 (.bin .sub) [.t 37,.t 38],
 oA 40 (.appendZ 111 3 24 [(.int .i64 (0)), (.int .i64 (0)), (.int .i64 (0))]) [.t 34,.t 39],
 oM 9 40] [0,1,2,7,9])
 (.seq (cR [oM 41 9,
 oM 42 1,
 oA 43 (.slice 3 true false false) [.t 41,.t 42],
 oM 44 2,
 oA 45 (.copy 3) [.t 43,.t 44]] [0,1,7,9])
 (.seq (cD [⟨[oM 46 9,
 oM 47 1,
 oM 48 7,
 oA 49 (.bin .add) [.t 47,.t 48],
 oA 50 (.slice 3 true false false) [.t 46,.t 49],
 oM 51 0,
 oM 52 1,
 oA 53 (.slice 3 true false false) [.t 51,.t 52]],some (oA 54 (.copy 3) [.t 50,.t 53]),[],[]⟩] [46,47,48,49,50,51,52,53,54] [9])
 (.seq (cR [oM 55 9,
 oM 6 55] [6])
 (.ret)))))
 (.skip)))
 (.seq (cR [oM 56 0,
 oM 57 8,
 oM 58 7,
 oA 59 (.bin .add) [.t 57,.t 58],
 oA 60 (.slice 3 false true false) [.t 56,.t 59],
 oM 0 60] [0,1,2,7,8])
 (.seq (.seq (cR [oM 61 2,
 oM 62 0,
 oM 63 1,
 oM 64 7,
 oA 65 (.bin .add) [.t 63,.t 64],
 oA 66 (.slice 3 true false false) [.t 62,.t 65],
 oA 67 .overlaps [.t 61,.t 66],
 oA 68 (.un .not) [.t 67]] [0,1,2,7,8,68])
 (.cond (.t 68) (.seq (cD [⟨[oM 69 0,
 oM 70 1,
 oM 71 7,
 oA 72 (.bin .add) [.t 70,.t 71],
 oA 73 (.slice 3 true false false) [.t 69,.t 72],
 oM 74 0,
 oM 75 1,
 oA 76 (.slice 3 true false false) [.t 74,.t 75]],some (oA 77 (.copy 3) [.t 73,.t 76]),[],[]⟩] [69,70,71,72,73,74,75,76,77] [0,1,2])
 (.seq (cR [oM 78 0,
 oM 79 1,
 oA 80 (.slice 3 true false false) [.t 78,.t 79],
 oM 81 2,
 oA 82 (.copy 3) [.t 80,.t 81]] [0])
 (.seq (cR [oM 83 0,
 oM 6 83] [6])
 (.ret))))
 (.skip)))
 (.seq (cR [oM 84 0,
 oM 85 8,
 oA 86 (.slice 3 true false false) [.t 84,.t 85],
 oM 87 2,
 oA 88 (.copy 3) [.t 86,.t 87]] [0,1,7])
 (.seq (cR [oM 89 0,
 oM 90 1,
 oA 91 (.slice 3 true false false) [.t 89,.t 90],
 oM 92 7,
 oA 93 .call [.c (.func (.func 291) #[] #[]),.t 91,.t 92]] [0])
 (.seq (cR [oM 94 0,
 oM 6 94] [6])
 (.ret)))))))))))),
 [.tmp 6], none⟩

def f250 : Func := ⟨.seq (cR [oA 6 .move [.c (.slice none 0 0)]] [0,1,2])
 (.seq (cR [oM 10 0,
 oM 11 1,
 oA 12 (.slice 1 true false false) [.t 10,.t 11]] [0,1,2])
 (.seq (cR [oM 13 2,
 oA 14 .lenS [.t 13],
 oM 7 14] [0,1,2,7])
 (.seq (.seq (cR [oM 15 7,
 oA 16 (.bin .eql) [.t 15,.c (.int .i64 (0))]] [0,1,2,7,16])
 (.cond (.t 16) (.seq (cR [oM 17 0,
 oM 6 17] [6])
 (.ret))
 (.skip)))
 (.seq (cR [oM 18 0,
 oA 19 .lenS [.t 18],
 oM 8 19] [0,1,2,7,8])
 (.seq (.seq (cR [oM 20 1,
 oM 21 8,
 oA 22 (.bin .eql) [.t 20,.t 21]] [0,1,2,7,8,22])
 (.cond (.t 22) (.seq (cR [oM 23 0,
 oM 24 2,
 oA 25 (.append 236 1 8) [.t 23,.t 24],
 oM 6 25] [6])
 (.ret))
 (.skip)))
 (.seq (.seq (cR [oM 26 8,
 oM 27 7,
 oA 28 (.bin .add) [.t 26,.t 27],
 oM 29 0,
 oA 30 .cap [.t 29],
 oA 31 (.bin .gtr) [.t 28,.t 30]] [0,1,2,7,8,31])
 (.cond (.t 31) (.seq (cR [oM 32 0,
 oM 33 1,
 oA 34 (.slice 1 false true false) [.t 32,.t 33],
 oM 35 8,
 oM 36 7,
 oA 37 (.bin .add) [.t 35,.t 36],
 oM 38 1,
 oA 39 (.bin .sub) [.t 37,.t 38],
 oA 40 (.appendZ 236 1 8 [(.pointer none)]) [.t 34,.t 39],
 oM 9 40] [0,1,2,7,9])
 (.seq (cR [oM 41 9,
 oM 42 1,
 oA 43 (.slice 1 true false false) [.t 41,.t 42],
 oM 44 2,
 oA 45 (.copy 1) [.t 43,.t 44]] [0,1,7,9])
 (.seq (cD [⟨[oM 46 9,
 oM 47 1,
 oM 48 7,
 oA 49 (.bin .add) [.t 47,.t 48],
 oA 50 (.slice 1 true false false) [.t 46,.t 49],
 oM 51 0,
 oM 52 1,
 oA 53 (.slice 1 true false false) [.t 51,.t 52]],some (oA 54 (.copy 1) [.t 50,.t 53]),[],[]⟩] [46,47,48,49,50,51,52,53,54] [9])
 (.seq (cR [oM 55 9,
 oM 6 55] [6])
 (.ret)))))
 (.skip)))
 (.seq (cR [oM 56 0,
 oM 57 8,
 oM 58 7,
 oA 59 (.bin .add) [.t 57,.t 58],
 oA 60 (.slice 1 false true false) [.t 56,.t 59],
 oM 0 60] [0,1,2,7,8])
 (.seq (.seq (cR [oM 61 2,
 oM 62 0,
 oM 63 1,
 oM 64 7,
 oA 65 (.bin .add) [.t 63,.t 64],
 oA 66 (.slice 1 true false false) [.t 62,.t 65],
 oA 67 .overlaps [.t 61,.t 66],
 oA 68 (.un .not) [.t 67]] [0,1,2,7,8,68])
 (.cond (.t 68) (.seq (cD [⟨[oM 69 0,
 oM 70 1,
 oM 71 7,
 oA 72 (.bin .add) [.t 70,.t 71],
 oA 73 (.slice 1 true false false) [.t 69,.t 72],
 oM 74 0,
 oM 75 1,
 oA 76 (.slice 1 true false false) [.t 74,.t 75]],some (oA 77 (.copy 1) [.t 73,.t 76]),[],[]⟩] [69,70,71,72,73,74,75,76,77] [0,1,2])
 (.seq (cR [oM 78 0,
 oM 79 1,
 oA 80 (.slice 1 true false false) [.t 78,.t 79],
 oM 81 2,
 oA 82 (.copy 1) [.t 80,.t 81]] [0])
 (.seq (cR [oM 83 0,
 oM 6 83] [6])
 (.ret))))
 (.skip)))
 (.seq (cR [oM 84 0,
 oM 85 8,
 oA 86 (.slice 1 true false false) [.t 84,.t 85],
 oM 87 2,
 oA 88 (.copy 1) [.t 86,.t 87]] [0,1,7])
 (.seq (cR [oM 89 0,
 oM 90 1,
 oA 91 (.slice 1 true false false) [.t 89,.t 90],
 oM 92 7,
 oA 93 .call [.c (.func (.func 293) #[] #[]),.t 91,.t 92]] [0])
 (.seq (cR [oM 94 0,
 oM 6 94] [6])
 (.ret)))))))))))),
 [.tmp 6], none⟩

def f251 : Func := ⟨cR [oA 3 (.load false 1) [.t 0],
 oA 4 (.fieldAddr 0) [.t 1],
 oA 5 (.load true 3) [.t 4],
 oA 6 (.fieldAddr 3) [.t 1],
 oA 7 (.load false 1) [.t 6],
 oA 8 (.load false 1) [.t 2],
 oA 9 .call [.c (.func (.func 252) #[] #[]),.t 3,.t 5,.t 7,.c (.int .i64 (0)),.c (.int .i64 (512)),.t 8]] [],
 [], none⟩

def l252_0 : Code :=
 .seq (cR [oA 37 (.bin .lss) [.t 36,.t 35]] [0,2,4,5,12,34,35,36,37])
 (.seq (.cond (.t 37) (.skip)
 (.exit 0))
 (.seq (.block 1 (.seq (cR [oM 38 36,
 oA 39 (.idxAddr 3) [.t 34,.t 36],
 oA 40 (.load true 3) [.t 39],
 oA 15 (.new 111 3 [(.int .i64 (0)), (.int .i64 (0)), (.int .i64 (0))]) [],
 oM 14 38,
 oN (.store 3) [.t 15,.t 40]] [0,2,4,5,12,14,15,34,35,36])
 (cD [⟨[oM 41 0,
 oA 42 (.load true 3) [.t 15],
 oM 43 2,
 oA 44 (.bin .sub) [.t 43,.c (.int .i64 (1))],
 oA 45 (.fieldAddr 1) [.t 12],
 oA 46 (.load false 1) [.t 45],
 oM 47 14,
 oA 48 (.idxAddr 1) [.t 46,.t 47],
 oA 49 (.load false 1) [.t 48],
 oA 50 (.load true 5) [.t 12],
 oM 51 14,
 oM 52 4,
 oM 54 5],some (oA 53 .call [.c (.func (.func 93) #[] #[]),.t 50,.t 51,.t 52]),[42,46,49],[]⟩,
 ⟨[],some (oA 55 .call [.c (.func (.func 252) #[] #[]),.t 41,.t 42,.t 44,.t 49,.t 53,.t 54]),[],[]⟩] [41,42,43,44,45,46,47,48,49,50,51,52,53,54,55] [0,2,4,5,12,34,35,36])))
 (cR [oA 56 (.bin .add) [.t 36,.c (.int .i64 (1))],
 oM 36 56] [0,2,4,5,12,34,35,36])))
def f252 : Func := ⟨.seq (cR [oA 7 (.box 111 3) [.t 1]] [0,2,3,4,5,7])
 (.seq (cR [oM 17 0,
 oA 18 (.load true 3) [.t 7],
 oM 19 2,
 oM 20 3,
 oM 21 4,
 oA 22 .call [.c (.func (.func 92) #[] #[]),.t 17,.t 18,.t 19,.t 20,.t 21],
 oM 16 22,
 oA 23 (.extract 0) [.t 16],
 oA 24 (.extract 1) [.t 16],
 oA 12 (.new 171 5 [(.int .i64 (0)), (.slice none 0 0), (.slice none 0 0), (.slice none 0 0), (.slice none 0 0)]) [],
 oN (.store 5) [.t 12,.t 23],
 oM 13 24] [0,2,4,5,7,12,13])
 (.seq (cR [oM 25 13,
 oA 26 (.bin .eql) [.t 25,.c (.int .i64 (0))],
 oM 27 13,
 oA 28 .call [.c (.func (.func 200) #[] #[]),.t 26,.t 27]] [0,2,4,5,7,12])
 (.seq (cR [oM 29 5,
 oA 30 (.load true 3) [.t 7],
 oA 31 (.load true 5) [.t 12],
 oA 32 .call [.t 29,.t 30,.t 31]] [0,2,4,5,12])
 (.seq (cR [oA 33 (.fieldAddr 4) [.t 12],
 oA 34 (.load false 1) [.t 33],
 oA 35 .lenS [.t 34],
 oA 36 .move [.c (.int .i64 (0))]] [0,2,4,5,12,34,35,36])
 (.block 0 (.loop [0,2,4,5,12,34,35,36] l252_0)))))),
 [], none⟩

def l253_0 : Code :=
 .seq (.seq (cD [⟨[oM 18 9,
 oM 19 1,
 oA 20 (.bin .gtr) [.t 18,.t 19],
 oM 21 20,
 oG (some 22) .move [.t 3] 21 true,
 oG (some 23) .move [.t 0] 21 true,
 oG (some 24) .move [.t 9] 21 true,
 oG (some 25) (.idxAddr 5) [.t 23,.t 24] 21 true,
 oG (some 26) (.load true 5) [.t 25] 21 true,
 oG (some 27) .move [.t 0] 21 true,
 oG (some 28) .move [.t 9] 21 true,
 oG (some 29) (.bin .sub) [.t 28,.c (.int .i64 (1))] 21 true,
 oG (some 30) (.idxAddr 5) [.t 27,.t 29] 21 true,
 oG (some 31) (.load true 5) [.t 30] 21 true],some (oG (some 32) .call [.t 22,.t 26,.t 31] 21 true),[],[]⟩,
 ⟨[oG (some 33) (.bin .lss) [.t 32,.c (.int .i64 (0))] 21 true,
 oA 34 .pick [.t 21,.t 33,.c (.bool false)]],none,[],[]⟩] [18,19,20,21,22,23,24,25,26,27,28,29,30,31,32,33,34] [0,1,2,3,8,9,34])
 (.cond (.t 34) (.skip)
 (.exit 2)))
 (.seq (.block 3 (cD [⟨[oM 37 0,
 oM 38 9,
 oM 39 0,
 oM 40 9,
 oA 41 (.bin .sub) [.t 40,.c (.int .i64 (1))],
 oM 42 0,
 oM 43 9,
 oA 44 (.bin .sub) [.t 43,.c (.int .i64 (1))],
 oA 45 (.idxAddr 5) [.t 42,.t 44],
 oA 46 (.load true 5) [.t 45],
 oM 47 0,
 oM 48 9,
 oA 49 (.idxAddr 5) [.t 47,.t 48],
 oA 50 (.load true 5) [.t 49],
 oA 51 (.idxAddr 5) [.t 37,.t 38]],some (oN (.store 5) [.t 51,.t 46]),[],[]⟩,
 ⟨[oA 52 (.idxAddr 5) [.t 39,.t 41]],some (oN (.store 5) [.t 52,.t 50]),[],[]⟩] [37,38,39,40,41,42,43,44,45,46,47,48,49,50,51,52] [0,1,2,3,8,9]))
 (cR [oM 35 9,
 oA 36 (.bin .sub) [.t 35,.c (.int .i64 (1))],
 oM 9 36] [0,1,2,3,8,9]))
def l253_1 : Code :=
 .seq (.seq (cR [oM 12 8,
 oM 13 2,
 oA 14 (.bin .lss) [.t 12,.t 13]] [0,1,2,3,8,14])
 (.cond (.t 14) (.skip)
 (.exit 0)))
 (.seq (.block 1 (.seq (cR [oM 17 8,
 oM 9 17] [0,1,2,3,8,9])
 (.block 2 (.loop [0,1,2,3,8,9] l253_0))))
 (cR [oM 15 8,
 oA 16 (.bin .add) [.t 15,.c (.int .i64 (1))],
 oM 8 16] [0,1,2,3,8]))
def f253 : Func := ⟨.seq (cR [oM 10 1,
 oA 11 (.bin .add) [.t 10,.c (.int .i64 (1))],
 oM 8 11] [0,1,2,3,8])
 (.block 0 (.loop [0,1,2,3,8] l253_1)),
 [], none⟩

def l254_0 : Code :=
 .seq (.seq (cR [oM 31 10,
 oM 32 11,
 oA 33 (.bin .lss) [.t 31,.t 32]] [0,1,4,10,11,33])
 (.cond (.t 33) (.skip)
 (.exit 0)))
 (.block 1 (.seq (cR [oM 34 10,
 oM 35 11,
 oA 36 (.bin .add) [.t 34,.t 35],
 oA 37 (.toInt .u64) [.t 36],
 oA 38 (.bin .shr) [.t 37,.c (.int .u64 (1))],
 oA 39 (.toInt .i64) [.t 38],
 oM 12 39] [0,1,4,10,11,12])
 (.seq (cD [⟨[oM 40 4,
 oM 41 0,
 oM 42 12,
 oA 43 (.idxAddr 5) [.t 41,.t 42],
 oA 44 (.load true 5) [.t 43],
 oM 45 0,
 oM 46 1,
 oA 47 (.idxAddr 5) [.t 45,.t 46],
 oA 48 (.load true 5) [.t 47]],some (oA 49 .call [.t 40,.t 44,.t 48]),[],[]⟩,
 ⟨[oA 50 (.bin .lss) [.t 49,.c (.int .i64 (0))]],none,[],[]⟩] [40,41,42,43,44,45,46,47,48,49,50] [0,1,4,10,11,12,50])
 (.cond (.t 50) (cR [oM 51 12,
 oA 52 (.bin .add) [.t 51,.c (.int .i64 (1))],
 oM 10 52] [0,1,4,10,11])
 (cR [oM 53 12,
 oM 11 53] [0,1,4,10,11])))))
def l254_1 : Code :=
 .seq (.seq (cR [oM 55 13,
 oM 56 10,
 oA 57 (.bin .sub) [.t 56,.c (.int .i64 (1))],
 oA 58 (.bin .lss) [.t 55,.t 57]] [0,10,13,58])
 (.cond (.t 58) (.skip)
 (.exit 2)))
 (.seq (.block 3 (cD [⟨[oM 61 0,
 oM 62 13,
 oM 63 0,
 oM 64 13,
 oA 65 (.bin .add) [.t 64,.c (.int .i64 (1))],
 oM 66 0,
 oM 67 13,
 oA 68 (.bin .add) [.t 67,.c (.int .i64 (1))],
 oA 69 (.idxAddr 5) [.t 66,.t 68],
 oA 70 (.load true 5) [.t 69],
 oM 71 0,
 oM 72 13,
 oA 73 (.idxAddr 5) [.t 71,.t 72],
 oA 74 (.load true 5) [.t 73],
 oA 75 (.idxAddr 5) [.t 61,.t 62]],some (oN (.store 5) [.t 75,.t 70]),[],[]⟩,
 ⟨[oA 76 (.idxAddr 5) [.t 63,.t 65]],some (oN (.store 5) [.t 76,.t 74]),[],[]⟩] [61,62,63,64,65,66,67,68,69,70,71,72,73,74,75,76] [0,10,13]))
 (cR [oM 59 13,
 oA 60 (.bin .add) [.t 59,.c (.int .i64 (1))],
 oM 13 60] [0,10,13]))
def l254_2 : Code :=
 .seq (.seq (cR [oM 83 14,
 oM 84 15,
 oA 85 (.bin .lss) [.t 83,.t 84]] [0,2,4,14,15,85])
 (.cond (.t 85) (.skip)
 (.exit 4)))
 (.block 5 (.seq (cR [oM 86 14,
 oM 87 15,
 oA 88 (.bin .add) [.t 86,.t 87],
 oA 89 (.toInt .u64) [.t 88],
 oA 90 (.bin .shr) [.t 89,.c (.int .u64 (1))],
 oA 91 (.toInt .i64) [.t 90],
 oM 16 91] [0,2,4,14,15,16])
 (.seq (cD [⟨[oM 92 4,
 oM 93 0,
 oM 94 2,
 oA 95 (.idxAddr 5) [.t 93,.t 94],
 oA 96 (.load true 5) [.t 95],
 oM 97 0,
 oM 98 16,
 oA 99 (.idxAddr 5) [.t 97,.t 98],
 oA 100 (.load true 5) [.t 99]],some (oA 101 .call [.t 92,.t 96,.t 100]),[],[]⟩,
 ⟨[oA 102 (.bin .lss) [.t 101,.c (.int .i64 (0))],
 oA 103 (.un .not) [.t 102]],none,[],[]⟩] [92,93,94,95,96,97,98,99,100,101,102,103] [0,2,4,14,15,16,103])
 (.cond (.t 103) (cR [oM 104 16,
 oA 105 (.bin .add) [.t 104,.c (.int .i64 (1))],
 oM 14 105] [0,2,4,14,15])
 (cR [oM 106 16,
 oM 15 106] [0,2,4,14,15])))))
def l254_3 : Code :=
 .seq (.seq (cR [oM 108 17,
 oM 109 14,
 oA 110 (.bin .gtr) [.t 108,.t 109]] [0,14,17,110])
 (.cond (.t 110) (.skip)
 (.exit 6)))
 (.seq (.block 7 (cD [⟨[oM 113 0,
 oM 114 17,
 oM 115 0,
 oM 116 17,
 oA 117 (.bin .sub) [.t 116,.c (.int .i64 (1))],
 oM 118 0,
 oM 119 17,
 oA 120 (.bin .sub) [.t 119,.c (.int .i64 (1))],
 oA 121 (.idxAddr 5) [.t 118,.t 120],
 oA 122 (.load true 5) [.t 121],
 oM 123 0,
 oM 124 17,
 oA 125 (.idxAddr 5) [.t 123,.t 124],
 oA 126 (.load true 5) [.t 125],
 oA 127 (.idxAddr 5) [.t 113,.t 114]],some (oN (.store 5) [.t 127,.t 122]),[],[]⟩,
 ⟨[oA 128 (.idxAddr 5) [.t 115,.t 117]],some (oN (.store 5) [.t 128,.t 126]),[],[]⟩] [113,114,115,116,117,118,119,120,121,122,123,124,125,126,127,128] [0,14,17]))
 (cR [oM 111 17,
 oA 112 (.bin .sub) [.t 111,.c (.int .i64 (1))],
 oM 17 112] [0,14,17]))
def l254_4 : Code :=
 .seq (.seq (cR [oM 149 20,
 oM 150 21,
 oA 151 (.bin .lss) [.t 149,.t 150]] [0,1,2,3,4,18,19,20,21,22,151])
 (.cond (.t 151) (.skip)
 (.exit 8)))
 (.block 9 (.seq (cR [oM 152 20,
 oM 153 21,
 oA 154 (.bin .add) [.t 152,.t 153],
 oA 155 (.toInt .u64) [.t 154],
 oA 156 (.bin .shr) [.t 155,.c (.int .u64 (1))],
 oA 157 (.toInt .i64) [.t 156],
 oM 23 157] [0,1,2,3,4,18,19,20,21,22,23])
 (.seq (cD [⟨[oM 158 4,
 oM 159 0,
 oM 160 22,
 oM 161 23,
 oA 162 (.bin .sub) [.t 160,.t 161],
 oA 163 (.idxAddr 5) [.t 159,.t 162],
 oA 164 (.load true 5) [.t 163],
 oM 165 0,
 oM 166 23,
 oA 167 (.idxAddr 5) [.t 165,.t 166],
 oA 168 (.load true 5) [.t 167]],some (oA 169 .call [.t 158,.t 164,.t 168]),[],[]⟩,
 ⟨[oA 170 (.bin .lss) [.t 169,.c (.int .i64 (0))],
 oA 171 (.un .not) [.t 170]],none,[],[]⟩] [158,159,160,161,162,163,164,165,166,167,168,169,170,171] [0,1,2,3,4,18,19,20,21,22,23,171])
 (.cond (.t 171) (cR [oM 172 23,
 oA 173 (.bin .add) [.t 172,.c (.int .i64 (1))],
 oM 20 173] [0,1,2,3,4,18,19,20,21,22])
 (cR [oM 174 23,
 oM 21 174] [0,1,2,3,4,18,19,20,21,22])))))
def f254 : Func := ⟨.seq (.seq (cR [oM 25 2,
 oM 26 1,
 oA 27 (.bin .sub) [.t 25,.t 26],
 oA 28 (.bin .eql) [.t 27,.c (.int .i64 (1))]] [0,1,2,3,4,28])
 (.cond (.t 28) (.seq (cR [oM 29 2,
 oM 10 29] [0,1,3,4,10])
 (.seq (cR [oM 30 3,
 oM 11 30] [0,1,4,10,11])
 (.seq (.block 0 (.loop [0,1,4,10,11] l254_0))
 (.seq (.seq (cR [oM 54 1,
 oM 13 54] [0,10,13])
 (.block 2 (.loop [0,10,13] l254_1)))
 (.ret)))))
 (.skip)))
 (.seq (.seq (cR [oM 77 3,
 oM 78 2,
 oA 79 (.bin .sub) [.t 77,.t 78],
 oA 80 (.bin .eql) [.t 79,.c (.int .i64 (1))]] [0,1,2,3,4,80])
 (.cond (.t 80) (.seq (cR [oM 81 1,
 oM 14 81] [0,2,4,14])
 (.seq (cR [oM 82 2,
 oM 15 82] [0,2,4,14,15])
 (.seq (.block 4 (.loop [0,2,4,14,15] l254_2))
 (.seq (.seq (cR [oM 107 2,
 oM 17 107] [0,14,17])
 (.block 6 (.loop [0,14,17] l254_3)))
 (.ret)))))
 (.skip)))
 (.seq (cR [oM 129 1,
 oM 130 3,
 oA 131 (.bin .add) [.t 129,.t 130],
 oA 132 (.toInt .u64) [.t 131],
 oA 133 (.bin .shr) [.t 132,.c (.int .u64 (1))],
 oA 134 (.toInt .i64) [.t 133],
 oM 18 134] [0,1,2,3,4,18])
 (.seq (cR [oM 135 18,
 oM 136 2,
 oA 137 (.bin .add) [.t 135,.t 136],
 oM 19 137] [0,1,2,3,4,18,19])
 (.seq (cR [oA 20 .move [.c (.int .i64 (0))],
 oA 21 .move [.c (.int .i64 (0))]] [0,1,2,3,4,18,19])
 (.seq (.seq (cR [oM 138 2,
 oM 139 18,
 oA 140 (.bin .gtr) [.t 138,.t 139]] [0,1,2,3,4,18,19,140])
 (.cond (.t 140) (.seq (cR [oM 141 19,
 oM 142 3,
 oA 143 (.bin .sub) [.t 141,.t 142],
 oM 20 143] [0,1,2,3,4,18,19,20])
 (cR [oM 144 18,
 oM 21 144] [0,1,2,3,4,18,19,20,21]))
 (.seq (cR [oM 145 1,
 oM 20 145] [0,1,2,3,4,18,19,20])
 (cR [oM 146 2,
 oM 21 146] [0,1,2,3,4,18,19,20,21]))))
 (.seq (cR [oM 147 19,
 oA 148 (.bin .sub) [.t 147,.c (.int .i64 (1))],
 oM 22 148] [0,1,2,3,4,18,19,20,21,22])
 (.seq (.block 8 (.loop [0,1,2,3,4,18,19,20,21,22] l254_4))
 (.seq (cR [oM 175 19,
 oM 176 20,
 oA 177 (.bin .sub) [.t 175,.t 176],
 oM 24 177] [0,1,2,3,4,18,20,24])
 (.seq (.seq (cR [oM 178 20,
 oM 179 2,
 oA 180 (.bin .lss) [.t 178,.t 179],
 oM 181 180,
 oG (some 182) .move [.t 2] 181 true,
 oG (some 183) .move [.t 24] 181 true,
 oG (some 184) (.bin .lss) [.t 182,.t 183] 181 true,
 oA 185 .pick [.t 181,.t 184,.c (.bool false)]] [0,1,2,3,4,18,20,24,185])
 (.cond (.t 185) (cR [oM 186 0,
 oM 187 20,
 oM 188 2,
 oM 189 24,
 oM 190 4,
 oA 191 .call [.c (.func (.func 294) #[] #[]),.t 186,.t 187,.t 188,.t 189,.t 190]] [0,1,3,4,18,20,24])
 (.skip)))
 (.seq (.seq (cR [oM 192 1,
 oM 193 20,
 oA 194 (.bin .lss) [.t 192,.t 193],
 oM 195 194,
 oG (some 196) .move [.t 20] 195 true,
 oG (some 197) .move [.t 18] 195 true,
 oG (some 198) (.bin .lss) [.t 196,.t 197] 195 true,
 oA 199 .pick [.t 195,.t 198,.c (.bool false)]] [0,1,3,4,18,20,24,199])
 (.cond (.t 199) (cR [oM 200 0,
 oM 201 1,
 oM 202 20,
 oM 203 18,
 oM 204 4,
 oA 205 .call [.c (.func (.func 254) #[] #[]),.t 200,.t 201,.t 202,.t 203,.t 204]] [0,3,4,18,24])
 (.skip)))
 (.seq (cR [oM 206 18,
 oM 207 24,
 oA 208 (.bin .lss) [.t 206,.t 207],
 oM 209 208,
 oG (some 210) .move [.t 24] 209 true,
 oG (some 211) .move [.t 3] 209 true,
 oG (some 212) (.bin .lss) [.t 210,.t 211] 209 true,
 oA 213 .pick [.t 209,.t 212,.c (.bool false)]] [0,3,4,18,24,213])
 (.cond (.t 213) (cR [oM 214 0,
 oM 215 18,
 oM 216 24,
 oM 217 3,
 oM 218 4,
 oA 219 .call [.c (.func (.func 254) #[] #[]),.t 214,.t 215,.t 216,.t 217,.t 218]] [])
 (.skip))))))))))))),
 [], none⟩

def f255 : Func := ⟨.seq (cR [oA 1 (.box 197 1) [.t 0],
 oA 2 .move [.c .nilFunc]] [1])
 (.seq (cR [oA 3 (.func 295 0) [.t 1],
 oM 2 3] [2])
 (.ret)),
 [.tmp 2], none⟩

def f256 : Func := ⟨.seq (cR [oA 1 (.box 111 3) [.t 0],
 oA 2 .move [.c (.bool false)]] [1])
 (.seq (cR [oA 3 (.fieldAddr 0) [.t 1],
 oA 4 (.load false 1) [.t 3],
 oA 5 (.fieldAddr 1) [.t 1],
 oA 6 (.load false 1) [.t 5],
 oA 7 (.fieldAddr 2) [.t 1],
 oA 8 (.load false 1) [.t 7],
 oA 9 .call [.c (.func (.func 195) #[] #[]),.t 4,.t 6,.t 8],
 oA 10 (.un .not) [.t 9],
 oM 2 10] [2])
 (.ret)),
 [.tmp 2], none⟩

def f257 : Func := ⟨.seq (cR [oA 4 .move [.c (.bool false)]] [0,1])
 (.seq (cR [oM 5 0,
 oM 6 1,
 oA 7 .call [.c (.func (.func 296) #[] #[]),.t 5,.t 6],
 oA 8 (.bin .geq) [.t 7,.c (.int .i64 (0))],
 oM 4 8] [4])
 (.ret)),
 [.tmp 4], none⟩

def f258 : Func := ⟨.seq (cR [oA 4 .move [.c (.slice none 0 0)]] [0,1])
 (.seq (cR [oM 6 1,
 oM 7 0,
 oA 8 .nilCheck [.t 7],
 oA 9 (.fieldAddr 0) [.t 8],
 oA 10 (.load false 1) [.t 9],
 oA 11 .lenS [.t 10],
 oA 12 (.bin .leq) [.t 6,.t 11],
 oA 13 .call [.c (.func (.func 260) #[] #[]),.t 12,.c (.int .i64 (2))]] [0,1])
 (.seq (cR [oM 14 0,
 oA 15 .nilCheck [.t 14],
 oA 16 (.fieldAddr 0) [.t 15],
 oA 17 (.load false 1) [.t 16],
 oM 18 1,
 oA 19 (.slice 1 false true false) [.t 17,.t 18],
 oM 5 19] [0,1,5])
 (.seq (cR [oM 20 0,
 oM 21 0,
 oA 22 .nilCheck [.t 21],
 oA 23 (.fieldAddr 0) [.t 22],
 oA 24 (.load false 1) [.t 23],
 oM 25 1,
 oA 26 (.slice 1 true false false) [.t 24,.t 25],
 oA 27 .nilCheck [.t 20],
 oA 28 (.fieldAddr 0) [.t 27],
 oN (.store 1) [.t 28,.t 26]] [5])
 (.seq (cR [oM 29 5,
 oM 4 29] [4])
 (.ret))))),
 [.tmp 4], none⟩

def l259_0 : Code :=
 .block 1 (.seq (cR [oM 9 0,
 oA 10 .call [.c (.func (.func 258) #[] #[]),.t 9,.c (.int .i64 (1))],
 oA 11 (.idxAddr 1) [.t 10,.c (.int .i64 (0))],
 oA 12 (.load false 1) [.t 11],
 oA 13 (.toInt .i64) [.t 12],
 oM 5 13] [0,1,5])
 (.seq (cR [oM 14 1,
 oM 15 5,
 oA 16 (.bin .add) [.t 14,.t 15],
 oM 1 16] [0,1,5])
 (.seq (cR [oM 17 5,
 oA 18 (.bin .lss) [.t 17,.c (.int .i64 (255))]] [0,1,18])
 (.cond (.t 18) (.seq (cR [oM 19 1,
 oM 4 19] [4])
 (.ret))
 (.skip)))))
def f259 : Func := ⟨.seq (cR [oA 4 .move [.c (.int .i64 (0))]] [0,1])
 (.seq (.seq (cR [oM 6 1,
 oA 7 (.bin .lss) [.t 6,.c (.int .i64 (15))]] [0,1,7])
 (.cond (.t 7) (.seq (cR [oM 8 1,
 oM 4 8] [4])
 (.ret))
 (.skip)))
 (.block 0 (.loop [0,1] l259_0))),
 [.tmp 4], none⟩

def f260 : Func := ⟨.seq (cR [oM 4 0,
 oA 5 (.un .not) [.t 4]] [1,5])
 (.cond (.t 5) (cR [oM 6 1,
 oA 7 (.build [(.int .i64 (0))] [(0, 1)]) [.t 6],
 oA 8 (.iface 314) [.t 7],
 oN .panic [.t 8]] [])
 (.skip)),
 [], none⟩

def f261 : Func := ⟨.seq (cR [oM 2 5] [0,1,2])
 (.seq (cR [oM 6 2,
 oA 7 (.isNil .iface true) [.t 6]] [0,1,2,7])
 (.cond (.t 7) (.seq (cR [oM 9 2,
 oA 10 (.assert 358 (.agg #[(.int .i64 (0))]) true) [.t 9],
 oM 8 10,
 oA 11 (.extract 0) [.t 8],
 oA 12 (.extract 1) [.t 8],
 oA 3 (.new 358 1 [(.int .i64 (0))]) [],
 oN (.store 1) [.t 3,.t 11],
 oM 4 12] [0,1,2,3,4])
 (.seq (.seq (cR [oM 13 4,
 oA 14 (.un .not) [.t 13]] [0,1,2,3,14])
 (.cond (.t 14) (cR [oM 15 2,
 oN .panic [.t 15]] [0,1,3])
 (.skip)))
 (cD [⟨[oA 16 (.fieldAddr 0) [.t 3],
 oA 17 (.load false 1) [.t 16]],some (oN (.store 1) [.t 0,.c (.slice none 0 0)]),[17],[]⟩,
 ⟨[],some (oN (.store 1) [.t 1,.t 17]),[],[]⟩] [16,17] [])))
 (.skip))),
 [], some 5⟩

def l262_0 : Code :=
 .seq (cR [oA 28 (.bin .lss) [.t 27,.t 26]] [0,2,3,4,6,26,27,28])
 (.seq (.cond (.t 28) (.skip)
 (.exit 2))
 (.seq (.block 3 (.seq (cR [oM 29 4,
 oM 30 6,
 oA 31 (.idxAddrA 256 1) [.t 3,.t 29],
 oN (.store 1) [.t 31,.t 30]] [0,2,3,4,6,26,27])
 (cR [oM 32 4,
 oA 33 (.bin .add) [.t 32,.c (.int .i64 (1))],
 oM 4 33] [0,2,3,4,6,26,27])))
 (cR [oA 34 (.bin .add) [.t 27,.c (.int .i64 (1))],
 oM 27 34] [0,2,3,4,6,26,27])))
def l262_1 : Code :=
 .seq (.seq (cR [oM 8 4,
 oA 9 (.bin .lss) [.t 8,.c (.int .i64 (256))]] [0,2,3,4,9])
 (.cond (.t 9) (.skip)
 (.exit 0)))
 (.block 1 (.seq (cR [oM 10 0,
 oA 11 .call [.c (.func (.func 297) #[] #[]),.t 10],
 oA 12 (.toInt .i64) [.t 11],
 oM 5 12] [0,2,3,4,5])
 (.seq (cR [oM 13 5,
 oA 14 (.bin .shr) [.t 13,.c (.int .u64 (4))],
 oM 15 5,
 oA 16 (.bin .and) [.t 15,.c (.int .i64 (15))],
 oA 17 (.bin .add) [.t 16,.c (.int .i64 (1))],
 oM 6 14,
 oM 7 17] [0,2,3,4,6,7])
 (.seq (cR [oM 18 6,
 oA 19 (.bin .leq) [.t 18,.c (.int .i64 (11))],
 oA 20 .call [.c (.func (.func 298) #[] #[]),.t 19,.c (.int .i64 (4))]] [0,2,3,4,6,7])
 (.seq (cR [oM 21 7,
 oM 22 4,
 oA 23 (.bin .sub) [.c (.int .i64 (256)),.t 22],
 oA 24 (.bin .leq) [.t 21,.t 23],
 oA 25 .call [.c (.func (.func 298) #[] #[]),.t 24,.c (.int .i64 (4))]] [0,2,3,4,6,7])
 (.seq (cR [oM 26 7,
 oA 27 .move [.c (.int .i64 (0))]] [0,2,3,4,6,26,27])
 (.block 2 (.loop [0,2,3,4,6,26,27] l262_0))))))))
def f262 : Func := ⟨.seq (cR [oA 2 (.new 331 256 (List.replicate 256 (.int .i64 (0)))) []] [0,2])
 (.seq (cR [oA 3 (.new 331 256 (List.replicate 256 (.int .i64 (0)))) []] [0,2,3])
 (.seq (.seq (cR [oA 4 .move [.c (.int .i64 (0))]] [0,2,3,4])
 (.block 0 (.loop [0,2,3,4] l262_1)))
 (.seq (cR [oA 35 (.load true 256) [.t 3],
 oN (.store 256) [.t 2,.t 35]] [2])
 (.ret)))),
 [.cell 2 true 256], none⟩

def f263 : Func := ⟨.seq (cR [oM 7 0,
 oA 8 .nilCheck [.t 7],
 oA 9 (.fieldAddr 0) [.t 8],
 oA 10 (.load true 256) [.t 9],
 oA 11 .call [.c (.func (.func 299) #[] #[]),.t 10],
 oM 6 11,
 oA 12 (.extract 0) [.t 6],
 oA 13 (.extract 1) [.t 6],
 oM 2 12,
 oM 3 13] [0,2])
 (.seq (cR [oA 4 .move [.c (.int .i64 (2048))]] [0,2,4])
 (.seq (cR [oM 14 0,
 oA 15 .nilCheck [.t 14],
 oA 16 (.fieldAddr 268) [.t 15],
 oA 17 (.load false 1) [.t 16],
 oA 18 .lenS [.t 17],
 oA 19 (.bin .eql) [.t 18,.c (.int .i64 (0))],
 oM 20 19,
 oG (some 21) .move [.t 0] 20 false,
 oG (some 22) .nilCheck [.t 21] 20 false,
 oG (some 23) (.fieldAddr 268) [.t 22] 20 false,
 oG (some 24) (.load false 1) [.t 23] 20 false,
 oG (some 25) .lenS [.t 24] 20 false,
 oG (some 26) (.bin .eql) [.t 25,.c (.int .i64 (1))] 20 false,
 oG (some 27) .move [.t 26] 20 false,
 oG (some 28) .move [.t 0] 27 true,
 oG (some 29) .nilCheck [.t 28] 27 true,
 oG (some 30) (.fieldAddr 256) [.t 29] 27 true,
 oG (some 31) (.idxAddrA 12 1) [.t 30,.c (.int .i64 (1))] 27 true,
 oG (some 32) (.load false 1) [.t 31] 27 true,
 oG (some 33) (.bin .eql) [.t 32,.c (.int .i64 (1))] 27 true,
 oG (some 34) .pick [.t 27,.t 33,.c (.bool false)] 20 false,
 oA 35 .pick [.t 20,.c (.bool true),.t 34],
 oM 5 35] [2,4,5])
 (cR [oM 36 2,
 oM 37 4,
 oA 38 (.bin .eql) [.t 36,.t 37],
 oM 39 38,
 oG (some 40) .move [.t 5] 39 false,
 oA 41 .pick [.t 39,.c (.bool true),.t 40],
 oA 42 .call [.c (.func (.func 298) #[] #[]),.t 41,.c (.int .i64 (4))]] []))),
 [], none⟩

def l264_0 : Code :=
 .seq (.seq (cR [oM 16 8,
 oA 17 (.bin .leq) [.t 16,.c (.int .i64 (11))]] [0,1,4,5,6,7,8,17])
 (.cond (.t 17) (.skip)
 (.exit 0)))
 (.seq (.block 1 (.seq (cR [oM 20 5,
 oA 21 (.bin .shl) [.t 20,.c (.int .u64 (1))],
 oM 22 0,
 oA 23 .call [.c (.func (.func 300) #[] #[]),.t 22],
 oA 24 (.bin .or) [.t 21,.t 23],
 oM 5 24] [0,1,4,5,6,7,8])
 (.seq (cR [oM 25 6,
 oA 26 (.bin .shl) [.t 25,.c (.int .u64 (1))],
 oM 6 26] [0,1,4,5,6,7,8])
 (.seq (.seq (cR [oM 27 5,
 oM 28 6,
 oA 29 (.bin .sub) [.t 27,.t 28],
 oM 30 1,
 oM 31 8,
 oA 32 .nilCheck [.t 30],
 oA 33 (.fieldAddr 256) [.t 32],
 oA 34 (.idxAddrA 12 1) [.t 33,.t 31],
 oA 35 (.load false 1) [.t 34],
 oA 36 (.bin .lss) [.t 29,.t 35]] [0,1,4,5,6,7,8,36])
 (.cond (.t 36) (.seq (cR [oM 37 1,
 oA 38 .nilCheck [.t 37],
 oA 39 (.fieldAddr 268) [.t 38],
 oA 40 (.load false 1) [.t 39],
 oM 41 7,
 oM 42 5,
 oA 43 (.bin .add) [.t 41,.t 42],
 oM 44 6,
 oA 45 (.bin .sub) [.t 43,.t 44],
 oA 46 (.idxAddr 1) [.t 40,.t 45],
 oA 47 (.load false 1) [.t 46],
 oM 4 47] [4])
 (.ret))
 (.skip)))
 (.seq (cR [oM 48 6,
 oM 49 1,
 oM 50 8,
 oA 51 .nilCheck [.t 49],
 oA 52 (.fieldAddr 256) [.t 51],
 oA 53 (.idxAddrA 12 1) [.t 52,.t 50],
 oA 54 (.load false 1) [.t 53],
 oA 55 (.bin .add) [.t 48,.t 54],
 oM 6 55] [0,1,4,5,6,7,8])
 (.seq (cR [oM 56 7,
 oM 57 1,
 oM 58 8,
 oA 59 .nilCheck [.t 57],
 oA 60 (.fieldAddr 256) [.t 59],
 oA 61 (.idxAddrA 12 1) [.t 60,.t 58],
 oA 62 (.load false 1) [.t 61],
 oA 63 (.bin .add) [.t 56,.t 62],
 oM 7 63] [0,1,4,5,6,7,8])
 (cR [oM 64 1,
 oA 65 .nilCheck [.t 64],
 oA 66 (.fieldAddr 268) [.t 65],
 oA 67 (.load false 1) [.t 66],
 oA 68 .lenS [.t 67],
 oA 69 (.bin .gtr) [.t 68,.c (.int .i64 (1))],
 oA 70 .call [.c (.func (.func 298) #[] #[]),.t 69,.c (.int .i64 (4))]] [0,1,4,5,6,7,8])))))))
 (cR [oM 18 8,
 oA 19 (.bin .add) [.t 18,.c (.int .i64 (1))],
 oM 8 19] [0,1,4,5,6,7,8]))
def f264 : Func := ⟨.seq (cR [oA 4 .move [.c (.int .u8 (0))]] [0,1,4])
 (.seq (cR [oM 9 1,
 oA 10 .nilCheck [.t 9],
 oA 11 (.fieldAddr 268) [.t 10],
 oA 12 (.load false 1) [.t 11],
 oA 13 .lenS [.t 12],
 oA 14 (.bin .gtr) [.t 13,.c (.int .i64 (0))],
 oA 15 .call [.c (.func (.func 298) #[] #[]),.t 14,.c (.int .i64 (4))]] [0,1,4])
 (.seq (cR [oA 5 .move [.c (.int .i64 (0))],
 oA 6 .move [.c (.int .i64 (0))],
 oA 7 .move [.c (.int .i64 (0))]] [0,1,4,5,6,7])
 (.seq (.seq (cR [oA 8 .move [.c (.int .i64 (1))]] [0,1,4,5,6,7,8])
 (.block 0 (.loop [0,1,4,5,6,7,8] l264_0)))
 (cR [oA 71 (.build [(.int .i64 (0))] [(0, 1)]) [.c (.int .i64 (4))],
 oA 72 (.iface 358) [.t 71],
 oN .panic [.t 72]] [4])))),
 [.tmp 4], none⟩

def f265 : Func := ⟨.seq (.seq (cR [oM 3 0,
 oA 4 .nilCheck [.t 3],
 oA 5 (.fieldAddr 1) [.t 4],
 oA 6 (.load false 1) [.t 5],
 oA 7 (.bin .gtr) [.t 6,.c (.int .i64 (0))]] [0,7])
 (.cond (.t 7) (.seq (cD [⟨[oM 8 0,
 oA 9 .nilCheck [.t 8],
 oA 10 (.fieldAddr 0) [.t 9],
 oA 11 (.load false 1) [.t 10],
 oA 12 (.idxAddr 1) [.t 11,.c (.int .i64 (0))],
 oA 13 (.load false 1) [.t 12],
 oM 14 0,
 oA 15 .nilCheck [.t 14],
 oA 16 (.fieldAddr 1) [.t 15],
 oA 17 (.load false 1) [.t 16],
 oA 18 (.bin .shl) [.t 13,.t 17],
 oM 2 18],none,[],[]⟩] [8,9,10,11,12,13,14,15,16,17,18,2] [0,2])
 (.seq (cR [oM 19 0,
 oM 20 0,
 oA 21 .nilCheck [.t 20],
 oA 22 (.fieldAddr 0) [.t 21],
 oA 23 (.load false 1) [.t 22],
 oA 24 (.slice 1 true false false) [.t 23,.c (.int .i64 (1))],
 oA 25 .nilCheck [.t 19],
 oA 26 (.fieldAddr 0) [.t 25],
 oN (.store 1) [.t 26,.t 24]] [0,2])
 (.seq (cR [oM 27 0,
 oA 28 .nilCheck [.t 27],
 oA 29 (.fieldAddr 0) [.t 28],
 oA 30 (.load false 1) [.t 29],
 oA 31 .lenS [.t 30],
 oA 32 (.bin .eql) [.t 31,.c (.int .i64 (0))],
 oA 33 .call [.c (.func (.func 298) #[] #[]),.t 32,.c (.int .i64 (3))]] [0,2])
 (cR [oM 34 2,
 oA 35 (.bin .eql) [.t 34,.c (.int .u8 (0))],
 oA 36 .call [.c (.func (.func 298) #[] #[]),.t 35,.c (.int .i64 (4))]] [0]))))
 (.skip)))
 (cR [oM 37 0,
 oA 38 .nilCheck [.t 37],
 oA 39 (.fieldAddr 0) [.t 38],
 oA 40 (.load false 1) [.t 39],
 oA 41 .lenS [.t 40],
 oA 42 (.bin .eql) [.t 41,.c (.int .i64 (0))],
 oA 43 .call [.c (.func (.func 298) #[] #[]),.t 42,.c (.int .i64 (3))]] []),
 [], none⟩

def f266 : Func := ⟨.seq (cR [oM 4 0,
 oM 5 1,
 oA 6 (.slice 2 false true false) [.t 4,.t 5],
 oA 7 .call [.c (.func (.func 301) #[] #[]),.t 6]] [0,1])
 (.seq (cR [oM 8 0,
 oM 9 1,
 oA 10 (.slice 2 true false false) [.t 8,.t 9],
 oA 11 .call [.c (.func (.func 301) #[] #[]),.t 10]] [0])
 (cR [oM 12 0,
 oA 13 .call [.c (.func (.func 301) #[] #[]),.t 12]] [])),
 [], none⟩

def l267_0 : Code :=
 .seq (cR [oA 9 (.bin .lss) [.t 8,.t 7]] [0,3,7,8,9])
 (.seq (.cond (.t 9) (.skip)
 (.exit 0))
 (.seq (.block 1 (.seq (cR [oM 10 8,
 oM 5 10] [0,3,5,7,8])
 (.seq (cD [⟨[oA 11 (.load true 2) [.t 3],
 oM 12 0,
 oM 13 5,
 oA 14 (.idxAddr 2) [.t 12,.t 13],
 oA 15 (.load true 2) [.t 14],
 oA 16 (.eqAgg false 2 false) [.t 11,.t 15]],none,[],[]⟩] [11,12,13,14,15,16] [0,3,5,7,8,16])
 (.cond (.t 16) (.seq (cR [oM 17 5,
 oM 4 17] [4])
 (.ret))
 (.skip)))))
 (cR [oA 18 (.bin .add) [.t 8,.c (.int .i64 (1))],
 oM 8 18] [0,3,7,8])))
def f267 : Func := ⟨.seq (cR [oA 3 (.box 90 2) [.t 1],
 oA 4 .move [.c (.int .i64 (0))]] [0,3])
 (.seq (.seq (cR [oM 6 0,
 oA 7 .lenS [.t 6],
 oA 8 .move [.c (.int .i64 (0))]] [0,3,7,8])
 (.block 0 (.loop [0,3,7,8] l267_0)))
 (.seq (cR [oA 4 .move [.c (.int .i64 (-1))]] [4])
 (.ret))),
 [.tmp 4], none⟩

def l268_0 : Code :=
 .seq (.seq (cR [oM 8 1,
 oA 9 (.bin .geq) [.t 8,.c (.int .i64 (255))]] [0,1,9])
 (.cond (.t 9) (.skip)
 (.exit 0)))
 (.seq (.block 1 (cR [oM 12 0,
 oM 13 0,
 oA 14 .nilCheck [.t 13],
 oA 15 (.fieldAddr 1) [.t 14],
 oA 16 (.load false 1) [.t 15],
 oA 17 (.buildSlice 5 1 1 [(.int .u8 (0))] [(0, 1)]) [.c (.int .u8 (255))],
 oA 18 (.append 5 1 1) [.t 16,.t 17],
 oA 19 .nilCheck [.t 12],
 oA 20 (.fieldAddr 1) [.t 19],
 oN (.store 1) [.t 20,.t 18]] [0,1]))
 (cR [oM 10 1,
 oA 11 (.bin .sub) [.t 10,.c (.int .i64 (255))],
 oM 1 11] [0,1]))
def f268 : Func := ⟨.seq (.seq (cR [oM 4 1,
 oA 5 (.bin .lss) [.t 4,.c (.int .i64 (15))]] [0,1,5])
 (.cond (.t 5) (.ret)
 (.skip)))
 (.seq (cR [oM 6 1,
 oA 7 (.bin .sub) [.t 6,.c (.int .i64 (15))],
 oM 1 7] [0,1])
 (.seq (.block 0 (.loop [0,1] l268_0))
 (cR [oM 21 0,
 oM 22 0,
 oA 23 .nilCheck [.t 22],
 oA 24 (.fieldAddr 1) [.t 23],
 oA 25 (.load false 1) [.t 24],
 oM 26 1,
 oA 27 (.toInt .u8) [.t 26],
 oA 28 (.buildSlice 5 1 1 [(.int .u8 (0))] [(0, 1)]) [.t 27],
 oA 29 (.append 5 1 1) [.t 25,.t 28],
 oA 30 .nilCheck [.t 21],
 oA 31 (.fieldAddr 1) [.t 30],
 oN (.store 1) [.t 31,.t 29]] []))),
 [], none⟩

def l269_0 : Code :=
 .seq (cR [oA 7 (.bin .lss) [.t 6,.c (.int .i64 (256))]] [5,6,7])
 (.seq (.cond (.t 7) (.skip)
 (.exit 0))
 (.seq (.block 1 (.seq (cR [oA 8 (.idx 256 1 false) [.t 5,.t 6],
 oM 4 8] [4,5,6])
 (.seq (cR [oM 9 4,
 oA 10 (.bin .lss) [.t 9,.c (.int .i64 (0))],
 oM 11 10,
 oG (some 12) .move [.t 4] 11 false,
 oG (some 13) (.bin .gtr) [.t 12,.c (.int .i64 (1048576))] 11 false,
 oA 14 .pick [.t 11,.c (.bool true),.t 13]] [5,6,14])
 (.cond (.t 14) (.seq (cR [oA 2 .move [.c (.bool false)]] [2])
 (.ret))
 (.skip)))))
 (cR [oA 15 (.bin .add) [.t 6,.c (.int .i64 (1))],
 oM 6 15] [5,6])))
def f269 : Func := ⟨.seq (cR [oA 1 (.box 331 256) [.t 0],
 oA 2 .move [.c (.bool false)]] [1])
 (.seq (.seq (cR [oA 5 (.load true 256) [.t 1],
 oA 6 .move [.c (.int .i64 (0))]] [5,6])
 (.block 0 (.loop [5,6] l269_0)))
 (.seq (cR [oA 2 .move [.c (.bool true)]] [2])
 (.ret))),
 [.tmp 2], none⟩

def f270 : Func := ⟨cR [oM 4 0,
 oM 5 0,
 oA 6 .lenS [.t 5],
 oM 7 1,
 oA 8 .call [.c (.func (.func 302) #[] #[]),.t 4,.t 6,.t 7]] [],
 [], none⟩

def f271 : Func := ⟨.seq (cR [oA 5 .move [.c (.int .i64 (0))]] [0,1,2])
 (.seq (cD [⟨[oM 6 1,
 oA 7 (.idxAddrA 256 1) [.t 2,.t 6],
 oA 8 (.load false 1) [.t 7],
 oM 9 0,
 oA 10 (.idxAddrA 256 1) [.t 2,.t 9],
 oA 11 (.load false 1) [.t 10]],some (oA 12 .call [.c (.func (.func 154) #[] #[]),.t 8,.t 11]),[],[]⟩,
 ⟨[oM 5 12],none,[],[]⟩] [6,7,8,9,10,11,12,5] [5])
 (.ret)),
 [.tmp 5], none⟩

def l272_0 : Code :=
 .seq (cR [oA 21 (.bin .lss) [.t 20,.t 19]] [0,3,4,18,19,20,21])
 (.seq (.cond (.t 21) (.skip)
 (.exit 0))
 (.seq (.block 1 (.seq (cR [oM 22 20,
 oA 23 (.idxAddr 1) [.t 18,.t 20],
 oA 24 (.load false 1) [.t 23],
 oM 5 22,
 oM 6 24] [0,3,4,5,6,18,19,20])
 (cR [oM 25 4,
 oA 26 (.iface 393) [.t 25],
 oM 27 6,
 oM 28 5,
 oM 29 5,
 oA 30 (.buildSlice 3 1 1 [(.int .i64 (0))] [(0, 1)]) [.t 29],
 oA 31 (.build [(.int .i64 (0)), (.int .i64 (0)), (.slice none 0 0)] [(0, 1), (1, 1), (2, 1)]) [.t 27,.t 28,.t 30],
 oA 32 (.iface 398) [.t 31],
 oA 33 .call [.c (.func (.func 303) #[] #[]),.t 26,.t 32]] [0,3,4,18,19,20])))
 (cR [oA 34 (.bin .add) [.t 20,.c (.int .i64 (1))],
 oM 20 34] [0,3,4,18,19,20])))
def l272_1 : Code :=
 .seq (cR [oA 61 (.bin .lss) [.t 60,.t 59]] [3,4,7,8,9,10,58,59,60,61])
 (.seq (.cond (.t 61) (.skip)
 (.exit 4))
 (.seq (.block 5 (.seq (cR [oA 62 (.idxAddr 1) [.t 58,.t 60],
 oA 63 (.load false 1) [.t 62],
 oM 12 63] [3,4,7,8,9,10,12,58,59,60])
 (cR [oM 64 3,
 oM 65 12,
 oA 66 (.idxAddr 1) [.t 64,.t 65],
 oA 67 (.load false 1) [.t 66],
 oA 68 (.bin .add) [.t 67,.c (.int .i64 (1))],
 oA 69 (.idxAddr 1) [.t 64,.t 65],
 oN (.store 1) [.t 69,.t 68]] [3,4,7,8,9,10,58,59,60])))
 (cR [oA 70 (.bin .add) [.t 60,.c (.int .i64 (1))],
 oM 60 70] [3,4,7,8,9,10,58,59,60])))
def l272_2 : Code :=
 .seq (.seq (cR [oM 37 4,
 oA 38 .nilCheck [.t 37],
 oA 39 (.load false 1) [.t 38],
 oA 40 .call [.c (.func (.func 304) #[] #[]),.t 39],
 oA 41 (.bin .gtr) [.t 40,.c (.int .i64 (1))]] [3,4,7,41])
 (.cond (.t 41) (.skip)
 (.exit 2)))
 (.seq (.block 3 (.seq (cD [⟨[oM 44 4,
 oA 45 (.iface 393) [.t 44],
 oM 48 4,
 oA 49 (.iface 393) [.t 48]],some (oA 46 .call [.c (.func (.func 305) #[] #[]),.t 45]),[],[oA 8 (.new 398 3 [(.int .i64 (0)), (.int .i64 (0)), (.slice none 0 0)]) [], oA 9 (.new 398 3 [(.int .i64 (0)), (.int .i64 (0)), (.slice none 0 0)]) []]⟩,
 ⟨[oA 47 (.assert 398 (.agg #[(.int .i64 (0)), (.int .i64 (0)), (.slice none 0 0)]) false) [.t 46]],some (oA 50 .call [.c (.func (.func 305) #[] #[]),.t 49]),[],[oA 8 (.new 398 3 [(.int .i64 (0)), (.int .i64 (0)), (.slice none 0 0)]) [], oA 9 (.new 398 3 [(.int .i64 (0)), (.int .i64 (0)), (.slice none 0 0)]) []]⟩,
 ⟨[oA 51 (.assert 398 (.agg #[(.int .i64 (0)), (.int .i64 (0)), (.slice none 0 0)]) false) [.t 50]],some (oA 8 (.new 398 3 [(.int .i64 (0)), (.int .i64 (0)), (.slice none 0 0)]) []),[],[oA 9 (.new 398 3 [(.int .i64 (0)), (.int .i64 (0)), (.slice none 0 0)]) []]⟩,
 ⟨[],some (oA 9 (.new 398 3 [(.int .i64 (0)), (.int .i64 (0)), (.slice none 0 0)]) []),[],[]⟩,
 ⟨[],some (oN (.store 3) [.t 8,.t 47]),[],[]⟩,
 ⟨[],some (oN (.store 3) [.t 9,.t 51]),[],[]⟩] [44,45,46,47,48,49,50,51,8,9] [3,4,7,8,9])
 (.seq (cR [oA 52 (.fieldAddr 2) [.t 8],
 oA 53 (.load false 1) [.t 52],
 oA 54 (.fieldAddr 2) [.t 9],
 oA 55 (.load false 1) [.t 54],
 oA 56 (.buildSlice 92 1 2 [(.slice none 0 0), (.slice none 0 0)] [(0, 1), (1, 1)]) [.t 53,.t 55],
 oA 57 .call [.c (.func (.func 306) #[] #[]),.t 56],
 oM 10 57] [3,4,7,8,9,10])
 (.seq (.seq (cR [oM 58 10,
 oA 59 .lenS [.t 58],
 oA 60 .move [.c (.int .i64 (0))]] [3,4,7,8,9,10,58,59,60])
 (.block 4 (.loop [3,4,7,8,9,10,58,59,60] l272_1)))
 (cR [oM 71 4,
 oA 72 (.iface 393) [.t 71],
 oA 73 (.fieldAddr 0) [.t 8],
 oA 74 (.load false 1) [.t 73],
 oA 75 (.fieldAddr 0) [.t 9],
 oA 76 (.load false 1) [.t 75],
 oA 77 (.bin .add) [.t 74,.t 76],
 oM 78 7,
 oM 79 10,
 oA 80 (.build [(.int .i64 (0)), (.int .i64 (0)), (.slice none 0 0)] [(0, 1), (1, 1), (2, 1)]) [.t 77,.t 78,.t 79],
 oA 81 (.iface 398) [.t 80],
 oA 82 .call [.c (.func (.func 303) #[] #[]),.t 72,.t 81]] [3,4,7])))))
 (cR [oM 42 7,
 oA 43 (.bin .add) [.t 42,.c (.int .i64 (1))],
 oM 7 43] [3,4,7]))
def f272 : Func := ⟨.seq (cR [oA 2 .move [.c (.slice none 0 0)]] [0])
 (.seq (cR [oM 13 0,
 oA 14 .lenS [.t 13],
 oA 15 (.newSlice 3 1 8 [(.int .i64 (0))]) [.t 14,.t 14],
 oM 3 15] [0,3])
 (.seq (cR [oA 16 (.buildSlice 398 3 0 [] []) [],
 oA 17 (.box 395 1) [.t 16],
 oM 4 17] [0,3,4])
 (.seq (.seq (cR [oM 18 0,
 oA 19 .lenS [.t 18],
 oA 20 .move [.c (.int .i64 (0))]] [0,3,4,18,19,20])
 (.block 0 (.loop [0,3,4,18,19,20] l272_0)))
 (.seq (.seq (cR [oM 35 0,
 oA 36 .lenS [.t 35],
 oM 7 36] [3,4,7])
 (.block 2 (.loop [3,4,7] l272_2)))
 (.seq (cR [oM 83 3,
 oM 2 83] [2])
 (.ret)))))),
 [.tmp 2], none⟩

def l273_0 : Code :=
 .seq (.seq (cR [oM 12 4,
 oM 13 0,
 oA 14 .lenS [.t 13],
 oA 15 (.bin .lss) [.t 12,.t 14]] [0,3,4,15])
 (.cond (.t 15) (.skip)
 (.exit 0)))
 (.seq (.block 1 (cR [oM 18 3,
 oM 19 0,
 oM 20 4,
 oA 21 (.idxAddr 1) [.t 19,.t 20],
 oA 22 (.load false 1) [.t 21],
 oA 23 .max [.t 18,.t 22],
 oM 3 23] [0,3,4]))
 (cR [oM 16 4,
 oA 17 (.bin .add) [.t 16,.c (.int .i64 (1))],
 oM 4 17] [0,3,4]))
def f273 : Func := ⟨.seq (cR [oA 2 .move [.c (.int .i64 (0))]] [0])
 (.seq (.seq (cR [oM 5 0,
 oA 6 .lenS [.t 5],
 oA 7 (.bin .lss) [.t 6,.c (.int .i64 (1))]] [0,7])
 (.cond (.t 7) (cR [oA 8 (.iface 9) [.c (.string ⟨⟨[115, 108, 105, 99, 101, 115, 46, 77, 97, 120, 58, 32, 101, 109, 112, 116, 121, 32, 108, 105, 115, 116]⟩⟩)],
 oN .panic [.t 8]] [0])
 (.skip)))
 (.seq (cR [oM 9 0,
 oA 10 (.idxAddr 1) [.t 9,.c (.int .i64 (0))],
 oA 11 (.load false 1) [.t 10],
 oM 3 11] [0,3])
 (.seq (.seq (cR [oA 4 .move [.c (.int .i64 (1))]] [0,3,4])
 (.block 0 (.loop [0,3,4] l273_0)))
 (.seq (cR [oM 24 3,
 oM 2 24] [2])
 (.ret))))),
 [.tmp 2], none⟩

def l274_0 : Code :=
 .seq (.seq (cD [⟨[oM 16 7,
 oM 17 1,
 oA 18 (.bin .gtr) [.t 16,.t 17],
 oM 19 18,
 oG (some 20) .move [.t 0] 19 true,
 oG (some 21) .move [.t 7] 19 true,
 oG (some 22) (.idxAddr 1) [.t 20,.t 21] 19 true,
 oG (some 23) (.load false 1) [.t 22] 19 true,
 oG (some 24) .move [.t 0] 19 true,
 oG (some 25) .move [.t 7] 19 true,
 oG (some 26) (.bin .sub) [.t 25,.c (.int .i64 (1))] 19 true,
 oG (some 27) (.idxAddr 1) [.t 24,.t 26] 19 true,
 oG (some 28) (.load false 1) [.t 27] 19 true],some (oG (some 29) .call [.c (.func (.func 280) #[] #[]),.t 23,.t 28] 19 true),[],[]⟩,
 ⟨[oA 30 .pick [.t 19,.t 29,.c (.bool false)]],none,[],[]⟩] [16,17,18,19,20,21,22,23,24,25,26,27,28,29,30] [0,1,2,6,7,30])
 (.cond (.t 30) (.skip)
 (.exit 2)))
 (.seq (.block 3 (cD [⟨[oM 33 0,
 oM 34 7,
 oM 35 0,
 oM 36 7,
 oA 37 (.bin .sub) [.t 36,.c (.int .i64 (1))],
 oM 38 0,
 oM 39 7,
 oA 40 (.bin .sub) [.t 39,.c (.int .i64 (1))],
 oA 41 (.idxAddr 1) [.t 38,.t 40],
 oA 42 (.load false 1) [.t 41],
 oM 43 0,
 oM 44 7,
 oA 45 (.idxAddr 1) [.t 43,.t 44],
 oA 46 (.load false 1) [.t 45],
 oA 47 (.idxAddr 1) [.t 33,.t 34]],some (oN (.store 1) [.t 47,.t 42]),[],[]⟩,
 ⟨[oA 48 (.idxAddr 1) [.t 35,.t 37]],some (oN (.store 1) [.t 48,.t 46]),[],[]⟩] [33,34,35,36,37,38,39,40,41,42,43,44,45,46,47,48] [0,1,2,6,7]))
 (cR [oM 31 7,
 oA 32 (.bin .sub) [.t 31,.c (.int .i64 (1))],
 oM 7 32] [0,1,2,6,7]))
def l274_1 : Code :=
 .seq (.seq (cR [oM 10 6,
 oM 11 2,
 oA 12 (.bin .lss) [.t 10,.t 11]] [0,1,2,6,12])
 (.cond (.t 12) (.skip)
 (.exit 0)))
 (.seq (.block 1 (.seq (cR [oM 15 6,
 oM 7 15] [0,1,2,6,7])
 (.block 2 (.loop [0,1,2,6,7] l274_0))))
 (cR [oM 13 6,
 oA 14 (.bin .add) [.t 13,.c (.int .i64 (1))],
 oM 6 14] [0,1,2,6]))
def f274 : Func := ⟨.seq (cR [oM 8 1,
 oA 9 (.bin .add) [.t 8,.c (.int .i64 (1))],
 oM 6 9] [0,1,2,6])
 (.block 0 (.loop [0,1,2,6] l274_1)),
 [], none⟩

def l275_0 : Code :=
 .seq (.seq (cR [oM 18 9,
 oA 19 (.bin .geq) [.t 18,.c (.int .i64 (0))]] [0,6,7,8,9,19])
 (.cond (.t 19) (.skip)
 (.exit 0)))
 (.seq (.block 1 (cR [oM 22 0,
 oM 23 9,
 oM 24 8,
 oM 25 6,
 oA 26 .call [.c (.func (.func 307) #[] #[]),.t 22,.t 23,.t 24,.t 25]] [0,6,7,8,9]))
 (cR [oM 20 9,
 oA 21 (.bin .sub) [.t 20,.c (.int .i64 (1))],
 oM 9 21] [0,6,7,8,9]))
def l275_1 : Code :=
 .seq (.seq (cR [oM 29 10,
 oA 30 (.bin .geq) [.t 29,.c (.int .i64 (0))]] [0,6,7,10,30])
 (.cond (.t 30) (.skip)
 (.exit 2)))
 (.seq (.block 3 (.seq (cD [⟨[oM 33 0,
 oM 34 6,
 oM 35 0,
 oM 36 6,
 oM 37 10,
 oA 38 (.bin .add) [.t 36,.t 37],
 oM 39 0,
 oM 40 6,
 oM 41 10,
 oA 42 (.bin .add) [.t 40,.t 41],
 oA 43 (.idxAddr 1) [.t 39,.t 42],
 oA 44 (.load false 1) [.t 43],
 oM 45 0,
 oM 46 6,
 oA 47 (.idxAddr 1) [.t 45,.t 46],
 oA 48 (.load false 1) [.t 47],
 oA 49 (.idxAddr 1) [.t 33,.t 34]],some (oN (.store 1) [.t 49,.t 44]),[],[]⟩,
 ⟨[oA 50 (.idxAddr 1) [.t 35,.t 38]],some (oN (.store 1) [.t 50,.t 48]),[],[]⟩] [33,34,35,36,37,38,39,40,41,42,43,44,45,46,47,48,49,50] [0,6,7,10])
 (cR [oM 51 0,
 oM 52 7,
 oM 53 10,
 oM 54 6,
 oA 55 .call [.c (.func (.func 307) #[] #[]),.t 51,.t 52,.t 53,.t 54]] [0,6,7,10])))
 (cR [oM 31 10,
 oA 32 (.bin .sub) [.t 31,.c (.int .i64 (1))],
 oM 10 32] [0,6,7,10]))
def f275 : Func := ⟨.seq (cR [oM 11 1,
 oM 6 11] [0,1,2,6])
 (.seq (cR [oA 7 .move [.c (.int .i64 (0))]] [0,1,2,6,7])
 (.seq (cR [oM 12 2,
 oM 13 1,
 oA 14 (.bin .sub) [.t 12,.t 13],
 oM 8 14] [0,6,7,8])
 (.seq (.seq (cR [oM 15 8,
 oA 16 (.bin .sub) [.t 15,.c (.int .i64 (1))],
 oA 17 (.bin .quo) [.t 16,.c (.int .i64 (2))],
 oM 9 17] [0,6,7,8,9])
 (.block 0 (.loop [0,6,7,8,9] l275_0)))
 (.seq (cR [oM 27 8,
 oA 28 (.bin .sub) [.t 27,.c (.int .i64 (1))],
 oM 10 28] [0,6,7,10])
 (.block 2 (.loop [0,6,7,10] l275_1)))))),
 [], none⟩

def l276_0 : Code :=
 .seq (.seq (cR [oM 26 9,
 oM 27 1,
 oM 28 6,
 oA 29 (.bin .quo) [.t 28,.c (.int .i64 (4))],
 oA 30 (.bin .mul) [.t 29,.c (.int .i64 (2))],
 oA 31 (.bin .add) [.t 27,.t 30],
 oA 32 (.bin .add) [.t 31,.c (.int .i64 (1))],
 oA 33 (.bin .leq) [.t 26,.t 32]] [0,1,6,7,8,9,33])
 (.cond (.t 33) (.skip)
 (.exit 0)))
 (.seq (.block 1 (.seq (cR [oA 36 .call [.c (.func (.func 309) #[] #[]),.t 7],
 oM 37 8,
 oA 38 (.bin .sub) [.t 37,.c (.int .u64 (1))],
 oA 39 (.bin .and) [.t 36,.t 38],
 oA 40 (.toInt .i64) [.t 39],
 oM 10 40] [0,1,6,7,8,9,10])
 (.seq (.seq (cR [oM 41 10,
 oM 42 6,
 oA 43 (.bin .geq) [.t 41,.t 42]] [0,1,6,7,8,9,10,43])
 (.cond (.t 43) (cR [oM 44 10,
 oM 45 6,
 oA 46 (.bin .sub) [.t 44,.t 45],
 oM 10 46] [0,1,6,7,8,9,10])
 (.skip)))
 (cD [⟨[oM 47 0,
 oM 48 9,
 oM 49 0,
 oM 50 1,
 oM 51 10,
 oA 52 (.bin .add) [.t 50,.t 51],
 oM 53 0,
 oM 54 1,
 oM 55 10,
 oA 56 (.bin .add) [.t 54,.t 55],
 oA 57 (.idxAddr 1) [.t 53,.t 56],
 oA 58 (.load false 1) [.t 57],
 oM 59 0,
 oM 60 9,
 oA 61 (.idxAddr 1) [.t 59,.t 60],
 oA 62 (.load false 1) [.t 61],
 oA 63 (.idxAddr 1) [.t 47,.t 48]],some (oN (.store 1) [.t 63,.t 58]),[],[]⟩,
 ⟨[oA 64 (.idxAddr 1) [.t 49,.t 52]],some (oN (.store 1) [.t 64,.t 62]),[],[]⟩] [47,48,49,50,51,52,53,54,55,56,57,58,59,60,61,62,63,64] [0,1,6,7,8,9]))))
 (cR [oM 34 9,
 oA 35 (.bin .add) [.t 34,.c (.int .i64 (1))],
 oM 9 35] [0,1,6,7,8,9]))
def f276 : Func := ⟨.seq (cR [oM 11 2,
 oM 12 1,
 oA 13 (.bin .sub) [.t 11,.t 12],
 oM 6 13] [0,1,6])
 (.seq (cR [oM 14 6,
 oA 15 (.bin .geq) [.t 14,.c (.int .i64 (8))]] [0,1,6,15])
 (.cond (.t 15) (.seq (cR [oM 16 6,
 oA 17 (.toInt .u64) [.t 16],
 oA 7 (.new 401 1 [(.int .u64 (0))]) [],
 oN (.store 1) [.t 7,.t 17]] [0,1,6,7])
 (.seq (cR [oM 18 6,
 oA 19 .call [.c (.func (.func 308) #[] #[]),.t 18],
 oM 8 19] [0,1,6,7,8])
 (.seq (cR [oM 20 1,
 oM 21 6,
 oA 22 (.bin .quo) [.t 21,.c (.int .i64 (4))],
 oA 23 (.bin .mul) [.t 22,.c (.int .i64 (2))],
 oA 24 (.bin .add) [.t 20,.t 23],
 oA 25 (.bin .sub) [.t 24,.c (.int .i64 (1))],
 oM 9 25] [0,1,6,7,8,9])
 (.block 0 (.loop [0,1,6,7,8,9] l276_0)))))
 (.skip))),
 [], none⟩

def f277 : Func := ⟨.seq (cR [oA 6 .move [.c (.int .i64 (0))],
 oA 7 .move [.c (.int .i64 (0))]] [0,1,2])
 (.seq (cR [oM 13 2,
 oM 14 1,
 oA 15 (.bin .sub) [.t 13,.t 14],
 oM 8 15] [0,1,8])
 (.seq (cR [oA 9 (.new 3 1 [(.int .i64 (0))]) []] [0,1,8,9])
 (.seq (cR [oM 16 1,
 oM 17 8,
 oA 18 (.bin .quo) [.t 17,.c (.int .i64 (4))],
 oA 19 (.bin .mul) [.t 18,.c (.int .i64 (1))],
 oA 20 (.bin .add) [.t 16,.t 19],
 oM 10 20] [0,1,8,9,10])
 (.seq (cR [oM 21 1,
 oM 22 8,
 oA 23 (.bin .quo) [.t 22,.c (.int .i64 (4))],
 oA 24 (.bin .mul) [.t 23,.c (.int .i64 (2))],
 oA 25 (.bin .add) [.t 21,.t 24],
 oM 11 25] [0,1,8,9,10,11])
 (.seq (cR [oM 26 1,
 oM 27 8,
 oA 28 (.bin .quo) [.t 27,.c (.int .i64 (4))],
 oA 29 (.bin .mul) [.t 28,.c (.int .i64 (3))],
 oA 30 (.bin .add) [.t 26,.t 29],
 oM 12 30] [0,8,9,10,11,12])
 (.seq (.seq (cR [oM 31 8,
 oA 32 (.bin .geq) [.t 31,.c (.int .i64 (8))]] [0,8,9,10,11,12,32])
 (.cond (.t 32) (.seq (.seq (cR [oM 33 8,
 oA 34 (.bin .geq) [.t 33,.c (.int .i64 (50))]] [0,9,10,11,12,34])
 (.cond (.t 34) (.seq (cR [oM 35 0,
 oM 36 10,
 oA 37 .call [.c (.func (.func 310) #[] #[]),.t 35,.t 36,.t 9],
 oM 10 37] [0,9,10,11,12])
 (.seq (cR [oM 38 0,
 oM 39 11,
 oA 40 .call [.c (.func (.func 310) #[] #[]),.t 38,.t 39,.t 9],
 oM 11 40] [0,9,10,11,12])
 (cR [oM 41 0,
 oM 42 12,
 oA 43 .call [.c (.func (.func 310) #[] #[]),.t 41,.t 42,.t 9],
 oM 12 43] [0,9,10,11,12])))
 (.skip)))
 (cR [oM 44 0,
 oM 45 10,
 oM 46 11,
 oM 47 12,
 oA 48 .call [.c (.func (.func 311) #[] #[]),.t 44,.t 45,.t 46,.t 47,.t 9],
 oM 11 48] [9,11]))
 (.skip)))
 (.seq (cR [oA 49 (.load false 1) [.t 9]] [11,49])
 (.block 0 (.seq (cR [oA 52 (.bin .eql) [.t 49,.c (.int .i64 (0))],
 oM 51 52] [11,49,51])
 (.cond (.t 51) (.seq (cR [oM 53 11,
 oM 6 53,
 oA 7 .move [.c (.int .i64 (1))]] [6,7])
 (.ret))
 (.seq (cR [oA 55 (.bin .eql) [.t 49,.c (.int .i64 (12))],
 oM 54 55] [11,54])
 (.cond (.t 54) (.seq (cR [oM 56 11,
 oM 6 56,
 oA 7 .move [.c (.int .i64 (2))]] [6,7])
 (.ret))
 (.seq (cR [oM 50 11,
 oM 6 50,
 oA 7 .move [.c (.int .i64 (0))]] [6,7])
 (.ret)))))))))))))),
 [.tmp 6, .tmp 7], none⟩

def l278_0 : Code :=
 .seq (.seq (cR [oM 11 6,
 oM 12 7,
 oA 13 (.bin .lss) [.t 11,.t 12]] [0,6,7,13])
 (.cond (.t 13) (.skip)
 (.exit 0)))
 (.block 1 (.seq (cD [⟨[oM 14 0,
 oM 15 6,
 oM 16 0,
 oM 17 7,
 oM 18 0,
 oM 19 7,
 oA 20 (.idxAddr 1) [.t 18,.t 19],
 oA 21 (.load false 1) [.t 20],
 oM 22 0,
 oM 23 6,
 oA 24 (.idxAddr 1) [.t 22,.t 23],
 oA 25 (.load false 1) [.t 24],
 oA 26 (.idxAddr 1) [.t 14,.t 15]],some (oN (.store 1) [.t 26,.t 21]),[],[]⟩,
 ⟨[oA 27 (.idxAddr 1) [.t 16,.t 17]],some (oN (.store 1) [.t 27,.t 25]),[],[]⟩] [14,15,16,17,18,19,20,21,22,23,24,25,26,27] [0,6,7])
 (.seq (cR [oM 28 6,
 oA 29 (.bin .add) [.t 28,.c (.int .i64 (1))],
 oM 6 29] [0,6,7])
 (cR [oM 30 7,
 oA 31 (.bin .sub) [.t 30,.c (.int .i64 (1))],
 oM 7 31] [0,6,7]))))
def f278 : Func := ⟨.seq (cR [oM 8 1,
 oM 6 8] [0,2,6])
 (.seq (cR [oM 9 2,
 oA 10 (.bin .sub) [.t 9,.c (.int .i64 (1))],
 oM 7 10] [0,6,7])
 (.block 0 (.loop [0,6,7] l278_0))),
 [], none⟩

def l279_0 : Code :=
 .seq (.seq (cD [⟨[oM 17 7,
 oM 18 2,
 oA 19 (.bin .lss) [.t 17,.t 18],
 oM 20 19,
 oG (some 21) .move [.t 0] 20 true,
 oG (some 22) .move [.t 7] 20 true,
 oG (some 23) (.idxAddr 1) [.t 21,.t 22] 20 true,
 oG (some 24) (.load false 1) [.t 23] 20 true,
 oG (some 25) .move [.t 0] 20 true,
 oG (some 26) .move [.t 7] 20 true,
 oG (some 27) (.bin .sub) [.t 26,.c (.int .i64 (1))] 20 true,
 oG (some 28) (.idxAddr 1) [.t 25,.t 27] 20 true,
 oG (some 29) (.load false 1) [.t 28] 20 true],some (oG (some 30) .call [.c (.func (.func 280) #[] #[]),.t 24,.t 29] 20 true),[],[]⟩,
 ⟨[oG (some 31) (.un .not) [.t 30] 20 true,
 oA 32 .pick [.t 20,.t 31,.c (.bool false)]],none,[],[]⟩] [17,18,19,20,21,22,23,24,25,26,27,28,29,30,31,32] [0,1,2,7,8,32])
 (.cond (.t 32) (.skip)
 (.exit 2)))
 (.block 3 (cR [oM 33 7,
 oA 34 (.bin .add) [.t 33,.c (.int .i64 (1))],
 oM 7 34] [0,1,2,7,8]))
def l279_1 : Code :=
 .seq (.seq (cR [oM 64 9,
 oA 65 (.bin .geq) [.t 64,.c (.int .i64 (1))]] [0,1,2,7,8,9,65])
 (.cond (.t 65) (.skip)
 (.exit 4)))
 (.seq (.block 5 (.seq (.seq (cD [⟨[oM 68 0,
 oM 69 9,
 oA 70 (.idxAddr 1) [.t 68,.t 69],
 oA 71 (.load false 1) [.t 70],
 oM 72 0,
 oM 73 9,
 oA 74 (.bin .sub) [.t 73,.c (.int .i64 (1))],
 oA 75 (.idxAddr 1) [.t 72,.t 74],
 oA 76 (.load false 1) [.t 75]],some (oA 77 .call [.c (.func (.func 280) #[] #[]),.t 71,.t 76]),[],[]⟩,
 ⟨[oA 78 (.un .not) [.t 77]],none,[],[]⟩] [68,69,70,71,72,73,74,75,76,77,78] [0,1,2,7,8,9,78])
 (.cond (.t 78) (.exit 4)
 (.skip)))
 (cD [⟨[oM 79 0,
 oM 80 9,
 oM 81 0,
 oM 82 9,
 oA 83 (.bin .sub) [.t 82,.c (.int .i64 (1))],
 oM 84 0,
 oM 85 9,
 oA 86 (.bin .sub) [.t 85,.c (.int .i64 (1))],
 oA 87 (.idxAddr 1) [.t 84,.t 86],
 oA 88 (.load false 1) [.t 87],
 oM 89 0,
 oM 90 9,
 oA 91 (.idxAddr 1) [.t 89,.t 90],
 oA 92 (.load false 1) [.t 91],
 oA 93 (.idxAddr 1) [.t 79,.t 80]],some (oN (.store 1) [.t 93,.t 88]),[],[]⟩,
 ⟨[oA 94 (.idxAddr 1) [.t 81,.t 83]],some (oN (.store 1) [.t 94,.t 92]),[],[]⟩] [79,80,81,82,83,84,85,86,87,88,89,90,91,92,93,94] [0,1,2,7,8,9])))
 (cR [oM 66 9,
 oA 67 (.bin .sub) [.t 66,.c (.int .i64 (1))],
 oM 9 67] [0,1,2,7,8,9]))
def l279_2 : Code :=
 .seq (.seq (cR [oM 101 10,
 oM 102 2,
 oA 103 (.bin .lss) [.t 101,.t 102]] [0,1,2,7,8,10,103])
 (.cond (.t 103) (.skip)
 (.exit 6)))
 (.seq (.block 7 (.seq (.seq (cD [⟨[oM 106 0,
 oM 107 10,
 oA 108 (.idxAddr 1) [.t 106,.t 107],
 oA 109 (.load false 1) [.t 108],
 oM 110 0,
 oM 111 10,
 oA 112 (.bin .sub) [.t 111,.c (.int .i64 (1))],
 oA 113 (.idxAddr 1) [.t 110,.t 112],
 oA 114 (.load false 1) [.t 113]],some (oA 115 .call [.c (.func (.func 280) #[] #[]),.t 109,.t 114]),[],[]⟩,
 ⟨[oA 116 (.un .not) [.t 115]],none,[],[]⟩] [106,107,108,109,110,111,112,113,114,115,116] [0,1,2,7,8,10,116])
 (.cond (.t 116) (.exit 6)
 (.skip)))
 (cD [⟨[oM 117 0,
 oM 118 10,
 oM 119 0,
 oM 120 10,
 oA 121 (.bin .sub) [.t 120,.c (.int .i64 (1))],
 oM 122 0,
 oM 123 10,
 oA 124 (.bin .sub) [.t 123,.c (.int .i64 (1))],
 oA 125 (.idxAddr 1) [.t 122,.t 124],
 oA 126 (.load false 1) [.t 125],
 oM 127 0,
 oM 128 10,
 oA 129 (.idxAddr 1) [.t 127,.t 128],
 oA 130 (.load false 1) [.t 129],
 oA 131 (.idxAddr 1) [.t 117,.t 118]],some (oN (.store 1) [.t 131,.t 126]),[],[]⟩,
 ⟨[oA 132 (.idxAddr 1) [.t 119,.t 121]],some (oN (.store 1) [.t 132,.t 130]),[],[]⟩] [117,118,119,120,121,122,123,124,125,126,127,128,129,130,131,132] [0,1,2,7,8,10])))
 (cR [oM 104 10,
 oA 105 (.bin .add) [.t 104,.c (.int .i64 (1))],
 oM 10 105] [0,1,2,7,8,10]))
def l279_3 : Code :=
 .seq (.seq (cR [oM 13 8,
 oA 14 (.bin .lss) [.t 13,.c (.int .i64 (5))]] [0,1,2,7,8,14])
 (.cond (.t 14) (.skip)
 (.exit 0)))
 (.seq (.block 1 (.seq (.block 2 (.loop [0,1,2,7,8] l279_0))
 (.seq (.seq (cR [oM 35 7,
 oM 36 2,
 oA 37 (.bin .eql) [.t 35,.t 36]] [0,1,2,7,8,37])
 (.cond (.t 37) (.seq (cR [oA 6 .move [.c (.bool true)]] [6])
 (.ret))
 (.skip)))
 (.seq (.seq (cR [oM 38 2,
 oM 39 1,
 oA 40 (.bin .sub) [.t 38,.t 39],
 oA 41 (.bin .lss) [.t 40,.c (.int .i64 (50))]] [0,1,2,7,8,41])
 (.cond (.t 41) (.seq (cR [oA 6 .move [.c (.bool false)]] [6])
 (.ret))
 (.skip)))
 (.seq (cD [⟨[oM 42 0,
 oM 43 7,
 oM 44 0,
 oM 45 7,
 oA 46 (.bin .sub) [.t 45,.c (.int .i64 (1))],
 oM 47 0,
 oM 48 7,
 oA 49 (.bin .sub) [.t 48,.c (.int .i64 (1))],
 oA 50 (.idxAddr 1) [.t 47,.t 49],
 oA 51 (.load false 1) [.t 50],
 oM 52 0,
 oM 53 7,
 oA 54 (.idxAddr 1) [.t 52,.t 53],
 oA 55 (.load false 1) [.t 54],
 oA 56 (.idxAddr 1) [.t 42,.t 43]],some (oN (.store 1) [.t 56,.t 51]),[],[]⟩,
 ⟨[oA 57 (.idxAddr 1) [.t 44,.t 46]],some (oN (.store 1) [.t 57,.t 55]),[],[]⟩] [42,43,44,45,46,47,48,49,50,51,52,53,54,55,56,57] [0,1,2,7,8])
 (.seq (.seq (cR [oM 58 7,
 oM 59 1,
 oA 60 (.bin .sub) [.t 58,.t 59],
 oA 61 (.bin .geq) [.t 60,.c (.int .i64 (2))]] [0,1,2,7,8,61])
 (.cond (.t 61) (.seq (cR [oM 62 7,
 oA 63 (.bin .sub) [.t 62,.c (.int .i64 (1))],
 oM 9 63] [0,1,2,7,8,9])
 (.block 4 (.loop [0,1,2,7,8,9] l279_1)))
 (.skip)))
 (.seq (cR [oM 95 2,
 oM 96 7,
 oA 97 (.bin .sub) [.t 95,.t 96],
 oA 98 (.bin .geq) [.t 97,.c (.int .i64 (2))]] [0,1,2,7,8,98])
 (.cond (.t 98) (.seq (cR [oM 99 7,
 oA 100 (.bin .add) [.t 99,.c (.int .i64 (1))],
 oM 10 100] [0,1,2,7,8,10])
 (.block 6 (.loop [0,1,2,7,8,10] l279_2)))
 (.skip)))))))))
 (cR [oM 15 8,
 oA 16 (.bin .add) [.t 15,.c (.int .i64 (1))],
 oM 8 16] [0,1,2,7,8]))
def f279 : Func := ⟨.seq (cR [oA 6 .move [.c (.bool false)]] [0,1,2])
 (.seq (cR [oM 11 1,
 oA 12 (.bin .add) [.t 11,.c (.int .i64 (1))],
 oM 7 12] [0,1,2,7])
 (.seq (.seq (cR [oA 8 .move [.c (.int .i64 (0))]] [0,1,2,7,8])
 (.block 0 (.loop [0,1,2,7,8] l279_3)))
 (.seq (cR [oA 6 .move [.c (.bool false)]] [6])
 (.ret)))),
 [.tmp 6], none⟩

def f280 : Func := ⟨.seq (cR [oA 4 .move [.c (.bool false)]] [0,1])
 (.seq (cR [oM 5 0,
 oA 6 .call [.c (.func (.func 216) #[] #[]),.t 5],
 oM 7 6,
 oG (some 8) .move [.t 1] 7 true,
 oG (some 9) .call [.c (.func (.func 216) #[] #[]),.t 8] 7 true,
 oG (some 10) (.un .not) [.t 9] 7 true,
 oA 11 .pick [.t 7,.t 10,.c (.bool false)],
 oM 12 11,
 oG (some 13) .move [.t 0] 12 false,
 oG (some 14) .move [.t 1] 12 false,
 oG (some 15) (.bin .lss) [.t 13,.t 14] 12 false,
 oA 16 .pick [.t 12,.c (.bool true),.t 15],
 oM 4 16] [4])
 (.ret)),
 [.tmp 4], none⟩

def l281_0 : Code :=
 .seq (.seq (cD [⟨[oM 29 9,
 oM 30 10,
 oA 31 (.bin .leq) [.t 29,.t 30],
 oM 32 31,
 oG (some 33) .move [.t 0] 32 true,
 oG (some 34) .move [.t 1] 32 true,
 oG (some 35) (.idxAddr 1) [.t 33,.t 34] 32 true,
 oG (some 36) (.load false 1) [.t 35] 32 true,
 oG (some 37) .move [.t 0] 32 true,
 oG (some 38) .move [.t 9] 32 true,
 oG (some 39) (.idxAddr 1) [.t 37,.t 38] 32 true,
 oG (some 40) (.load false 1) [.t 39] 32 true],some (oG (some 41) .call [.c (.func (.func 280) #[] #[]),.t 36,.t 40] 32 true),[],[]⟩,
 ⟨[oG (some 42) (.un .not) [.t 41] 32 true,
 oA 43 .pick [.t 32,.t 42,.c (.bool false)]],none,[],[]⟩] [29,30,31,32,33,34,35,36,37,38,39,40,41,42,43] [0,1,9,10,43])
 (.cond (.t 43) (.skip)
 (.exit 2)))
 (.block 3 (cR [oM 44 9,
 oA 45 (.bin .add) [.t 44,.c (.int .i64 (1))],
 oM 9 45] [0,1,9,10]))
def l281_1 : Code :=
 .seq (.seq (cD [⟨[oM 46 9,
 oM 47 10,
 oA 48 (.bin .leq) [.t 46,.t 47],
 oM 49 48,
 oG (some 50) .move [.t 0] 49 true,
 oG (some 51) .move [.t 1] 49 true,
 oG (some 52) (.idxAddr 1) [.t 50,.t 51] 49 true,
 oG (some 53) (.load false 1) [.t 52] 49 true,
 oG (some 54) .move [.t 0] 49 true,
 oG (some 55) .move [.t 10] 49 true,
 oG (some 56) (.idxAddr 1) [.t 54,.t 55] 49 true,
 oG (some 57) (.load false 1) [.t 56] 49 true],some (oG (some 58) .call [.c (.func (.func 280) #[] #[]),.t 53,.t 57] 49 true),[],[]⟩,
 ⟨[oA 59 .pick [.t 49,.t 58,.c (.bool false)]],none,[],[]⟩] [46,47,48,49,50,51,52,53,54,55,56,57,58,59] [0,1,9,10,59])
 (.cond (.t 59) (.skip)
 (.exit 4)))
 (.block 5 (cR [oM 60 10,
 oA 61 (.bin .sub) [.t 60,.c (.int .i64 (1))],
 oM 10 61] [0,1,9,10]))
def l281_2 : Code :=
 .block 1 (.seq (.block 2 (.loop [0,1,9,10] l281_0))
 (.seq (.block 4 (.loop [0,1,9,10] l281_1))
 (.seq (.seq (cR [oM 62 9,
 oM 63 10,
 oA 64 (.bin .gtr) [.t 62,.t 63]] [0,1,9,10,64])
 (.cond (.t 64) (.exit 0)
 (.skip)))
 (.seq (cD [⟨[oM 65 0,
 oM 66 9,
 oM 67 0,
 oM 68 10,
 oM 69 0,
 oM 70 10,
 oA 71 (.idxAddr 1) [.t 69,.t 70],
 oA 72 (.load false 1) [.t 71],
 oM 73 0,
 oM 74 9,
 oA 75 (.idxAddr 1) [.t 73,.t 74],
 oA 76 (.load false 1) [.t 75],
 oA 77 (.idxAddr 1) [.t 65,.t 66]],some (oN (.store 1) [.t 77,.t 72]),[],[]⟩,
 ⟨[oA 78 (.idxAddr 1) [.t 67,.t 68]],some (oN (.store 1) [.t 78,.t 76]),[],[]⟩] [65,66,67,68,69,70,71,72,73,74,75,76,77,78] [0,1,9,10])
 (.seq (cR [oM 79 9,
 oA 80 (.bin .add) [.t 79,.c (.int .i64 (1))],
 oM 9 80] [0,1,9,10])
 (cR [oM 81 10,
 oA 82 (.bin .sub) [.t 81,.c (.int .i64 (1))],
 oM 10 82] [0,1,9,10]))))))
def f281 : Func := ⟨.seq (cR [oA 8 .move [.c (.int .i64 (0))]] [0,1,2,3])
 (.seq (cD [⟨[oM 11 0,
 oM 12 1,
 oM 13 0,
 oM 14 3,
 oM 15 0,
 oM 16 3,
 oA 17 (.idxAddr 1) [.t 15,.t 16],
 oA 18 (.load false 1) [.t 17],
 oM 19 0,
 oM 20 1,
 oA 21 (.idxAddr 1) [.t 19,.t 20],
 oA 22 (.load false 1) [.t 21],
 oA 23 (.idxAddr 1) [.t 11,.t 12]],some (oN (.store 1) [.t 23,.t 18]),[],[]⟩,
 ⟨[oA 24 (.idxAddr 1) [.t 13,.t 14]],some (oN (.store 1) [.t 24,.t 22]),[],[]⟩] [11,12,13,14,15,16,17,18,19,20,21,22,23,24] [0,1,2])
 (.seq (cR [oM 25 1,
 oA 26 (.bin .add) [.t 25,.c (.int .i64 (1))],
 oM 27 2,
 oA 28 (.bin .sub) [.t 27,.c (.int .i64 (1))],
 oM 9 26,
 oM 10 28] [0,1,9,10])
 (.seq (.block 0 (.loop [0,1,9,10] l281_2))
 (.seq (cR [oM 83 9,
 oM 8 83] [8])
 (.ret))))),
 [.tmp 8], none⟩

def l282_0 : Code :=
 .seq (.seq (cD [⟨[oM 30 10,
 oM 31 11,
 oA 32 (.bin .leq) [.t 30,.t 31],
 oM 33 32,
 oG (some 34) .move [.t 0] 33 true,
 oG (some 35) .move [.t 10] 33 true,
 oG (some 36) (.idxAddr 1) [.t 34,.t 35] 33 true,
 oG (some 37) (.load false 1) [.t 36] 33 true,
 oG (some 38) .move [.t 0] 33 true,
 oG (some 39) .move [.t 1] 33 true,
 oG (some 40) (.idxAddr 1) [.t 38,.t 39] 33 true,
 oG (some 41) (.load false 1) [.t 40] 33 true],some (oG (some 42) .call [.c (.func (.func 280) #[] #[]),.t 37,.t 41] 33 true),[],[]⟩,
 ⟨[oA 43 .pick [.t 33,.t 42,.c (.bool false)]],none,[],[]⟩] [30,31,32,33,34,35,36,37,38,39,40,41,42,43] [0,1,10,11,43])
 (.cond (.t 43) (.skip)
 (.exit 0)))
 (.block 1 (cR [oM 44 10,
 oA 45 (.bin .add) [.t 44,.c (.int .i64 (1))],
 oM 10 45] [0,1,10,11]))
def l282_1 : Code :=
 .seq (.seq (cD [⟨[oM 46 10,
 oM 47 11,
 oA 48 (.bin .leq) [.t 46,.t 47],
 oM 49 48,
 oG (some 50) .move [.t 0] 49 true,
 oG (some 51) .move [.t 11] 49 true,
 oG (some 52) (.idxAddr 1) [.t 50,.t 51] 49 true,
 oG (some 53) (.load false 1) [.t 52] 49 true,
 oG (some 54) .move [.t 0] 49 true,
 oG (some 55) .move [.t 1] 49 true,
 oG (some 56) (.idxAddr 1) [.t 54,.t 55] 49 true,
 oG (some 57) (.load false 1) [.t 56] 49 true],some (oG (some 58) .call [.c (.func (.func 280) #[] #[]),.t 53,.t 57] 49 true),[],[]⟩,
 ⟨[oG (some 59) (.un .not) [.t 58] 49 true,
 oA 60 .pick [.t 49,.t 59,.c (.bool false)]],none,[],[]⟩] [46,47,48,49,50,51,52,53,54,55,56,57,58,59,60] [0,1,10,11,60])
 (.cond (.t 60) (.skip)
 (.exit 2)))
 (.block 3 (cR [oM 61 11,
 oA 62 (.bin .sub) [.t 61,.c (.int .i64 (1))],
 oM 11 62] [0,1,10,11]))
def l282_2 : Code :=
 .seq (.seq (cD [⟨[oM 99 10,
 oM 100 11,
 oA 101 (.bin .leq) [.t 99,.t 100],
 oM 102 101,
 oG (some 103) .move [.t 0] 102 true,
 oG (some 104) .move [.t 10] 102 true,
 oG (some 105) (.idxAddr 1) [.t 103,.t 104] 102 true,
 oG (some 106) (.load false 1) [.t 105] 102 true,
 oG (some 107) .move [.t 0] 102 true,
 oG (some 108) .move [.t 1] 102 true,
 oG (some 109) (.idxAddr 1) [.t 107,.t 108] 102 true,
 oG (some 110) (.load false 1) [.t 109] 102 true],some (oG (some 111) .call [.c (.func (.func 280) #[] #[]),.t 106,.t 110] 102 true),[],[]⟩,
 ⟨[oA 112 .pick [.t 102,.t 111,.c (.bool false)]],none,[],[]⟩] [99,100,101,102,103,104,105,106,107,108,109,110,111,112] [0,1,10,11,112])
 (.cond (.t 112) (.skip)
 (.exit 6)))
 (.block 7 (cR [oM 113 10,
 oA 114 (.bin .add) [.t 113,.c (.int .i64 (1))],
 oM 10 114] [0,1,10,11]))
def l282_3 : Code :=
 .seq (.seq (cD [⟨[oM 115 10,
 oM 116 11,
 oA 117 (.bin .leq) [.t 115,.t 116],
 oM 118 117,
 oG (some 119) .move [.t 0] 118 true,
 oG (some 120) .move [.t 11] 118 true,
 oG (some 121) (.idxAddr 1) [.t 119,.t 120] 118 true,
 oG (some 122) (.load false 1) [.t 121] 118 true,
 oG (some 123) .move [.t 0] 118 true,
 oG (some 124) .move [.t 1] 118 true,
 oG (some 125) (.idxAddr 1) [.t 123,.t 124] 118 true,
 oG (some 126) (.load false 1) [.t 125] 118 true],some (oG (some 127) .call [.c (.func (.func 280) #[] #[]),.t 122,.t 126] 118 true),[],[]⟩,
 ⟨[oG (some 128) (.un .not) [.t 127] 118 true,
 oA 129 .pick [.t 118,.t 128,.c (.bool false)]],none,[],[]⟩] [115,116,117,118,119,120,121,122,123,124,125,126,127,128,129] [0,1,10,11,129])
 (.cond (.t 129) (.skip)
 (.exit 8)))
 (.block 9 (cR [oM 130 11,
 oA 131 (.bin .sub) [.t 130,.c (.int .i64 (1))],
 oM 11 131] [0,1,10,11]))
def l282_4 : Code :=
 .block 5 (.seq (.block 6 (.loop [0,1,10,11] l282_2))
 (.seq (.block 8 (.loop [0,1,10,11] l282_3))
 (.seq (.seq (cR [oM 132 10,
 oM 133 11,
 oA 134 (.bin .gtr) [.t 132,.t 133]] [0,1,10,11,134])
 (.cond (.t 134) (.exit 4)
 (.skip)))
 (.seq (cD [⟨[oM 135 0,
 oM 136 10,
 oM 137 0,
 oM 138 11,
 oM 139 0,
 oM 140 11,
 oA 141 (.idxAddr 1) [.t 139,.t 140],
 oA 142 (.load false 1) [.t 141],
 oM 143 0,
 oM 144 10,
 oA 145 (.idxAddr 1) [.t 143,.t 144],
 oA 146 (.load false 1) [.t 145],
 oA 147 (.idxAddr 1) [.t 135,.t 136]],some (oN (.store 1) [.t 147,.t 142]),[],[]⟩,
 ⟨[oA 148 (.idxAddr 1) [.t 137,.t 138]],some (oN (.store 1) [.t 148,.t 146]),[],[]⟩] [135,136,137,138,139,140,141,142,143,144,145,146,147,148] [0,1,10,11])
 (.seq (cR [oM 149 10,
 oA 150 (.bin .add) [.t 149,.c (.int .i64 (1))],
 oM 10 150] [0,1,10,11])
 (cR [oM 151 11,
 oA 152 (.bin .sub) [.t 151,.c (.int .i64 (1))],
 oM 11 152] [0,1,10,11]))))))
def f282 : Func := ⟨.seq (cR [oA 8 .move [.c (.int .i64 (0))],
 oA 9 .move [.c (.bool false)]] [0,1,2,3])
 (.seq (cD [⟨[oM 12 0,
 oM 13 1,
 oM 14 0,
 oM 15 3,
 oM 16 0,
 oM 17 3,
 oA 18 (.idxAddr 1) [.t 16,.t 17],
 oA 19 (.load false 1) [.t 18],
 oM 20 0,
 oM 21 1,
 oA 22 (.idxAddr 1) [.t 20,.t 21],
 oA 23 (.load false 1) [.t 22],
 oA 24 (.idxAddr 1) [.t 12,.t 13]],some (oN (.store 1) [.t 24,.t 19]),[],[]⟩,
 ⟨[oA 25 (.idxAddr 1) [.t 14,.t 15]],some (oN (.store 1) [.t 25,.t 23]),[],[]⟩] [12,13,14,15,16,17,18,19,20,21,22,23,24,25] [0,1,2])
 (.seq (cR [oM 26 1,
 oA 27 (.bin .add) [.t 26,.c (.int .i64 (1))],
 oM 28 2,
 oA 29 (.bin .sub) [.t 28,.c (.int .i64 (1))],
 oM 10 27,
 oM 11 29] [0,1,10,11])
 (.seq (.block 0 (.loop [0,1,10,11] l282_0))
 (.seq (.block 2 (.loop [0,1,10,11] l282_1))
 (.seq (.seq (cR [oM 63 10,
 oM 64 11,
 oA 65 (.bin .gtr) [.t 63,.t 64]] [0,1,10,11,65])
 (.cond (.t 65) (.seq (cD [⟨[oM 66 0,
 oM 67 11,
 oM 68 0,
 oM 69 1,
 oM 70 0,
 oM 71 1,
 oA 72 (.idxAddr 1) [.t 70,.t 71],
 oA 73 (.load false 1) [.t 72],
 oM 74 0,
 oM 75 11,
 oA 76 (.idxAddr 1) [.t 74,.t 75],
 oA 77 (.load false 1) [.t 76],
 oA 78 (.idxAddr 1) [.t 66,.t 67]],some (oN (.store 1) [.t 78,.t 73]),[],[]⟩,
 ⟨[oA 79 (.idxAddr 1) [.t 68,.t 69]],some (oN (.store 1) [.t 79,.t 77]),[],[]⟩] [66,67,68,69,70,71,72,73,74,75,76,77,78,79] [11])
 (.seq (cR [oM 80 11,
 oM 8 80,
 oA 9 .move [.c (.bool true)]] [8,9])
 (.ret)))
 (.skip)))
 (.seq (cD [⟨[oM 81 0,
 oM 82 10,
 oM 83 0,
 oM 84 11,
 oM 85 0,
 oM 86 11,
 oA 87 (.idxAddr 1) [.t 85,.t 86],
 oA 88 (.load false 1) [.t 87],
 oM 89 0,
 oM 90 10,
 oA 91 (.idxAddr 1) [.t 89,.t 90],
 oA 92 (.load false 1) [.t 91],
 oA 93 (.idxAddr 1) [.t 81,.t 82]],some (oN (.store 1) [.t 93,.t 88]),[],[]⟩,
 ⟨[oA 94 (.idxAddr 1) [.t 83,.t 84]],some (oN (.store 1) [.t 94,.t 92]),[],[]⟩] [81,82,83,84,85,86,87,88,89,90,91,92,93,94] [0,1,10,11])
 (.seq (cR [oM 95 10,
 oA 96 (.bin .add) [.t 95,.c (.int .i64 (1))],
 oM 10 96] [0,1,10,11])
 (.seq (cR [oM 97 11,
 oA 98 (.bin .sub) [.t 97,.c (.int .i64 (1))],
 oM 11 98] [0,1,10,11])
 (.seq (.block 4 (.loop [0,1,10,11] l282_4))
 (.seq (cD [⟨[oM 153 0,
 oM 154 11,
 oM 155 0,
 oM 156 1,
 oM 157 0,
 oM 158 1,
 oA 159 (.idxAddr 1) [.t 157,.t 158],
 oA 160 (.load false 1) [.t 159],
 oM 161 0,
 oM 162 11,
 oA 163 (.idxAddr 1) [.t 161,.t 162],
 oA 164 (.load false 1) [.t 163],
 oA 165 (.idxAddr 1) [.t 153,.t 154]],some (oN (.store 1) [.t 165,.t 160]),[],[]⟩,
 ⟨[oA 166 (.idxAddr 1) [.t 155,.t 156]],some (oN (.store 1) [.t 166,.t 164]),[],[]⟩] [153,154,155,156,157,158,159,160,161,162,163,164,165,166] [11])
 (.seq (cR [oM 167 11,
 oM 8 167,
 oA 9 .move [.c (.bool false)]] [8,9])
 (.ret)))))))))))),
 [.tmp 8, .tmp 9], none⟩

def f283 : Func := ⟨.seq (cR [oA 2 .move [.c (.int .i64 (0))]] [0,2])
 (.seq (.seq (cR [oM 3 0,
 oA 4 (.bin .geq) [.t 3,.c (.int .u32 (65536))]] [0,2,4])
 (.cond (.t 4) (.seq (cR [oM 5 0,
 oA 6 (.bin .shr) [.t 5,.c (.int .u64 (16))],
 oM 0 6] [0])
 (cR [oA 2 .move [.c (.int .i64 (16))]] [0,2]))
 (.skip)))
 (.seq (.seq (cR [oM 7 0,
 oA 8 (.bin .geq) [.t 7,.c (.int .u32 (256))]] [0,2,8])
 (.cond (.t 8) (.seq (cR [oM 9 0,
 oA 10 (.bin .shr) [.t 9,.c (.int .u64 (8))],
 oM 0 10] [0,2])
 (cR [oM 11 2,
 oA 12 (.bin .add) [.t 11,.c (.int .i64 (8))],
 oM 2 12] [0,2]))
 (.skip)))
 (.seq (cR [oM 13 2,
 oM 14 0,
 oA 15 (.toInt .u8) [.t 14],
 oA 16 .idxStr [.c (.string ⟨⟨[0, 1, 2, 2, 3, 3, 3, 3, 4, 4, 4, 4, 4, 4, 4, 4, 5, 5, 5, 5, 5, 5, 5, 5, 5, 5, 5, 5, 5, 5, 5, 5, 6, 6, 6, 6, 6, 6, 6, 6, 6, 6, 6, 6, 6, 6, 6, 6, 6, 6, 6, 6, 6, 6, 6, 6, 6, 6, 6, 6, 6, 6, 6, 6, 7, 7, 7, 7, 7, 7, 7, 7, 7, 7, 7, 7, 7, 7, 7, 7, 7, 7, 7, 7, 7, 7, 7, 7, 7, 7, 7, 7, 7, 7, 7, 7, 7, 7, 7, 7, 7, 7, 7, 7, 7, 7, 7, 7, 7, 7, 7, 7, 7, 7, 7, 7, 7, 7, 7, 7, 7, 7, 7, 7, 7, 7, 7, 7, 8, 8, 8, 8, 8, 8, 8, 8, 8, 8, 8, 8, 8, 8, 8, 8, 8, 8, 8, 8, 8, 8, 8, 8, 8, 8, 8, 8, 8, 8, 8, 8, 8, 8, 8, 8, 8, 8, 8, 8, 8, 8, 8, 8, 8, 8, 8, 8, 8, 8, 8, 8, 8, 8, 8, 8, 8, 8, 8, 8, 8, 8, 8, 8, 8, 8, 8, 8, 8, 8, 8, 8, 8, 8, 8, 8, 8, 8, 8, 8, 8, 8, 8, 8, 8, 8, 8, 8, 8, 8, 8, 8, 8, 8, 8, 8, 8, 8, 8, 8, 8, 8, 8, 8, 8, 8, 8, 8, 8, 8, 8, 8, 8, 8, 8, 8, 8, 8, 8, 8, 8, 8, 8, 8, 8, 8, 8, 8]⟩⟩),.t 15],
 oA 17 (.toInt .i64) [.t 16],
 oA 18 (.bin .add) [.t 13,.t 17],
 oM 2 18] [2])
 (.ret)))),
 [.tmp 2], none⟩

def f284 : Func := ⟨.seq (cR [oA 2 .move [.c (.int .i64 (0))]] [0,2])
 (.seq (.seq (cR [oM 3 0,
 oA 4 (.bin .geq) [.t 3,.c (.int .u64 (4294967296))]] [0,2,4])
 (.cond (.t 4) (.seq (cR [oM 5 0,
 oA 6 (.bin .shr) [.t 5,.c (.int .u64 (32))],
 oM 0 6] [0])
 (cR [oA 2 .move [.c (.int .i64 (32))]] [0,2]))
 (.skip)))
 (.seq (.seq (cR [oM 7 0,
 oA 8 (.bin .geq) [.t 7,.c (.int .u64 (65536))]] [0,2,8])
 (.cond (.t 8) (.seq (cR [oM 9 0,
 oA 10 (.bin .shr) [.t 9,.c (.int .u64 (16))],
 oM 0 10] [0,2])
 (cR [oM 11 2,
 oA 12 (.bin .add) [.t 11,.c (.int .i64 (16))],
 oM 2 12] [0,2]))
 (.skip)))
 (.seq (.seq (cR [oM 13 0,
 oA 14 (.bin .geq) [.t 13,.c (.int .u64 (256))]] [0,2,14])
 (.cond (.t 14) (.seq (cR [oM 15 0,
 oA 16 (.bin .shr) [.t 15,.c (.int .u64 (8))],
 oM 0 16] [0,2])
 (cR [oM 17 2,
 oA 18 (.bin .add) [.t 17,.c (.int .i64 (8))],
 oM 2 18] [0,2]))
 (.skip)))
 (.seq (cR [oM 19 2,
 oM 20 0,
 oA 21 (.toInt .u8) [.t 20],
 oA 22 .idxStr [.c (.string ⟨⟨[0, 1, 2, 2, 3, 3, 3, 3, 4, 4, 4, 4, 4, 4, 4, 4, 5, 5, 5, 5, 5, 5, 5, 5, 5, 5, 5, 5, 5, 5, 5, 5, 6, 6, 6, 6, 6, 6, 6, 6, 6, 6, 6, 6, 6, 6, 6, 6, 6, 6, 6, 6, 6, 6, 6, 6, 6, 6, 6, 6, 6, 6, 6, 6, 7, 7, 7, 7, 7, 7, 7, 7, 7, 7, 7, 7, 7, 7, 7, 7, 7, 7, 7, 7, 7, 7, 7, 7, 7, 7, 7, 7, 7, 7, 7, 7, 7, 7, 7, 7, 7, 7, 7, 7, 7, 7, 7, 7, 7, 7, 7, 7, 7, 7, 7, 7, 7, 7, 7, 7, 7, 7, 7, 7, 7, 7, 7, 7, 8, 8, 8, 8, 8, 8, 8, 8, 8, 8, 8, 8, 8, 8, 8, 8, 8, 8, 8, 8, 8, 8, 8, 8, 8, 8, 8, 8, 8, 8, 8, 8, 8, 8, 8, 8, 8, 8, 8, 8, 8, 8, 8, 8, 8, 8, 8, 8, 8, 8, 8, 8, 8, 8, 8, 8, 8, 8, 8, 8, 8, 8, 8, 8, 8, 8, 8, 8, 8, 8, 8, 8, 8, 8, 8, 8, 8, 8, 8, 8, 8, 8, 8, 8, 8, 8, 8, 8, 8, 8, 8, 8, 8, 8, 8, 8, 8, 8, 8, 8, 8, 8, 8, 8, 8, 8, 8, 8, 8, 8, 8, 8, 8, 8, 8, 8, 8, 8, 8, 8, 8, 8, 8, 8, 8, 8, 8, 8]⟩⟩),.t 21],
 oA 23 (.toInt .i64) [.t 22],
 oA 24 (.bin .add) [.t 19,.t 23],
 oM 2 24] [2])
 (.ret))))),
 [.tmp 2], none⟩

def f285 : Func := ⟨.seq (cR [oA 6 .move [.c (.slice none 0 0)]] [0,1,2])
 (.seq (cR [oM 8 0,
 oM 9 1,
 oM 10 2,
 oM 11 0,
 oA 12 .lenS [.t 11],
 oA 13 (.slice 3 true true true) [.t 8,.t 9,.t 10,.t 12]] [0,1,2])
 (.seq (.seq (cR [oM 14 1,
 oM 15 2,
 oA 16 (.bin .eql) [.t 14,.t 15]] [0,1,2,16])
 (.cond (.t 16) (.seq (cR [oM 17 0,
 oM 6 17] [6])
 (.ret))
 (.skip)))
 (.seq (cR [oM 18 0,
 oA 19 .lenS [.t 18],
 oM 7 19] [0,1,2,7])
 (.seq (cD [⟨[oM 20 0,
 oM 21 1,
 oA 22 (.slice 3 false true false) [.t 20,.t 21],
 oM 23 0,
 oM 24 2,
 oA 25 (.slice 3 true false false) [.t 23,.t 24]],some (oA 26 (.append 111 3 24) [.t 22,.t 25]),[],[]⟩,
 ⟨[oM 0 26],none,[],[]⟩] [20,21,22,23,24,25,26,0] [0,7])
 (.seq (cR [oM 27 0,
 oM 28 0,
 oA 29 .lenS [.t 28],
 oM 30 7,
 oA 31 (.slice 3 true true false) [.t 27,.t 29,.t 30],
 oN (.clearS [(.int .i64 (0)), (.int .i64 (0)), (.int .i64 (0))]) [.t 31]] [0])
 (.seq (cR [oM 32 0,
 oM 6 32] [6])
 (.ret))))))),
 [.tmp 6], none⟩

def f286 : Func := ⟨.seq (cR [oA 6 .move [.c (.slice none 0 0)]] [0,1,2])
 (.seq (cR [oM 8 0,
 oM 9 1,
 oM 10 2,
 oM 11 0,
 oA 12 .lenS [.t 11],
 oA 13 (.slice 1 true true true) [.t 8,.t 9,.t 10,.t 12]] [0,1,2])
 (.seq (.seq (cR [oM 14 1,
 oM 15 2,
 oA 16 (.bin .eql) [.t 14,.t 15]] [0,1,2,16])
 (.cond (.t 16) (.seq (cR [oM 17 0,
 oM 6 17] [6])
 (.ret))
 (.skip)))
 (.seq (cR [oM 18 0,
 oA 19 .lenS [.t 18],
 oM 7 19] [0,1,2,7])
 (.seq (cD [⟨[oM 20 0,
 oM 21 1,
 oA 22 (.slice 1 false true false) [.t 20,.t 21],
 oM 23 0,
 oM 24 2,
 oA 25 (.slice 1 true false false) [.t 23,.t 24]],some (oA 26 (.append 236 1 8) [.t 22,.t 25]),[],[]⟩,
 ⟨[oM 0 26],none,[],[]⟩] [20,21,22,23,24,25,26,0] [0,7])
 (.seq (cR [oM 27 0,
 oM 28 0,
 oA 29 .lenS [.t 28],
 oM 30 7,
 oA 31 (.slice 1 true true false) [.t 27,.t 29,.t 30],
 oN (.clearS [(.pointer none)]) [.t 31]] [0])
 (.seq (cR [oM 32 0,
 oM 6 32] [6])
 (.ret))))))),
 [.tmp 6], none⟩

def f287 : Func := ⟨.seq (cR [oA 2 .move [.c (.slice none 0 0)]] [0])
 (.seq (.seq (cR [oM 3 0,
 oA 4 (.isNil .slice false) [.t 3]] [0,4])
 (.cond (.t 4) (.seq (cR [oA 2 .move [.c (.slice none 0 0)]] [2])
 (.ret))
 (.skip)))
 (.seq (cR [oA 5 (.buildSlice 236 1 0 [] []) [],
 oM 6 0,
 oA 7 (.append 236 1 8) [.t 5,.t 6],
 oM 2 7] [2])
 (.ret))),
 [.tmp 2], none⟩

def f288 : Func := ⟨.seq (cR [oM 4 0,
 oM 5 1,
 oA 6 (.slice 1 false true false) [.t 4,.t 5],
 oA 7 .call [.c (.func (.func 312) #[] #[]),.t 6]] [0,1])
 (.seq (cR [oM 8 0,
 oM 9 1,
 oA 10 (.slice 1 true false false) [.t 8,.t 9],
 oA 11 .call [.c (.func (.func 312) #[] #[]),.t 10]] [0])
 (cR [oM 12 0,
 oA 13 .call [.c (.func (.func 312) #[] #[]),.t 12]] [])),
 [], none⟩

def f289 : Func := ⟨.seq (cR [oM 4 0,
 oM 5 1,
 oA 6 (.slice 3 false true false) [.t 4,.t 5],
 oA 7 .call [.c (.func (.func 313) #[] #[]),.t 6]] [0,1])
 (.seq (cR [oM 8 0,
 oM 9 1,
 oA 10 (.slice 3 true false false) [.t 8,.t 9],
 oA 11 .call [.c (.func (.func 313) #[] #[]),.t 10]] [0])
 (cR [oM 12 0,
 oA 13 .call [.c (.func (.func 313) #[] #[]),.t 12]] [])),
 [], none⟩

def f291 : Func := ⟨cR [oM 4 0,
 oM 5 0,
 oA 6 .lenS [.t 5],
 oM 7 1,
 oA 8 (.bin .sub) [.t 6,.t 7],
 oA 9 .call [.c (.func (.func 314) #[] #[]),.t 4,.t 8]] [],
 [], none⟩

def f293 : Func := ⟨cR [oM 4 0,
 oM 5 0,
 oA 6 .lenS [.t 5],
 oM 7 1,
 oA 8 (.bin .sub) [.t 6,.t 7],
 oA 9 .call [.c (.func (.func 315) #[] #[]),.t 4,.t 8]] [],
 [], none⟩

def l294_0 : Code :=
 .seq (.seq (cR [oM 18 10,
 oM 19 11,
 oA 20 (.bin .neq) [.t 18,.t 19]] [0,2,4,10,11,20])
 (.cond (.t 20) (.skip)
 (.exit 0)))
 (.block 1 (.seq (cR [oM 21 10,
 oM 22 11,
 oA 23 (.bin .gtr) [.t 21,.t 22]] [0,2,4,10,11,23])
 (.cond (.t 23) (.seq (cR [oM 24 0,
 oM 25 2,
 oM 26 10,
 oA 27 (.bin .sub) [.t 25,.t 26],
 oM 28 2,
 oM 29 11,
 oM 30 4,
 oA 31 .call [.c (.func (.func 316) #[] #[]),.t 24,.t 27,.t 28,.t 29,.t 30]] [0,2,4,10,11])
 (cR [oM 32 10,
 oM 33 11,
 oA 34 (.bin .sub) [.t 32,.t 33],
 oM 10 34] [0,2,4,10,11]))
 (.seq (cR [oM 35 0,
 oM 36 2,
 oM 37 10,
 oA 38 (.bin .sub) [.t 36,.t 37],
 oM 39 2,
 oM 40 11,
 oA 41 (.bin .add) [.t 39,.t 40],
 oM 42 10,
 oA 43 (.bin .sub) [.t 41,.t 42],
 oM 44 10,
 oM 45 4,
 oA 46 .call [.c (.func (.func 316) #[] #[]),.t 35,.t 38,.t 43,.t 44,.t 45]] [0,2,4,10,11])
 (cR [oM 47 11,
 oM 48 10,
 oA 49 (.bin .sub) [.t 47,.t 48],
 oM 11 49] [0,2,4,10,11])))))
def f294 : Func := ⟨.seq (cR [oM 12 2,
 oM 13 1,
 oA 14 (.bin .sub) [.t 12,.t 13],
 oM 10 14] [0,2,3,4,10])
 (.seq (cR [oM 15 3,
 oM 16 2,
 oA 17 (.bin .sub) [.t 15,.t 16],
 oM 11 17] [0,2,4,10,11])
 (.seq (.block 0 (.loop [0,2,4,10,11] l294_0))
 (cR [oM 50 0,
 oM 51 2,
 oM 52 10,
 oA 53 (.bin .sub) [.t 51,.t 52],
 oM 54 2,
 oM 55 10,
 oM 56 4,
 oA 57 .call [.c (.func (.func 316) #[] #[]),.t 50,.t 53,.t 54,.t 55,.t 56]] []))),
 [], none⟩

def l296_0 : Code :=
 .seq (cR [oA 9 (.bin .lss) [.t 8,.t 7]] [0,1,7,8,9])
 (.seq (.cond (.t 9) (.skip)
 (.exit 0))
 (.seq (.block 1 (.seq (cR [oM 10 8,
 oM 5 10] [0,1,5,7,8])
 (.seq (cR [oM 11 1,
 oM 12 0,
 oM 13 5,
 oA 14 (.idxAddr 3) [.t 12,.t 13],
 oA 15 (.load true 3) [.t 14],
 oA 16 .call [.t 11,.t 15]] [0,1,5,7,8,16])
 (.cond (.t 16) (.seq (cR [oM 17 5,
 oM 4 17] [4])
 (.ret))
 (.skip)))))
 (cR [oA 18 (.bin .add) [.t 8,.c (.int .i64 (1))],
 oM 8 18] [0,1,7,8])))
def f296 : Func := ⟨.seq (cR [oA 4 .move [.c (.int .i64 (0))]] [0,1])
 (.seq (.seq (cR [oM 6 0,
 oA 7 .lenS [.t 6],
 oA 8 .move [.c (.int .i64 (0))]] [0,1,7,8])
 (.block 0 (.loop [0,1,7,8] l296_0)))
 (.seq (cR [oA 4 .move [.c (.int .i64 (-1))]] [4])
 (.ret))),
 [.tmp 4], none⟩

def f297 : Func := ⟨.seq (cR [oA 2 .move [.c (.int .u8 (0))]] [0])
 (.seq (cR [oM 4 0,
 oA 5 .nilCheck [.t 4],
 oA 6 (.fieldAddr 0) [.t 5],
 oA 7 (.load false 1) [.t 6],
 oA 8 .lenS [.t 7],
 oA 9 (.bin .gtr) [.t 8,.c (.int .i64 (0))],
 oA 10 .call [.c (.func (.func 298) #[] #[]),.t 9,.c (.int .i64 (2))]] [0])
 (.seq (cR [oM 11 0,
 oA 12 .nilCheck [.t 11],
 oA 13 (.fieldAddr 0) [.t 12],
 oA 14 (.load false 1) [.t 13],
 oA 15 (.idxAddr 1) [.t 14,.c (.int .i64 (0))],
 oA 16 (.load false 1) [.t 15],
 oM 3 16] [0,3])
 (.seq (cR [oM 17 0,
 oM 18 0,
 oA 19 .nilCheck [.t 18],
 oA 20 (.fieldAddr 0) [.t 19],
 oA 21 (.load false 1) [.t 20],
 oA 22 (.slice 1 true false false) [.t 21,.c (.int .i64 (1))],
 oA 23 .nilCheck [.t 17],
 oA 24 (.fieldAddr 0) [.t 23],
 oN (.store 1) [.t 24,.t 22]] [3])
 (.seq (cR [oM 25 3,
 oM 2 25] [2])
 (.ret))))),
 [.tmp 2], none⟩

def f298 : Func := ⟨.seq (cR [oM 4 0,
 oA 5 (.un .not) [.t 4]] [1,5])
 (.cond (.t 5) (cR [oM 6 1,
 oA 7 (.build [(.int .i64 (0))] [(0, 1)]) [.t 6],
 oA 8 (.iface 358) [.t 7],
 oN .panic [.t 8]] [])
 (.skip)),
 [], none⟩

def l299_0 : Code :=
 .seq (cR [oA 9 (.bin .lss) [.t 8,.c (.int .i64 (256))]] [4,7,8,9])
 (.seq (.cond (.t 9) (.skip)
 (.exit 0))
 (.seq (.block 1 (.seq (cR [oA 10 (.idx 256 1 false) [.t 7,.t 8],
 oM 6 10] [4,6,7,8])
 (.seq (.seq (cR [oM 11 6,
 oA 12 (.bin .lss) [.t 11,.c (.int .i64 (0))],
 oM 13 12,
 oG (some 14) .move [.t 6] 13 false,
 oG (some 15) (.bin .gtr) [.t 14,.c (.int .i64 (11))] 13 false,
 oA 16 .pick [.t 13,.c (.bool true),.t 15]] [4,6,7,8,16])
 (.cond (.t 16) (.seq (cR [oA 2 .move [.c (.int .i64 (0))],
 oA 3 .move [.c (.bool false)]] [2,3])
 (.ret))
 (.skip)))
 (.seq (cR [oM 17 6,
 oA 18 (.bin .gtr) [.t 17,.c (.int .i64 (0))]] [4,6,7,8,18])
 (.cond (.t 18) (cR [oM 19 4,
 oM 20 6,
 oA 21 (.bin .sub) [.c (.int .i64 (11)),.t 20],
 oA 22 (.bin .shl) [.c (.int .i64 (1)),.t 21],
 oA 23 (.bin .add) [.t 19,.t 22],
 oM 4 23] [4,7,8])
 (.skip))))))
 (cR [oA 24 (.bin .add) [.t 8,.c (.int .i64 (1))],
 oM 8 24] [4,7,8])))
def f299 : Func := ⟨.seq (cR [oA 1 (.box 331 256) [.t 0],
 oA 2 .move [.c (.int .i64 (0))],
 oA 3 .move [.c (.bool false)]] [1])
 (.seq (cR [oA 4 .move [.c (.int .i64 (0))]] [1,4])
 (.seq (.seq (cR [oA 7 (.load true 256) [.t 1],
 oA 8 .move [.c (.int .i64 (0))]] [4,7,8])
 (.block 0 (.loop [4,7,8] l299_0)))
 (.seq (cR [oM 25 4,
 oM 2 25,
 oA 3 .move [.c (.bool true)]] [2,3])
 (.ret)))),
 [.tmp 2, .tmp 3], none⟩

def f300 : Func := ⟨.seq (cR [oA 2 .move [.c (.int .i64 (0))]] [0])
 (.seq (cR [oM 4 0,
 oA 5 .nilCheck [.t 4],
 oA 6 (.fieldAddr 0) [.t 5],
 oA 7 (.load false 1) [.t 6],
 oA 8 .lenS [.t 7],
 oA 9 (.bin .gtr) [.t 8,.c (.int .i64 (0))],
 oA 10 .call [.c (.func (.func 298) #[] #[]),.t 9,.c (.int .i64 (2))]] [0])
 (.seq (cD [⟨[oM 11 0,
 oA 12 .nilCheck [.t 11],
 oA 13 (.fieldAddr 0) [.t 12],
 oA 14 (.load false 1) [.t 13],
 oA 15 (.idxAddr 1) [.t 14,.c (.int .i64 (0))],
 oA 16 (.load false 1) [.t 15],
 oM 17 0,
 oA 18 .nilCheck [.t 17],
 oA 19 (.fieldAddr 1) [.t 18],
 oA 20 (.load false 1) [.t 19],
 oA 21 (.bin .sub) [.c (.int .i64 (7)),.t 20],
 oA 22 (.bin .shr) [.t 16,.t 21],
 oA 23 (.toInt .i64) [.t 22],
 oA 24 (.bin .and) [.t 23,.c (.int .i64 (1))],
 oM 3 24],none,[],[]⟩] [11,12,13,14,15,16,17,18,19,20,21,22,23,24,3] [0,3])
 (.seq (cR [oM 25 0,
 oA 26 .nilCheck [.t 25],
 oA 27 (.fieldAddr 1) [.t 26],
 oA 28 (.load false 1) [.t 27],
 oA 29 (.bin .add) [.t 28,.c (.int .i64 (1))],
 oA 30 .nilCheck [.t 25],
 oA 31 (.fieldAddr 1) [.t 30],
 oN (.store 1) [.t 31,.t 29]] [0,3])
 (.seq (.seq (cR [oM 32 0,
 oA 33 .nilCheck [.t 32],
 oA 34 (.fieldAddr 1) [.t 33],
 oA 35 (.load false 1) [.t 34],
 oA 36 (.bin .eql) [.t 35,.c (.int .i64 (8))]] [0,3,36])
 (.cond (.t 36) (cR [oM 37 0,
 oM 38 0,
 oM 39 0,
 oA 40 .nilCheck [.t 39],
 oA 41 (.fieldAddr 0) [.t 40],
 oA 42 (.load false 1) [.t 41],
 oA 43 (.slice 1 true false false) [.t 42,.c (.int .i64 (1))],
 oA 44 .nilCheck [.t 37],
 oA 45 (.fieldAddr 0) [.t 44],
 oN (.store 1) [.t 45,.t 43],
 oA 46 .nilCheck [.t 38],
 oA 47 (.fieldAddr 1) [.t 46],
 oN (.store 1) [.t 47,.c (.int .i64 (0))]] [3])
 (.skip)))
 (.seq (cR [oM 48 3,
 oM 2 48] [2])
 (.ret)))))),
 [.tmp 2], none⟩

def l301_0 : Code :=
 .seq (.seq (cR [oM 7 2,
 oM 8 3,
 oA 9 (.bin .lss) [.t 7,.t 8]] [0,2,3,9])
 (.cond (.t 9) (.skip)
 (.exit 0)))
 (.seq (.block 1 (cD [⟨[oM 14 0,
 oM 15 2,
 oM 16 0,
 oM 17 3,
 oM 18 0,
 oM 19 3,
 oA 20 (.idxAddr 2) [.t 18,.t 19],
 oA 21 (.load true 2) [.t 20],
 oM 22 0,
 oM 23 2,
 oA 24 (.idxAddr 2) [.t 22,.t 23],
 oA 25 (.load true 2) [.t 24],
 oA 26 (.idxAddr 2) [.t 14,.t 15]],some (oN (.store 2) [.t 26,.t 21]),[],[]⟩,
 ⟨[oA 27 (.idxAddr 2) [.t 16,.t 17]],some (oN (.store 2) [.t 27,.t 25]),[],[]⟩] [14,15,16,17,18,19,20,21,22,23,24,25,26,27] [0,2,3]))
 (cR [oM 10 2,
 oA 11 (.bin .add) [.t 10,.c (.int .i64 (1))],
 oM 12 3,
 oA 13 (.bin .sub) [.t 12,.c (.int .i64 (1))],
 oM 2 11,
 oM 3 13] [0,2,3]))
def f301 : Func := ⟨.seq (cR [oM 4 0,
 oA 5 .lenS [.t 4],
 oA 6 (.bin .sub) [.t 5,.c (.int .i64 (1))],
 oA 2 .move [.c (.int .i64 (0))],
 oM 3 6] [0,2,3])
 (.block 0 (.loop [0,2,3] l301_0)),
 [], none⟩

def l302_0 : Code :=
 .seq (.seq (cR [oM 11 8,
 oM 12 1,
 oA 13 (.bin .leq) [.t 11,.t 12]] [0,1,2,6,7,8,13])
 (.cond (.t 13) (.skip)
 (.exit 0)))
 (.block 1 (.seq (cR [oM 14 0,
 oM 15 7,
 oM 16 8,
 oM 17 2,
 oA 18 .call [.c (.func (.func 317) #[] #[]),.t 14,.t 15,.t 16,.t 17]] [0,1,2,6,8])
 (.seq (cR [oM 19 8,
 oM 7 19] [0,1,2,6,7,8])
 (cR [oM 20 8,
 oM 21 6,
 oA 22 (.bin .add) [.t 20,.t 21],
 oM 8 22] [0,1,2,6,7,8]))))
def l302_1 : Code :=
 .seq (.seq (cR [oM 33 8,
 oM 34 1,
 oA 35 (.bin .leq) [.t 33,.t 34]] [0,1,2,6,7,8,35])
 (.cond (.t 35) (.skip)
 (.exit 4)))
 (.block 5 (.seq (cR [oM 36 0,
 oM 37 7,
 oM 38 7,
 oM 39 6,
 oA 40 (.bin .add) [.t 38,.t 39],
 oM 41 8,
 oM 42 2,
 oA 43 .call [.c (.func (.func 318) #[] #[]),.t 36,.t 37,.t 40,.t 41,.t 42]] [0,1,2,6,8])
 (.seq (cR [oM 44 8,
 oM 7 44] [0,1,2,6,7,8])
 (cR [oM 45 8,
 oM 46 6,
 oA 47 (.bin .mul) [.c (.int .i64 (2)),.t 46],
 oA 48 (.bin .add) [.t 45,.t 47],
 oM 8 48] [0,1,2,6,7,8]))))
def l302_2 : Code :=
 .seq (.seq (cR [oM 28 6,
 oM 29 1,
 oA 30 (.bin .lss) [.t 28,.t 29]] [0,1,2,6,30])
 (.cond (.t 30) (.skip)
 (.exit 2)))
 (.block 3 (.seq (cR [oM 31 6,
 oA 32 (.bin .mul) [.c (.int .i64 (2)),.t 31],
 oA 7 .move [.c (.int .i64 (0))],
 oM 8 32] [0,1,2,6,7,8])
 (.seq (.block 4 (.loop [0,1,2,6,7,8] l302_1))
 (.seq (.seq (cR [oM 49 7,
 oM 50 6,
 oA 51 (.bin .add) [.t 49,.t 50],
 oM 9 51] [0,1,2,6,7,9])
 (.seq (cR [oM 52 9,
 oM 53 1,
 oA 54 (.bin .lss) [.t 52,.t 53]] [0,1,2,6,7,9,54])
 (.cond (.t 54) (cR [oM 55 0,
 oM 56 7,
 oM 57 9,
 oM 58 1,
 oM 59 2,
 oA 60 .call [.c (.func (.func 318) #[] #[]),.t 55,.t 56,.t 57,.t 58,.t 59]] [0,1,2,6])
 (.skip))))
 (cR [oM 61 6,
 oA 62 (.bin .mul) [.t 61,.c (.int .i64 (2))],
 oM 6 62] [0,1,2,6])))))
def f302 : Func := ⟨.seq (cR [oA 6 .move [.c (.int .i64 (20))]] [0,1,2,6])
 (.seq (cR [oM 10 6,
 oA 7 .move [.c (.int .i64 (0))],
 oM 8 10] [0,1,2,6,7,8])
 (.seq (.block 0 (.loop [0,1,2,6,7,8] l302_0))
 (.seq (cR [oM 23 0,
 oM 24 7,
 oM 25 1,
 oM 26 2,
 oA 27 .call [.c (.func (.func 317) #[] #[]),.t 23,.t 24,.t 25,.t 26]] [0,1,2,6])
 (.block 2 (.loop [0,1,2,6] l302_2))))),
 [], none⟩

def f303 : Func := ⟨.seq (cR [oM 4 0,
 oM 5 1,
 oA 6 (.invoke "Push") [.t 4,.t 5]] [0])
 (cR [oM 7 0,
 oM 8 0,
 oA 9 (.invoke "Len") [.t 8],
 oA 10 (.bin .sub) [.t 9,.c (.int .i64 (1))],
 oA 11 .call [.c (.func (.func 319) #[] #[]),.t 7,.t 10]] []),
 [], none⟩

def f304 : Func := ⟨.seq (cR [oA 2 .move [.c (.int .i64 (0))]] [0])
 (.seq (cR [oM 3 0,
 oA 4 .lenS [.t 3],
 oM 2 4] [2])
 (.ret)),
 [.tmp 2], none⟩

def f305 : Func := ⟨.seq (cR [oA 2 .move [.c .nilIface]] [0])
 (.seq (cR [oM 4 0,
 oA 5 (.invoke "Len") [.t 4],
 oA 6 (.bin .sub) [.t 5,.c (.int .i64 (1))],
 oM 3 6] [0,3])
 (.seq (cR [oM 7 0,
 oM 8 3,
 oA 9 (.invoke "Swap") [.t 7,.c (.int .i64 (0)),.t 8]] [0,3])
 (.seq (cR [oM 10 0,
 oM 11 3,
 oA 12 .call [.c (.func (.func 320) #[] #[]),.t 10,.c (.int .i64 (0)),.t 11]] [0])
 (.seq (cR [oM 13 0,
 oA 14 (.invoke "Pop") [.t 13],
 oM 2 14] [2])
 (.ret))))),
 [.tmp 2], none⟩

def l306_0 : Code :=
 .seq (cR [oA 12 (.bin .lss) [.t 11,.t 10]] [0,3,9,10,11,12])
 (.seq (.cond (.t 12) (.skip)
 (.exit 0))
 (.seq (.block 1 (.seq (cR [oA 13 (.idxAddr 1) [.t 9,.t 11],
 oA 14 (.load false 1) [.t 13],
 oM 5 14] [0,3,5,9,10,11])
 (.seq (cR [oM 15 3,
 oM 16 5,
 oA 17 .lenS [.t 16],
 oA 18 (.bin .add) [.t 15,.t 17],
 oM 3 18] [0,3,9,10,11])
 (.seq (cR [oM 19 3,
 oA 20 (.bin .lss) [.t 19,.c (.int .i64 (0))]] [0,3,9,10,11,20])
 (.cond (.t 20) (cR [oA 21 (.iface 9) [.c (.string ⟨⟨[108, 101, 110, 32, 111, 117, 116, 32, 111, 102, 32, 114, 97, 110, 103, 101]⟩⟩)],
 oN .panic [.t 21]] [0,3,9,10,11])
 (.skip))))))
 (cR [oA 22 (.bin .add) [.t 11,.c (.int .i64 (1))],
 oM 11 22] [0,3,9,10,11])))
def l306_1 : Code :=
 .seq (cR [oA 28 (.bin .lss) [.t 27,.t 26]] [6,25,26,27,28])
 (.seq (.cond (.t 28) (.skip)
 (.exit 2))
 (.seq (.block 3 (.seq (cR [oA 29 (.idxAddr 1) [.t 25,.t 27],
 oA 30 (.load false 1) [.t 29],
 oM 8 30] [6,8,25,26,27])
 (cR [oM 31 6,
 oM 32 8,
 oA 33 (.append 3 1 8) [.t 31,.t 32],
 oM 6 33] [6,25,26,27])))
 (cR [oA 34 (.bin .add) [.t 27,.c (.int .i64 (1))],
 oM 27 34] [6,25,26,27])))
def f306 : Func := ⟨.seq (cR [oA 2 .move [.c (.slice none 0 0)]] [0])
 (.seq (cR [oA 3 .move [.c (.int .i64 (0))]] [0,3])
 (.seq (.seq (cR [oM 9 0,
 oA 10 .lenS [.t 9],
 oA 11 .move [.c (.int .i64 (0))]] [0,3,9,10,11])
 (.block 0 (.loop [0,3,9,10,11] l306_0)))
 (.seq (cR [oM 23 3,
 oA 24 .call [.c (.func (.func 321) #[] #[]),.c (.slice none 0 0),.t 23],
 oM 6 24] [0,6])
 (.seq (.seq (cR [oM 25 0,
 oA 26 .lenS [.t 25],
 oA 27 .move [.c (.int .i64 (0))]] [6,25,26,27])
 (.block 2 (.loop [6,25,26,27] l306_1)))
 (.seq (cR [oM 35 6,
 oM 2 35] [2])
 (.ret)))))),
 [.tmp 2], none⟩

def l307_0 : Code :=
 .block 1 (.seq (cR [oM 11 8,
 oA 12 (.bin .mul) [.c (.int .i64 (2)),.t 11],
 oA 13 (.bin .add) [.t 12,.c (.int .i64 (1))],
 oM 9 13] [0,2,3,8,9])
 (.seq (.seq (cR [oM 14 9,
 oM 15 2,
 oA 16 (.bin .geq) [.t 14,.t 15]] [0,2,3,8,9,16])
 (.cond (.t 16) (.exit 0)
 (.skip)))
 (.seq (.seq (cD [⟨[oM 17 9,
 oA 18 (.bin .add) [.t 17,.c (.int .i64 (1))],
 oM 19 2,
 oA 20 (.bin .lss) [.t 18,.t 19],
 oM 21 20,
 oG (some 22) .move [.t 0] 21 true,
 oG (some 23) .move [.t 3] 21 true,
 oG (some 24) .move [.t 9] 21 true,
 oG (some 25) (.bin .add) [.t 23,.t 24] 21 true,
 oG (some 26) (.idxAddr 1) [.t 22,.t 25] 21 true,
 oG (some 27) (.load false 1) [.t 26] 21 true,
 oG (some 28) .move [.t 0] 21 true,
 oG (some 29) .move [.t 3] 21 true,
 oG (some 30) .move [.t 9] 21 true,
 oG (some 31) (.bin .add) [.t 29,.t 30] 21 true,
 oG (some 32) (.bin .add) [.t 31,.c (.int .i64 (1))] 21 true,
 oG (some 33) (.idxAddr 1) [.t 28,.t 32] 21 true,
 oG (some 34) (.load false 1) [.t 33] 21 true],some (oG (some 35) .call [.c (.func (.func 280) #[] #[]),.t 27,.t 34] 21 true),[],[]⟩,
 ⟨[oA 36 .pick [.t 21,.t 35,.c (.bool false)]],none,[],[]⟩] [17,18,19,20,21,22,23,24,25,26,27,28,29,30,31,32,33,34,35,36] [0,2,3,8,9,36])
 (.cond (.t 36) (cR [oM 37 9,
 oA 38 (.bin .add) [.t 37,.c (.int .i64 (1))],
 oM 9 38] [0,2,3,8,9])
 (.skip)))
 (.seq (.seq (cD [⟨[oM 39 0,
 oM 40 3,
 oM 41 8,
 oA 42 (.bin .add) [.t 40,.t 41],
 oA 43 (.idxAddr 1) [.t 39,.t 42],
 oA 44 (.load false 1) [.t 43],
 oM 45 0,
 oM 46 3,
 oM 47 9,
 oA 48 (.bin .add) [.t 46,.t 47],
 oA 49 (.idxAddr 1) [.t 45,.t 48],
 oA 50 (.load false 1) [.t 49]],some (oA 51 .call [.c (.func (.func 280) #[] #[]),.t 44,.t 50]),[],[]⟩,
 ⟨[oA 52 (.un .not) [.t 51]],none,[],[]⟩] [39,40,41,42,43,44,45,46,47,48,49,50,51,52] [0,2,3,8,9,52])
 (.cond (.t 52) (.ret)
 (.skip)))
 (.seq (cD [⟨[oM 53 0,
 oM 54 3,
 oM 55 8,
 oA 56 (.bin .add) [.t 54,.t 55],
 oM 57 0,
 oM 58 3,
 oM 59 9,
 oA 60 (.bin .add) [.t 58,.t 59],
 oM 61 0,
 oM 62 3,
 oM 63 9,
 oA 64 (.bin .add) [.t 62,.t 63],
 oA 65 (.idxAddr 1) [.t 61,.t 64],
 oA 66 (.load false 1) [.t 65],
 oM 67 0,
 oM 68 3,
 oM 69 8,
 oA 70 (.bin .add) [.t 68,.t 69],
 oA 71 (.idxAddr 1) [.t 67,.t 70],
 oA 72 (.load false 1) [.t 71],
 oA 73 (.idxAddr 1) [.t 53,.t 56]],some (oN (.store 1) [.t 73,.t 66]),[],[]⟩,
 ⟨[oA 74 (.idxAddr 1) [.t 57,.t 60]],some (oN (.store 1) [.t 74,.t 72]),[],[]⟩] [53,54,55,56,57,58,59,60,61,62,63,64,65,66,67,68,69,70,71,72,73,74] [0,2,3,9])
 (cR [oM 75 9,
 oM 8 75] [0,2,3,8]))))))
def f307 : Func := ⟨.seq (cR [oM 10 1,
 oM 8 10] [0,2,3,8])
 (.block 0 (.loop [0,2,3,8] l307_0)),
 [], none⟩

def f308 : Func := ⟨.seq (cR [oA 2 .move [.c (.int .u64 (0))]] [0])
 (.seq (cR [oM 3 0,
 oA 4 (.toInt .u64) [.t 3],
 oA 5 .call [.c (.func (.func 241) #[] #[]),.t 4],
 oA 6 (.bin .shl) [.c (.int .u64 (1)),.t 5],
 oM 2 6] [2])
 (.ret)),
 [.tmp 2], none⟩

def f309 : Func := ⟨.seq (cR [oA 2 .move [.c (.int .u64 (0))]] [0])
 (.seq (cD [⟨[oM 3 0,
 oA 4 .nilCheck [.t 3],
 oA 5 (.load false 1) [.t 4],
 oM 6 0,
 oA 7 .nilCheck [.t 6],
 oA 8 (.load false 1) [.t 7],
 oA 9 (.bin .shl) [.t 8,.c (.int .u64 (13))],
 oA 10 (.bin .xor) [.t 5,.t 9],
 oA 11 .nilCheck [.t 3]],some (oN (.store 1) [.t 11,.t 10]),[],[]⟩] [3,4,5,6,7,8,9,10,11] [0])
 (.seq (cD [⟨[oM 12 0,
 oA 13 .nilCheck [.t 12],
 oA 14 (.load false 1) [.t 13],
 oM 15 0,
 oA 16 .nilCheck [.t 15],
 oA 17 (.load false 1) [.t 16],
 oA 18 (.bin .shr) [.t 17,.c (.int .u64 (7))],
 oA 19 (.bin .xor) [.t 14,.t 18],
 oA 20 .nilCheck [.t 12]],some (oN (.store 1) [.t 20,.t 19]),[],[]⟩] [12,13,14,15,16,17,18,19,20] [0])
 (.seq (cD [⟨[oM 21 0,
 oA 22 .nilCheck [.t 21],
 oA 23 (.load false 1) [.t 22],
 oM 24 0,
 oA 25 .nilCheck [.t 24],
 oA 26 (.load false 1) [.t 25],
 oA 27 (.bin .shl) [.t 26,.c (.int .u64 (17))],
 oA 28 (.bin .xor) [.t 23,.t 27],
 oA 29 .nilCheck [.t 21]],some (oN (.store 1) [.t 29,.t 28]),[],[]⟩] [21,22,23,24,25,26,27,28,29] [0])
 (.seq (cR [oM 30 0,
 oA 31 .nilCheck [.t 30],
 oA 32 (.load false 1) [.t 31],
 oM 2 32] [2])
 (.ret))))),
 [.tmp 2], none⟩

def f310 : Func := ⟨.seq (cR [oA 6 .move [.c (.int .i64 (0))]] [0,1,2])
 (.seq (cR [oM 7 0,
 oM 8 1,
 oA 9 (.bin .sub) [.t 8,.c (.int .i64 (1))],
 oM 10 1,
 oM 11 1,
 oA 12 (.bin .add) [.t 11,.c (.int .i64 (1))],
 oM 13 2,
 oA 14 .call [.c (.func (.func 311) #[] #[]),.t 7,.t 9,.t 10,.t 12,.t 13],
 oM 6 14] [6])
 (.ret)),
 [.tmp 6], none⟩

def f311 : Func := ⟨.seq (cR [oA 10 .move [.c (.int .i64 (0))]] [0,1,2,3,4])
 (.seq (cR [oM 12 0,
 oM 13 1,
 oM 14 2,
 oM 15 4,
 oA 16 .call [.c (.func (.func 322) #[] #[]),.t 12,.t 13,.t 14,.t 15],
 oM 11 16,
 oA 17 (.extract 0) [.t 11],
 oA 18 (.extract 1) [.t 11],
 oM 1 17,
 oM 2 18] [0,1,2,3,4])
 (.seq (cR [oM 20 0,
 oM 21 2,
 oM 22 3,
 oM 23 4,
 oA 24 .call [.c (.func (.func 322) #[] #[]),.t 20,.t 21,.t 22,.t 23],
 oM 19 24,
 oA 25 (.extract 0) [.t 19],
 oA 26 (.extract 1) [.t 19],
 oM 2 25,
 oM 3 26] [0,1,2,4])
 (.seq (cR [oM 28 0,
 oM 29 1,
 oM 30 2,
 oM 31 4,
 oA 32 .call [.c (.func (.func 322) #[] #[]),.t 28,.t 29,.t 30,.t 31],
 oM 27 32,
 oA 33 (.extract 0) [.t 27],
 oA 34 (.extract 1) [.t 27],
 oM 1 33,
 oM 2 34] [2])
 (.seq (cR [oM 35 2,
 oM 10 35] [10])
 (.ret))))),
 [.tmp 10], none⟩

def l312_0 : Code :=
 .seq (.seq (cR [oM 7 2,
 oM 8 3,
 oA 9 (.bin .lss) [.t 7,.t 8]] [0,2,3,9])
 (.cond (.t 9) (.skip)
 (.exit 0)))
 (.seq (.block 1 (cD [⟨[oM 14 0,
 oM 15 2,
 oM 16 0,
 oM 17 3,
 oM 18 0,
 oM 19 3,
 oA 20 (.idxAddr 1) [.t 18,.t 19],
 oA 21 (.load false 1) [.t 20],
 oM 22 0,
 oM 23 2,
 oA 24 (.idxAddr 1) [.t 22,.t 23],
 oA 25 (.load false 1) [.t 24],
 oA 26 (.idxAddr 1) [.t 14,.t 15]],some (oN (.store 1) [.t 26,.t 21]),[],[]⟩,
 ⟨[oA 27 (.idxAddr 1) [.t 16,.t 17]],some (oN (.store 1) [.t 27,.t 25]),[],[]⟩] [14,15,16,17,18,19,20,21,22,23,24,25,26,27] [0,2,3]))
 (cR [oM 10 2,
 oA 11 (.bin .add) [.t 10,.c (.int .i64 (1))],
 oM 12 3,
 oA 13 (.bin .sub) [.t 12,.c (.int .i64 (1))],
 oM 2 11,
 oM 3 13] [0,2,3]))
def f312 : Func := ⟨.seq (cR [oM 4 0,
 oA 5 .lenS [.t 4],
 oA 6 (.bin .sub) [.t 5,.c (.int .i64 (1))],
 oA 2 .move [.c (.int .i64 (0))],
 oM 3 6] [0,2,3])
 (.block 0 (.loop [0,2,3] l312_0)),
 [], none⟩

def l313_0 : Code :=
 .seq (.seq (cR [oM 7 2,
 oM 8 3,
 oA 9 (.bin .lss) [.t 7,.t 8]] [0,2,3,9])
 (.cond (.t 9) (.skip)
 (.exit 0)))
 (.seq (.block 1 (cD [⟨[oM 14 0,
 oM 15 2,
 oM 16 0,
 oM 17 3,
 oM 18 0,
 oM 19 3,
 oA 20 (.idxAddr 3) [.t 18,.t 19],
 oA 21 (.load true 3) [.t 20],
 oM 22 0,
 oM 23 2,
 oA 24 (.idxAddr 3) [.t 22,.t 23],
 oA 25 (.load true 3) [.t 24],
 oA 26 (.idxAddr 3) [.t 14,.t 15]],some (oN (.store 3) [.t 26,.t 21]),[],[]⟩,
 ⟨[oA 27 (.idxAddr 3) [.t 16,.t 17]],some (oN (.store 3) [.t 27,.t 25]),[],[]⟩] [14,15,16,17,18,19,20,21,22,23,24,25,26,27] [0,2,3]))
 (cR [oM 10 2,
 oA 11 (.bin .add) [.t 10,.c (.int .i64 (1))],
 oM 12 3,
 oA 13 (.bin .sub) [.t 12,.c (.int .i64 (1))],
 oM 2 11,
 oM 3 13] [0,2,3]))
def f313 : Func := ⟨.seq (cR [oM 4 0,
 oA 5 .lenS [.t 4],
 oA 6 (.bin .sub) [.t 5,.c (.int .i64 (1))],
 oA 2 .move [.c (.int .i64 (0))],
 oM 3 6] [0,2,3])
 (.block 0 (.loop [0,2,3] l313_0)),
 [], none⟩

def f314 : Func := ⟨.seq (cR [oM 4 0,
 oM 5 1,
 oA 6 (.slice 3 false true false) [.t 4,.t 5],
 oA 7 .call [.c (.func (.func 323) #[] #[]),.t 6]] [0,1])
 (.seq (cR [oM 8 0,
 oM 9 1,
 oA 10 (.slice 3 true false false) [.t 8,.t 9],
 oA 11 .call [.c (.func (.func 323) #[] #[]),.t 10]] [0])
 (cR [oM 12 0,
 oA 13 .call [.c (.func (.func 323) #[] #[]),.t 12]] [])),
 [], none⟩

def f315 : Func := ⟨.seq (cR [oM 4 0,
 oM 5 1,
 oA 6 (.slice 1 false true false) [.t 4,.t 5],
 oA 7 .call [.c (.func (.func 324) #[] #[]),.t 6]] [0,1])
 (.seq (cR [oM 8 0,
 oM 9 1,
 oA 10 (.slice 1 true false false) [.t 8,.t 9],
 oA 11 .call [.c (.func (.func 324) #[] #[]),.t 10]] [0])
 (cR [oM 12 0,
 oA 13 .call [.c (.func (.func 324) #[] #[]),.t 12]] [])),
 [], none⟩

def l316_0 : Code :=
 .seq (.seq (cR [oM 11 10,
 oM 12 3,
 oA 13 (.bin .lss) [.t 11,.t 12]] [0,1,2,3,10,13])
 (.cond (.t 13) (.skip)
 (.exit 0)))
 (.seq (.block 1 (cD [⟨[oM 16 0,
 oM 17 1,
 oM 18 10,
 oA 19 (.bin .add) [.t 17,.t 18],
 oM 20 0,
 oM 21 2,
 oM 22 10,
 oA 23 (.bin .add) [.t 21,.t 22],
 oM 24 0,
 oM 25 2,
 oM 26 10,
 oA 27 (.bin .add) [.t 25,.t 26],
 oA 28 (.idxAddr 5) [.t 24,.t 27],
 oA 29 (.load true 5) [.t 28],
 oM 30 0,
 oM 31 1,
 oM 32 10,
 oA 33 (.bin .add) [.t 31,.t 32],
 oA 34 (.idxAddr 5) [.t 30,.t 33],
 oA 35 (.load true 5) [.t 34],
 oA 36 (.idxAddr 5) [.t 16,.t 19]],some (oN (.store 5) [.t 36,.t 29]),[],[]⟩,
 ⟨[oA 37 (.idxAddr 5) [.t 20,.t 23]],some (oN (.store 5) [.t 37,.t 35]),[],[]⟩] [16,17,18,19,20,21,22,23,24,25,26,27,28,29,30,31,32,33,34,35,36,37] [0,1,2,3,10]))
 (cR [oM 14 10,
 oA 15 (.bin .add) [.t 14,.c (.int .i64 (1))],
 oM 10 15] [0,1,2,3,10]))
def f316 : Func := ⟨.seq (cR [oA 10 .move [.c (.int .i64 (0))]] [0,1,2,3,10])
 (.block 0 (.loop [0,1,2,3,10] l316_0)),
 [], none⟩

def l317_0 : Code :=
 .seq (.seq (cD [⟨[oM 18 9,
 oM 19 1,
 oA 20 (.bin .gtr) [.t 18,.t 19],
 oM 21 20,
 oG (some 22) .move [.t 3] 21 true,
 oG (some 23) .move [.t 0] 21 true,
 oG (some 24) .move [.t 9] 21 true,
 oG (some 25) (.idxAddr 1) [.t 23,.t 24] 21 true,
 oG (some 26) (.load false 1) [.t 25] 21 true,
 oG (some 27) .move [.t 0] 21 true,
 oG (some 28) .move [.t 9] 21 true,
 oG (some 29) (.bin .sub) [.t 28,.c (.int .i64 (1))] 21 true,
 oG (some 30) (.idxAddr 1) [.t 27,.t 29] 21 true,
 oG (some 31) (.load false 1) [.t 30] 21 true],some (oG (some 32) .call [.t 22,.t 26,.t 31] 21 true),[],[]⟩,
 ⟨[oG (some 33) (.bin .lss) [.t 32,.c (.int .i64 (0))] 21 true,
 oA 34 .pick [.t 21,.t 33,.c (.bool false)]],none,[],[]⟩] [18,19,20,21,22,23,24,25,26,27,28,29,30,31,32,33,34] [0,1,2,3,8,9,34])
 (.cond (.t 34) (.skip)
 (.exit 2)))
 (.seq (.block 3 (cD [⟨[oM 37 0,
 oM 38 9,
 oM 39 0,
 oM 40 9,
 oA 41 (.bin .sub) [.t 40,.c (.int .i64 (1))],
 oM 42 0,
 oM 43 9,
 oA 44 (.bin .sub) [.t 43,.c (.int .i64 (1))],
 oA 45 (.idxAddr 1) [.t 42,.t 44],
 oA 46 (.load false 1) [.t 45],
 oM 47 0,
 oM 48 9,
 oA 49 (.idxAddr 1) [.t 47,.t 48],
 oA 50 (.load false 1) [.t 49],
 oA 51 (.idxAddr 1) [.t 37,.t 38]],some (oN (.store 1) [.t 51,.t 46]),[],[]⟩,
 ⟨[oA 52 (.idxAddr 1) [.t 39,.t 41]],some (oN (.store 1) [.t 52,.t 50]),[],[]⟩] [37,38,39,40,41,42,43,44,45,46,47,48,49,50,51,52] [0,1,2,3,8,9]))
 (cR [oM 35 9,
 oA 36 (.bin .sub) [.t 35,.c (.int .i64 (1))],
 oM 9 36] [0,1,2,3,8,9]))
def l317_1 : Code :=
 .seq (.seq (cR [oM 12 8,
 oM 13 2,
 oA 14 (.bin .lss) [.t 12,.t 13]] [0,1,2,3,8,14])
 (.cond (.t 14) (.skip)
 (.exit 0)))
 (.seq (.block 1 (.seq (cR [oM 17 8,
 oM 9 17] [0,1,2,3,8,9])
 (.block 2 (.loop [0,1,2,3,8,9] l317_0))))
 (cR [oM 15 8,
 oA 16 (.bin .add) [.t 15,.c (.int .i64 (1))],
 oM 8 16] [0,1,2,3,8]))
def f317 : Func := ⟨.seq (cR [oM 10 1,
 oA 11 (.bin .add) [.t 10,.c (.int .i64 (1))],
 oM 8 11] [0,1,2,3,8])
 (.block 0 (.loop [0,1,2,3,8] l317_1)),
 [], none⟩

def l318_0 : Code :=
 .seq (.seq (cR [oM 31 10,
 oM 32 11,
 oA 33 (.bin .lss) [.t 31,.t 32]] [0,1,4,10,11,33])
 (.cond (.t 33) (.skip)
 (.exit 0)))
 (.block 1 (.seq (cR [oM 34 10,
 oM 35 11,
 oA 36 (.bin .add) [.t 34,.t 35],
 oA 37 (.toInt .u64) [.t 36],
 oA 38 (.bin .shr) [.t 37,.c (.int .u64 (1))],
 oA 39 (.toInt .i64) [.t 38],
 oM 12 39] [0,1,4,10,11,12])
 (.seq (cD [⟨[oM 40 4,
 oM 41 0,
 oM 42 12,
 oA 43 (.idxAddr 1) [.t 41,.t 42],
 oA 44 (.load false 1) [.t 43],
 oM 45 0,
 oM 46 1,
 oA 47 (.idxAddr 1) [.t 45,.t 46],
 oA 48 (.load false 1) [.t 47]],some (oA 49 .call [.t 40,.t 44,.t 48]),[],[]⟩,
 ⟨[oA 50 (.bin .lss) [.t 49,.c (.int .i64 (0))]],none,[],[]⟩] [40,41,42,43,44,45,46,47,48,49,50] [0,1,4,10,11,12,50])
 (.cond (.t 50) (cR [oM 51 12,
 oA 52 (.bin .add) [.t 51,.c (.int .i64 (1))],
 oM 10 52] [0,1,4,10,11])
 (cR [oM 53 12,
 oM 11 53] [0,1,4,10,11])))))
def l318_1 : Code :=
 .seq (.seq (cR [oM 55 13,
 oM 56 10,
 oA 57 (.bin .sub) [.t 56,.c (.int .i64 (1))],
 oA 58 (.bin .lss) [.t 55,.t 57]] [0,10,13,58])
 (.cond (.t 58) (.skip)
 (.exit 2)))
 (.seq (.block 3 (cD [⟨[oM 61 0,
 oM 62 13,
 oM 63 0,
 oM 64 13,
 oA 65 (.bin .add) [.t 64,.c (.int .i64 (1))],
 oM 66 0,
 oM 67 13,
 oA 68 (.bin .add) [.t 67,.c (.int .i64 (1))],
 oA 69 (.idxAddr 1) [.t 66,.t 68],
 oA 70 (.load false 1) [.t 69],
 oM 71 0,
 oM 72 13,
 oA 73 (.idxAddr 1) [.t 71,.t 72],
 oA 74 (.load false 1) [.t 73],
 oA 75 (.idxAddr 1) [.t 61,.t 62]],some (oN (.store 1) [.t 75,.t 70]),[],[]⟩,
 ⟨[oA 76 (.idxAddr 1) [.t 63,.t 65]],some (oN (.store 1) [.t 76,.t 74]),[],[]⟩] [61,62,63,64,65,66,67,68,69,70,71,72,73,74,75,76] [0,10,13]))
 (cR [oM 59 13,
 oA 60 (.bin .add) [.t 59,.c (.int .i64 (1))],
 oM 13 60] [0,10,13]))
def l318_2 : Code :=
 .seq (.seq (cR [oM 83 14,
 oM 84 15,
 oA 85 (.bin .lss) [.t 83,.t 84]] [0,2,4,14,15,85])
 (.cond (.t 85) (.skip)
 (.exit 4)))
 (.block 5 (.seq (cR [oM 86 14,
 oM 87 15,
 oA 88 (.bin .add) [.t 86,.t 87],
 oA 89 (.toInt .u64) [.t 88],
 oA 90 (.bin .shr) [.t 89,.c (.int .u64 (1))],
 oA 91 (.toInt .i64) [.t 90],
 oM 16 91] [0,2,4,14,15,16])
 (.seq (cD [⟨[oM 92 4,
 oM 93 0,
 oM 94 2,
 oA 95 (.idxAddr 1) [.t 93,.t 94],
 oA 96 (.load false 1) [.t 95],
 oM 97 0,
 oM 98 16,
 oA 99 (.idxAddr 1) [.t 97,.t 98],
 oA 100 (.load false 1) [.t 99]],some (oA 101 .call [.t 92,.t 96,.t 100]),[],[]⟩,
 ⟨[oA 102 (.bin .lss) [.t 101,.c (.int .i64 (0))],
 oA 103 (.un .not) [.t 102]],none,[],[]⟩] [92,93,94,95,96,97,98,99,100,101,102,103] [0,2,4,14,15,16,103])
 (.cond (.t 103) (cR [oM 104 16,
 oA 105 (.bin .add) [.t 104,.c (.int .i64 (1))],
 oM 14 105] [0,2,4,14,15])
 (cR [oM 106 16,
 oM 15 106] [0,2,4,14,15])))))
def l318_3 : Code :=
 .seq (.seq (cR [oM 108 17,
 oM 109 14,
 oA 110 (.bin .gtr) [.t 108,.t 109]] [0,14,17,110])
 (.cond (.t 110) (.skip)
 (.exit 6)))
 (.seq (.block 7 (cD [⟨[oM 113 0,
 oM 114 17,
 oM 115 0,
 oM 116 17,
 oA 117 (.bin .sub) [.t 116,.c (.int .i64 (1))],
 oM 118 0,
 oM 119 17,
 oA 120 (.bin .sub) [.t 119,.c (.int .i64 (1))],
 oA 121 (.idxAddr 1) [.t 118,.t 120],
 oA 122 (.load false 1) [.t 121],
 oM 123 0,
 oM 124 17,
 oA 125 (.idxAddr 1) [.t 123,.t 124],
 oA 126 (.load false 1) [.t 125],
 oA 127 (.idxAddr 1) [.t 113,.t 114]],some (oN (.store 1) [.t 127,.t 122]),[],[]⟩,
 ⟨[oA 128 (.idxAddr 1) [.t 115,.t 117]],some (oN (.store 1) [.t 128,.t 126]),[],[]⟩] [113,114,115,116,117,118,119,120,121,122,123,124,125,126,127,128] [0,14,17]))
 (cR [oM 111 17,
 oA 112 (.bin .sub) [.t 111,.c (.int .i64 (1))],
 oM 17 112] [0,14,17]))
def l318_4 : Code :=
 .seq (.seq (cR [oM 149 20,
 oM 150 21,
 oA 151 (.bin .lss) [.t 149,.t 150]] [0,1,2,3,4,18,19,20,21,22,151])
 (.cond (.t 151) (.skip)
 (.exit 8)))
 (.block 9 (.seq (cR [oM 152 20,
 oM 153 21,
 oA 154 (.bin .add) [.t 152,.t 153],
 oA 155 (.toInt .u64) [.t 154],
 oA 156 (.bin .shr) [.t 155,.c (.int .u64 (1))],
 oA 157 (.toInt .i64) [.t 156],
 oM 23 157] [0,1,2,3,4,18,19,20,21,22,23])
 (.seq (cD [⟨[oM 158 4,
 oM 159 0,
 oM 160 22,
 oM 161 23,
 oA 162 (.bin .sub) [.t 160,.t 161],
 oA 163 (.idxAddr 1) [.t 159,.t 162],
 oA 164 (.load false 1) [.t 163],
 oM 165 0,
 oM 166 23,
 oA 167 (.idxAddr 1) [.t 165,.t 166],
 oA 168 (.load false 1) [.t 167]],some (oA 169 .call [.t 158,.t 164,.t 168]),[],[]⟩,
 ⟨[oA 170 (.bin .lss) [.t 169,.c (.int .i64 (0))],
 oA 171 (.un .not) [.t 170]],none,[],[]⟩] [158,159,160,161,162,163,164,165,166,167,168,169,170,171] [0,1,2,3,4,18,19,20,21,22,23,171])
 (.cond (.t 171) (cR [oM 172 23,
 oA 173 (.bin .add) [.t 172,.c (.int .i64 (1))],
 oM 20 173] [0,1,2,3,4,18,19,20,21,22])
 (cR [oM 174 23,
 oM 21 174] [0,1,2,3,4,18,19,20,21,22])))))
def f318 : Func := ⟨.seq (.seq (cR [oM 25 2,
 oM 26 1,
 oA 27 (.bin .sub) [.t 25,.t 26],
 oA 28 (.bin .eql) [.t 27,.c (.int .i64 (1))]] [0,1,2,3,4,28])
 (.cond (.t 28) (.seq (cR [oM 29 2,
 oM 10 29] [0,1,3,4,10])
 (.seq (cR [oM 30 3,
 oM 11 30] [0,1,4,10,11])
 (.seq (.block 0 (.loop [0,1,4,10,11] l318_0))
 (.seq (.seq (cR [oM 54 1,
 oM 13 54] [0,10,13])
 (.block 2 (.loop [0,10,13] l318_1)))
 (.ret)))))
 (.skip)))
 (.seq (.seq (cR [oM 77 3,
 oM 78 2,
 oA 79 (.bin .sub) [.t 77,.t 78],
 oA 80 (.bin .eql) [.t 79,.c (.int .i64 (1))]] [0,1,2,3,4,80])
 (.cond (.t 80) (.seq (cR [oM 81 1,
 oM 14 81] [0,2,4,14])
 (.seq (cR [oM 82 2,
 oM 15 82] [0,2,4,14,15])
 (.seq (.block 4 (.loop [0,2,4,14,15] l318_2))
 (.seq (.seq (cR [oM 107 2,
 oM 17 107] [0,14,17])
 (.block 6 (.loop [0,14,17] l318_3)))
 (.ret)))))
 (.skip)))
 (.seq (cR [oM 129 1,
 oM 130 3,
 oA 131 (.bin .add) [.t 129,.t 130],
 oA 132 (.toInt .u64) [.t 131],
 oA 133 (.bin .shr) [.t 132,.c (.int .u64 (1))],
 oA 134 (.toInt .i64) [.t 133],
 oM 18 134] [0,1,2,3,4,18])
 (.seq (cR [oM 135 18,
 oM 136 2,
 oA 137 (.bin .add) [.t 135,.t 136],
 oM 19 137] [0,1,2,3,4,18,19])
 (.seq (cR [oA 20 .move [.c (.int .i64 (0))],
 oA 21 .move [.c (.int .i64 (0))]] [0,1,2,3,4,18,19])
 (.seq (.seq (cR [oM 138 2,
 oM 139 18,
 oA 140 (.bin .gtr) [.t 138,.t 139]] [0,1,2,3,4,18,19,140])
 (.cond (.t 140) (.seq (cR [oM 141 19,
 oM 142 3,
 oA 143 (.bin .sub) [.t 141,.t 142],
 oM 20 143] [0,1,2,3,4,18,19,20])
 (cR [oM 144 18,
 oM 21 144] [0,1,2,3,4,18,19,20,21]))
 (.seq (cR [oM 145 1,
 oM 20 145] [0,1,2,3,4,18,19,20])
 (cR [oM 146 2,
 oM 21 146] [0,1,2,3,4,18,19,20,21]))))
 (.seq (cR [oM 147 19,
 oA 148 (.bin .sub) [.t 147,.c (.int .i64 (1))],
 oM 22 148] [0,1,2,3,4,18,19,20,21,22])
 (.seq (.block 8 (.loop [0,1,2,3,4,18,19,20,21,22] l318_4))
 (.seq (cR [oM 175 19,
 oM 176 20,
 oA 177 (.bin .sub) [.t 175,.t 176],
 oM 24 177] [0,1,2,3,4,18,20,24])
 (.seq (.seq (cR [oM 178 20,
 oM 179 2,
 oA 180 (.bin .lss) [.t 178,.t 179],
 oM 181 180,
 oG (some 182) .move [.t 2] 181 true,
 oG (some 183) .move [.t 24] 181 true,
 oG (some 184) (.bin .lss) [.t 182,.t 183] 181 true,
 oA 185 .pick [.t 181,.t 184,.c (.bool false)]] [0,1,2,3,4,18,20,24,185])
 (.cond (.t 185) (cR [oM 186 0,
 oM 187 20,
 oM 188 2,
 oM 189 24,
 oM 190 4,
 oA 191 .call [.c (.func (.func 325) #[] #[]),.t 186,.t 187,.t 188,.t 189,.t 190]] [0,1,3,4,18,20,24])
 (.skip)))
 (.seq (.seq (cR [oM 192 1,
 oM 193 20,
 oA 194 (.bin .lss) [.t 192,.t 193],
 oM 195 194,
 oG (some 196) .move [.t 20] 195 true,
 oG (some 197) .move [.t 18] 195 true,
 oG (some 198) (.bin .lss) [.t 196,.t 197] 195 true,
 oA 199 .pick [.t 195,.t 198,.c (.bool false)]] [0,1,3,4,18,20,24,199])
 (.cond (.t 199) (cR [oM 200 0,
 oM 201 1,
 oM 202 20,
 oM 203 18,
 oM 204 4,
 oA 205 .call [.c (.func (.func 318) #[] #[]),.t 200,.t 201,.t 202,.t 203,.t 204]] [0,3,4,18,24])
 (.skip)))
 (.seq (cR [oM 206 18,
 oM 207 24,
 oA 208 (.bin .lss) [.t 206,.t 207],
 oM 209 208,
 oG (some 210) .move [.t 24] 209 true,
 oG (some 211) .move [.t 3] 209 true,
 oG (some 212) (.bin .lss) [.t 210,.t 211] 209 true,
 oA 213 .pick [.t 209,.t 212,.c (.bool false)]] [0,3,4,18,24,213])
 (.cond (.t 213) (cR [oM 214 0,
 oM 215 18,
 oM 216 24,
 oM 217 3,
 oM 218 4,
 oA 219 .call [.c (.func (.func 318) #[] #[]),.t 214,.t 215,.t 216,.t 217,.t 218]] [])
 (.skip))))))))))))),
 [], none⟩

def l319_0 : Code :=
 .block 1 (.seq (cR [oM 5 1,
 oA 6 (.bin .sub) [.t 5,.c (.int .i64 (1))],
 oA 7 (.bin .quo) [.t 6,.c (.int .i64 (2))],
 oM 4 7] [0,1,4])
 (.seq (.seq (cR [oM 8 4,
 oM 9 1,
 oA 10 (.bin .eql) [.t 8,.t 9],
 oM 11 10,
 oG (some 12) .move [.t 0] 11 false,
 oG (some 13) .move [.t 1] 11 false,
 oG (some 14) .move [.t 4] 11 false,
 oG (some 15) (.invoke "Less") [.t 12,.t 13,.t 14] 11 false,
 oG (some 16) (.un .not) [.t 15] 11 false,
 oA 17 .pick [.t 11,.c (.bool true),.t 16]] [0,1,4,17])
 (.cond (.t 17) (.exit 0)
 (.skip)))
 (.seq (cR [oM 18 0,
 oM 19 4,
 oM 20 1,
 oA 21 (.invoke "Swap") [.t 18,.t 19,.t 20]] [0,4])
 (cR [oM 22 4,
 oM 1 22] [0,1]))))
def f319 : Func := ⟨.block 0 (.loop [0,1] l319_0),
 [], none⟩

def l320_0 : Code :=
 .block 1 (.seq (cR [oM 12 7,
 oA 13 (.bin .mul) [.c (.int .i64 (2)),.t 12],
 oA 14 (.bin .add) [.t 13,.c (.int .i64 (1))],
 oM 8 14] [0,1,2,7,8])
 (.seq (.seq (cR [oM 15 8,
 oM 16 2,
 oA 17 (.bin .geq) [.t 15,.t 16],
 oM 18 17,
 oG (some 19) .move [.t 8] 18 false,
 oG (some 20) (.bin .lss) [.t 19,.c (.int .i64 (0))] 18 false,
 oA 21 .pick [.t 18,.c (.bool true),.t 20]] [0,1,2,7,8,21])
 (.cond (.t 21) (.exit 0)
 (.skip)))
 (.seq (cR [oM 22 8,
 oM 9 22] [0,1,2,7,8,9])
 (.seq (.seq (cR [oM 23 8,
 oA 24 (.bin .add) [.t 23,.c (.int .i64 (1))],
 oM 10 24] [0,1,2,7,8,9,10])
 (.seq (cR [oM 25 10,
 oM 26 2,
 oA 27 (.bin .lss) [.t 25,.t 26],
 oM 28 27,
 oG (some 29) .move [.t 0] 28 true,
 oG (some 30) .move [.t 10] 28 true,
 oG (some 31) .move [.t 8] 28 true,
 oG (some 32) (.invoke "Less") [.t 29,.t 30,.t 31] 28 true,
 oA 33 .pick [.t 28,.t 32,.c (.bool false)]] [0,1,2,7,9,10,33])
 (.cond (.t 33) (cR [oM 34 10,
 oM 9 34] [0,1,2,7,9])
 (.skip))))
 (.seq (.seq (cR [oM 35 0,
 oM 36 9,
 oM 37 7,
 oA 38 (.invoke "Less") [.t 35,.t 36,.t 37],
 oA 39 (.un .not) [.t 38]] [0,1,2,7,9,39])
 (.cond (.t 39) (.exit 0)
 (.skip)))
 (.seq (cR [oM 40 0,
 oM 41 7,
 oM 42 9,
 oA 43 (.invoke "Swap") [.t 40,.t 41,.t 42]] [0,1,2,9])
 (cR [oM 44 9,
 oM 7 44] [0,1,2,7])))))))
def f320 : Func := ⟨.seq (cR [oA 6 .move [.c (.bool false)]] [0,1,2])
 (.seq (cR [oM 11 1,
 oM 7 11] [0,1,2,7])
 (.seq (.block 0 (.loop [0,1,2,7] l320_0))
 (.seq (cR [oM 45 7,
 oM 46 1,
 oA 47 (.bin .gtr) [.t 45,.t 46],
 oM 6 47] [6])
 (.ret)))),
 [.tmp 6], none⟩

def f321 : Func := ⟨.seq (cR [oA 4 .move [.c (.slice none 0 0)]] [0,1])
 (.seq (.seq (cR [oM 5 1,
 oA 6 (.bin .lss) [.t 5,.c (.int .i64 (0))]] [0,1,6])
 (.cond (.t 6) (cR [oA 7 (.iface 9) [.c (.string ⟨⟨[99, 97, 110, 110, 111, 116, 32, 98, 101, 32, 110, 101, 103, 97, 116, 105, 118, 101]⟩⟩)],
 oN .panic [.t 7]] [0,1])
 (.skip)))
 (.seq (.seq (cR [oM 8 1,
 oM 9 0,
 oA 10 .cap [.t 9],
 oM 11 0,
 oA 12 .lenS [.t 11],
 oA 13 (.bin .sub) [.t 10,.t 12],
 oA 14 (.bin .sub) [.t 8,.t 13],
 oM 1 14] [0,1])
 (.seq (cR [oM 15 1,
 oA 16 (.bin .gtr) [.t 15,.c (.int .i64 (0))]] [0,1,16])
 (.cond (.t 16) (cR [oM 17 0,
 oM 18 0,
 oA 19 .cap [.t 18],
 oA 20 (.slice 1 false true false) [.t 17,.t 19],
 oM 21 1,
 oA 22 (.appendZ 3 1 8 [(.int .i64 (0))]) [.t 20,.t 21],
 oM 23 0,
 oA 24 .lenS [.t 23],
 oA 25 (.slice 1 false true false) [.t 22,.t 24],
 oM 0 25] [0])
 (.skip))))
 (.seq (cR [oM 26 0,
 oM 4 26] [4])
 (.ret)))),
 [.tmp 4], none⟩

def f322 : Func := ⟨.seq (cR [oA 8 .move [.c (.int .i64 (0))],
 oA 9 .move [.c (.int .i64 (0))]] [0,1,2,3])
 (.seq (.seq (cD [⟨[oM 10 0,
 oM 11 2,
 oA 12 (.idxAddr 1) [.t 10,.t 11],
 oA 13 (.load false 1) [.t 12],
 oM 14 0,
 oM 15 1,
 oA 16 (.idxAddr 1) [.t 14,.t 15],
 oA 17 (.load false 1) [.t 16]],some (oA 18 .call [.c (.func (.func 280) #[] #[]),.t 13,.t 17]),[],[]⟩] [10,11,12,13,14,15,16,17,18] [1,2,3,18])
 (.cond (.t 18) (.seq (cR [oM 19 3,
 oA 20 .nilCheck [.t 19],
 oA 21 (.load false 1) [.t 20],
 oA 22 (.bin .add) [.t 21,.c (.int .i64 (1))],
 oA 23 .nilCheck [.t 19],
 oN (.store 1) [.t 23,.t 22]] [1,2])
 (.seq (cR [oM 24 2,
 oM 25 1,
 oM 8 24,
 oM 9 25] [8,9])
 (.ret)))
 (.skip)))
 (.seq (cR [oM 26 1,
 oM 27 2,
 oM 8 26,
 oM 9 27] [8,9])
 (.ret))),
 [.tmp 8, .tmp 9], none⟩

def l323_0 : Code :=
 .seq (.seq (cR [oM 7 2,
 oM 8 3,
 oA 9 (.bin .lss) [.t 7,.t 8]] [0,2,3,9])
 (.cond (.t 9) (.skip)
 (.exit 0)))
 (.seq (.block 1 (cD [⟨[oM 14 0,
 oM 15 2,
 oM 16 0,
 oM 17 3,
 oM 18 0,
 oM 19 3,
 oA 20 (.idxAddr 3) [.t 18,.t 19],
 oA 21 (.load true 3) [.t 20],
 oM 22 0,
 oM 23 2,
 oA 24 (.idxAddr 3) [.t 22,.t 23],
 oA 25 (.load true 3) [.t 24],
 oA 26 (.idxAddr 3) [.t 14,.t 15]],some (oN (.store 3) [.t 26,.t 21]),[],[]⟩,
 ⟨[oA 27 (.idxAddr 3) [.t 16,.t 17]],some (oN (.store 3) [.t 27,.t 25]),[],[]⟩] [14,15,16,17,18,19,20,21,22,23,24,25,26,27] [0,2,3]))
 (cR [oM 10 2,
 oA 11 (.bin .add) [.t 10,.c (.int .i64 (1))],
 oM 12 3,
 oA 13 (.bin .sub) [.t 12,.c (.int .i64 (1))],
 oM 2 11,
 oM 3 13] [0,2,3]))
def f323 : Func := ⟨.seq (cR [oM 4 0,
 oA 5 .lenS [.t 4],
 oA 6 (.bin .sub) [.t 5,.c (.int .i64 (1))],
 oA 2 .move [.c (.int .i64 (0))],
 oM 3 6] [0,2,3])
 (.block 0 (.loop [0,2,3] l323_0)),
 [], none⟩

def l324_0 : Code :=
 .seq (.seq (cR [oM 7 2,
 oM 8 3,
 oA 9 (.bin .lss) [.t 7,.t 8]] [0,2,3,9])
 (.cond (.t 9) (.skip)
 (.exit 0)))
 (.seq (.block 1 (cD [⟨[oM 14 0,
 oM 15 2,
 oM 16 0,
 oM 17 3,
 oM 18 0,
 oM 19 3,
 oA 20 (.idxAddr 1) [.t 18,.t 19],
 oA 21 (.load false 1) [.t 20],
 oM 22 0,
 oM 23 2,
 oA 24 (.idxAddr 1) [.t 22,.t 23],
 oA 25 (.load false 1) [.t 24],
 oA 26 (.idxAddr 1) [.t 14,.t 15]],some (oN (.store 1) [.t 26,.t 21]),[],[]⟩,
 ⟨[oA 27 (.idxAddr 1) [.t 16,.t 17]],some (oN (.store 1) [.t 27,.t 25]),[],[]⟩] [14,15,16,17,18,19,20,21,22,23,24,25,26,27] [0,2,3]))
 (cR [oM 10 2,
 oA 11 (.bin .add) [.t 10,.c (.int .i64 (1))],
 oM 12 3,
 oA 13 (.bin .sub) [.t 12,.c (.int .i64 (1))],
 oM 2 11,
 oM 3 13] [0,2,3]))
def f324 : Func := ⟨.seq (cR [oM 4 0,
 oA 5 .lenS [.t 4],
 oA 6 (.bin .sub) [.t 5,.c (.int .i64 (1))],
 oA 2 .move [.c (.int .i64 (0))],
 oM 3 6] [0,2,3])
 (.block 0 (.loop [0,2,3] l324_0)),
 [], none⟩

def l325_0 : Code :=
 .seq (.seq (cR [oM 18 10,
 oM 19 11,
 oA 20 (.bin .neq) [.t 18,.t 19]] [0,2,4,10,11,20])
 (.cond (.t 20) (.skip)
 (.exit 0)))
 (.block 1 (.seq (cR [oM 21 10,
 oM 22 11,
 oA 23 (.bin .gtr) [.t 21,.t 22]] [0,2,4,10,11,23])
 (.cond (.t 23) (.seq (cR [oM 24 0,
 oM 25 2,
 oM 26 10,
 oA 27 (.bin .sub) [.t 25,.t 26],
 oM 28 2,
 oM 29 11,
 oM 30 4,
 oA 31 .call [.c (.func (.func 326) #[] #[]),.t 24,.t 27,.t 28,.t 29,.t 30]] [0,2,4,10,11])
 (cR [oM 32 10,
 oM 33 11,
 oA 34 (.bin .sub) [.t 32,.t 33],
 oM 10 34] [0,2,4,10,11]))
 (.seq (cR [oM 35 0,
 oM 36 2,
 oM 37 10,
 oA 38 (.bin .sub) [.t 36,.t 37],
 oM 39 2,
 oM 40 11,
 oA 41 (.bin .add) [.t 39,.t 40],
 oM 42 10,
 oA 43 (.bin .sub) [.t 41,.t 42],
 oM 44 10,
 oM 45 4,
 oA 46 .call [.c (.func (.func 326) #[] #[]),.t 35,.t 38,.t 43,.t 44,.t 45]] [0,2,4,10,11])
 (cR [oM 47 11,
 oM 48 10,
 oA 49 (.bin .sub) [.t 47,.t 48],
 oM 11 49] [0,2,4,10,11])))))
def f325 : Func := ⟨.seq (cR [oM 12 2,
 oM 13 1,
 oA 14 (.bin .sub) [.t 12,.t 13],
 oM 10 14] [0,2,3,4,10])
 (.seq (cR [oM 15 3,
 oM 16 2,
 oA 17 (.bin .sub) [.t 15,.t 16],
 oM 11 17] [0,2,4,10,11])
 (.seq (.block 0 (.loop [0,2,4,10,11] l325_0))
 (cR [oM 50 0,
 oM 51 2,
 oM 52 10,
 oA 53 (.bin .sub) [.t 51,.t 52],
 oM 54 2,
 oM 55 10,
 oM 56 4,
 oA 57 .call [.c (.func (.func 326) #[] #[]),.t 50,.t 53,.t 54,.t 55,.t 56]] []))),
 [], none⟩

def l326_0 : Code :=
 .seq (.seq (cR [oM 11 10,
 oM 12 3,
 oA 13 (.bin .lss) [.t 11,.t 12]] [0,1,2,3,10,13])
 (.cond (.t 13) (.skip)
 (.exit 0)))
 (.seq (.block 1 (cD [⟨[oM 16 0,
 oM 17 1,
 oM 18 10,
 oA 19 (.bin .add) [.t 17,.t 18],
 oM 20 0,
 oM 21 2,
 oM 22 10,
 oA 23 (.bin .add) [.t 21,.t 22],
 oM 24 0,
 oM 25 2,
 oM 26 10,
 oA 27 (.bin .add) [.t 25,.t 26],
 oA 28 (.idxAddr 1) [.t 24,.t 27],
 oA 29 (.load false 1) [.t 28],
 oM 30 0,
 oM 31 1,
 oM 32 10,
 oA 33 (.bin .add) [.t 31,.t 32],
 oA 34 (.idxAddr 1) [.t 30,.t 33],
 oA 35 (.load false 1) [.t 34],
 oA 36 (.idxAddr 1) [.t 16,.t 19]],some (oN (.store 1) [.t 36,.t 29]),[],[]⟩,
 ⟨[oA 37 (.idxAddr 1) [.t 20,.t 23]],some (oN (.store 1) [.t 37,.t 35]),[],[]⟩] [16,17,18,19,20,21,22,23,24,25,26,27,28,29,30,31,32,33,34,35,36,37] [0,1,2,3,10]))
 (cR [oM 14 10,
 oA 15 (.bin .add) [.t 14,.c (.int .i64 (1))],
 oM 10 15] [0,1,2,3,10]))
def f326 : Func := ⟨.seq (cR [oA 10 .move [.c (.int .i64 (0))]] [0,1,2,3,10])
 (.block 0 (.loop [0,1,2,3,10] l326_0)),
 [], none⟩
end Go.Proofs.YtlelihddjacplaaGreat.AM
