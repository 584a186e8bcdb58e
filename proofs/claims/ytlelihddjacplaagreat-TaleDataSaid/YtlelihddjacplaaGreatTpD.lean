/- Parts: Ir4, IrTab. -/
import Derived.Test.YtlelihddjacplaaGreatTpA
import Derived.Test.YtlelihddjacplaaGreatTpB
import Derived.Test.YtlelihddjacplaaGreatTpC
set_option linter.unusedVariables false
namespace Go.Proofs.YtlelihddjacplaaGreat.AM
def f344 : Func := ⟨.seq (cR [oA 3 (.box 111 3) [.t 1],
 oA 4 (.new 171 5 [(.int .i64 (0)), (.slice none 0 0), (.slice none 0 0), (.slice none 0 0), (.slice none 0 0)]) [],
 oA 5 .move [.c (.int .i64 (0))]] [0,3,4])
 (.seq (cR [oM 11 0,
 oA 12 (.fieldAddr 0) [.t 3],
 oA 13 (.load false 1) [.t 12],
 oA 14 (.fieldAddr 1) [.t 3],
 oA 15 (.load false 1) [.t 14],
 oA 16 (.build [(.int .i64 (0)), (.int .i64 (0))] [(0, 1), (1, 1)]) [.t 13,.t 15],
 oA 17 .call [.c (.func (.func 53) #[] #[]),.t 11,.t 16],
 oM 10 17,
 oA 18 (.extract 0) [.t 10],
 oA 19 (.extract 1) [.t 10],
 oM 6 18,
 oM 7 19] [3,4,6,7])
 (.seq (.seq (cR [oM 20 7,
 oA 21 (.bin .neq) [.t 20,.c (.int .i64 (0))]] [3,4,6,7,21])
 (.cond (.t 21) (.seq (cR [oA 22 (.build [(.int .i64 (0)), (.slice none 0 0), (.slice none 0 0), (.slice none 0 0), (.slice none 0 0)] []) [],
 oM 23 7,
 oN (.store 5) [.t 4,.t 22],
 oM 5 23] [4,5])
 (.ret))
 (.skip)))
 (.seq (cR [oM 25 6,
 oA 26 .call [.c (.func (.func 102) #[] #[]),.t 25,.c (.int .u8 (78))],
 oM 24 26,
 oA 27 (.extract 0) [.t 24],
 oA 28 (.extract 1) [.t 24],
 oA 29 (.extract 2) [.t 24],
 oM 8 27,
 oM 9 28,
 oM 7 29] [3,4,7,8,9])
 (.seq (.block 0 (.seq (cR [oM 31 7,
 oA 32 (.bin .neq) [.t 31,.c (.int .i64 (0))],
 oM 30 32] [3,4,7,8,9,30])
 (.cond (.t 30) (.seq (cR [oA 33 (.build [(.int .i64 (0)), (.slice none 0 0), (.slice none 0 0), (.slice none 0 0), (.slice none 0 0)] []) [],
 oM 34 7,
 oN (.store 5) [.t 4,.t 33],
 oM 5 34] [4,5])
 (.ret))
 (.seq (cR [oM 36 8,
 oA 37 (.fieldAddr 2) [.t 3],
 oA 38 (.load false 1) [.t 37],
 oA 39 (.bin .neq) [.t 36,.t 38],
 oM 35 39] [4,9,35])
 (.cond (.t 35) (.seq (cR [oA 40 (.build [(.int .i64 (0)), (.slice none 0 0), (.slice none 0 0), (.slice none 0 0), (.slice none 0 0)] []) [],
 oN (.store 5) [.t 4,.t 40],
 oA 5 .move [.c (.int .i64 (5))]] [4,5])
 (.ret))
 (.skip))))))
 (.seq (cR [oM 41 9,
 oA 42 .call [.c (.func (.func 346) #[] #[]),.t 41],
 oA 43 (.extract 0) [.t 42],
 oA 44 (.extract 1) [.t 42],
 oN (.store 5) [.t 4,.t 43],
 oM 5 44] [4,5])
 (.ret)))))),
 [.cell 4 true 5, .tmp 5], none⟩

def f345 : Func := ⟨.seq (cR [oA 3 (.box 171 5) [.t 1],
 oA 4 (.new 111 3 [(.int .i64 (0)), (.int .i64 (0)), (.int .i64 (0))]) [],
 oA 5 .move [.c (.int .i64 (0))]] [0,3,4])
 (.seq (.seq (cR [oM 10 0,
 oA 11 .call [.c (.func (.func 101) #[] #[]),.t 10],
 oA 12 (.un .not) [.t 11]] [0,3,4,12])
 (.cond (.t 12) (.seq (cR [oA 13 (.build [(.int .i64 (0)), (.int .i64 (0)), (.int .i64 (0))] []) [],
 oN (.store 3) [.t 4,.t 13],
 oA 5 .move [.c (.int .i64 (1))]] [4,5])
 (.ret))
 (.skip)))
 (.seq (cR [oA 15 (.load true 5) [.t 3],
 oA 16 .call [.c (.func (.func 347) #[] #[]),.t 15],
 oM 14 16,
 oA 17 (.extract 0) [.t 14],
 oA 18 (.extract 1) [.t 14],
 oM 6 17,
 oM 7 18] [0,4,6,7])
 (.seq (.seq (cR [oM 19 7,
 oA 20 (.bin .neq) [.t 19,.c (.int .i64 (0))]] [0,4,6,7,20])
 (.cond (.t 20) (.seq (cR [oA 21 (.build [(.int .i64 (0)), (.int .i64 (0)), (.int .i64 (0))] []) [],
 oM 22 7,
 oN (.store 3) [.t 4,.t 21],
 oM 5 22] [4,5])
 (.ret))
 (.skip)))
 (.seq (cR [oM 24 0,
 oA 25 .nilCheck [.t 24],
 oA 26 (.fieldAddr 3) [.t 25],
 oA 27 (.load false 1) [.t 26],
 oM 28 6,
 oA 29 .call [.c (.func (.func 128) #[] #[]),.c (.int .u8 (78)),.t 27,.t 28],
 oM 23 29,
 oA 30 (.extract 0) [.t 23],
 oA 31 (.extract 1) [.t 23],
 oM 8 30,
 oM 7 31] [0,4,7,8])
 (.seq (.seq (cR [oM 32 7,
 oA 33 (.bin .neq) [.t 32,.c (.int .i64 (0))]] [0,4,7,8,33])
 (.cond (.t 33) (.seq (cR [oA 34 (.build [(.int .i64 (0)), (.int .i64 (0)), (.int .i64 (0))] []) [],
 oM 35 7,
 oN (.store 3) [.t 4,.t 34],
 oM 5 35] [4,5])
 (.ret))
 (.skip)))
 (.seq (cR [oM 37 0,
 oM 38 8,
 oA 39 .call [.c (.func (.func 79) #[] #[]),.t 37,.t 38],
 oM 36 39,
 oA 40 (.extract 0) [.t 36],
 oA 41 (.extract 1) [.t 36],
 oA 9 (.new 102 2 [(.int .i64 (0)), (.int .i64 (0))]) [],
 oN (.store 2) [.t 9,.t 40],
 oM 7 41] [0,4,7,9])
 (.seq (.seq (cR [oM 42 7,
 oA 43 (.bin .neq) [.t 42,.c (.int .i64 (0))]] [0,4,7,9,43])
 (.cond (.t 43) (.seq (cR [oA 44 (.build [(.int .i64 (0)), (.int .i64 (0)), (.int .i64 (0))] []) [],
 oM 45 7,
 oN (.store 3) [.t 4,.t 44],
 oM 5 45] [4,5])
 (.ret))
 (.skip)))
 (.seq (cD [⟨[oA 46 (.fieldAddr 0) [.t 9],
 oA 47 (.load false 1) [.t 46],
 oA 48 (.fieldAddr 1) [.t 9],
 oA 49 (.load false 1) [.t 48],
 oM 50 0,
 oA 51 .nilCheck [.t 50],
 oA 52 (.fieldAddr 3) [.t 51],
 oA 53 (.load false 1) [.t 52],
 oA 54 (.build [(.int .i64 (0)), (.int .i64 (0)), (.int .i64 (0))] [(0, 1), (1, 1), (2, 1)]) [.t 47,.t 49,.t 53]],some (oN (.store 3) [.t 4,.t 54]),[],[]⟩,
 ⟨[oA 5 .move [.c (.int .i64 (0))]],none,[],[]⟩] [46,47,48,49,50,51,52,53,54,5] [4,5])
 (.ret))))))))),
 [.cell 4 true 3, .tmp 5], none⟩

def f346 : Func := ⟨.seq (cR [oA 2 (.new 171 5 [(.int .i64 (0)), (.slice none 0 0), (.slice none 0 0), (.slice none 0 0), (.slice none 0 0)]) [],
 oA 3 .move [.c (.int .i64 (0))]] [0,2])
 (.seq (cR [oA 4 (.new 171 5 [(.int .i64 (0)), (.slice none 0 0), (.slice none 0 0), (.slice none 0 0), (.slice none 0 0)]) []] [0,2,4])
 (.seq (cR [oA 5 (.new 3 1 [(.int .i64 (0))]) [],
 oN (.store 1) [.t 5,.c (.int .i64 (0))]] [0,2,4,5])
 (.seq (cR [oM 7 0,
 oA 8 (.func 348 0) [.t 4,.t 5],
 oA 9 .call [.c (.func (.func 103) #[] #[]),.t 7,.t 8],
 oM 6 9] [2,4,5,6])
 (.seq (.block 0 (.seq (cR [oA 11 (.load false 1) [.t 5],
 oA 12 (.bin .gtr) [.t 11,.c (.int .i64 (8))],
 oM 10 12] [2,4,6,10])
 (.cond (.t 10) (.seq (cR [oA 13 (.build [(.int .i64 (0)), (.slice none 0 0), (.slice none 0 0), (.slice none 0 0), (.slice none 0 0)] []) [],
 oN (.store 5) [.t 2,.t 13],
 oA 3 .move [.c (.int .i64 (4))]] [2,3])
 (.ret))
 (.seq (cR [oM 15 6,
 oA 16 (.bin .neq) [.t 15,.c (.int .i64 (0))],
 oM 14 16] [2,4,6,14])
 (.cond (.t 14) (.seq (cR [oA 17 (.build [(.int .i64 (0)), (.slice none 0 0), (.slice none 0 0), (.slice none 0 0), (.slice none 0 0)] []) [],
 oM 18 6,
 oN (.store 5) [.t 2,.t 17],
 oM 3 18] [2,3])
 (.ret))
 (.seq (cR [oA 20 (.load true 5) [.t 4],
 oA 21 .call [.c (.func (.func 162) #[] #[]),.t 20],
 oA 22 (.un .not) [.t 21],
 oM 19 22] [2,4,19])
 (.cond (.t 19) (.seq (cR [oA 23 (.build [(.int .i64 (0)), (.slice none 0 0), (.slice none 0 0), (.slice none 0 0), (.slice none 0 0)] []) [],
 oN (.store 5) [.t 2,.t 23],
 oA 3 .move [.c (.int .i64 (4))]] [2,3])
 (.ret))
 (.skip))))))))
 (.seq (cR [oA 24 (.load true 5) [.t 4],
 oN (.store 5) [.t 2,.t 24],
 oA 3 .move [.c (.int .i64 (0))]] [2,3])
 (.ret)))))),
 [.cell 2 true 5, .tmp 3], none⟩

def l347_0 : Code :=
 .seq (cR [oA 83 (.bin .lss) [.t 82,.t 81]] [1,4,26,27,28,80,81,82,83])
 (.seq (.cond (.t 83) (.skip)
 (.exit 2))
 (.seq (.block 3 (.seq (cR [oA 84 (.idxAddr 1) [.t 80,.t 82],
 oA 85 (.load false 1) [.t 84],
 oM 10 85] [1,4,10,26,27,28,80,81,82])
 (cR [oM 86 4,
 oM 87 10,
 oA 88 .call [.c (.func (.func 126) #[] #[]),.t 86,.t 87]] [1,4,26,27,28,80,81,82])))
 (cR [oA 89 (.bin .add) [.t 82,.c (.int .i64 (1))],
 oM 82 89] [1,4,26,27,28,80,81,82])))
def l347_1 : Code :=
 .seq (cR [oA 29 (.bin .lss) [.t 28,.t 27]] [1,4,26,27,28,29])
 (.seq (.cond (.t 29) (.skip)
 (.exit 0))
 (.seq (.block 1 (.seq (cR [oM 30 28,
 oA 31 (.idxAddr 1) [.t 26,.t 28],
 oA 32 (.load false 1) [.t 31],
 oM 5 30,
 oM 6 32] [1,4,5,6,26,27,28])
 (.seq (cR [oM 33 4,
 oM 34 6,
 oA 35 .call [.c (.func (.func 126) #[] #[]),.t 33,.t 34]] [1,4,5,26,27,28])
 (.seq (cR [oA 36 (.buildSlice 3 1 0 [] []) [],
 oM 7 36] [1,4,5,7,26,27,28])
 (.seq (.seq (cR [oA 37 (.fieldAddr 0) [.t 1],
 oA 38 (.load false 1) [.t 37],
 oA 39 (.bin .eql) [.t 38,.c (.int .i64 (0))]] [1,4,5,7,26,27,28,39])
 (.cond (.t 39) (.seq (cR [oA 40 (.fieldAddr 2) [.t 1],
 oA 41 (.load false 1) [.t 40],
 oM 42 5,
 oA 43 (.idxAddr 3) [.t 41,.t 42],
 oA 44 (.load true 3) [.t 43],
 oA 8 (.new 68 3 [(.int .i64 (0)), (.int .i64 (0)), (.int .i64 (0))]) [],
 oN (.store 3) [.t 8,.t 44]] [1,4,5,7,8,26,27,28])
 (cD [⟨[oM 45 7,
 oA 46 (.fieldAddr 0) [.t 8],
 oA 47 (.load false 1) [.t 46],
 oA 48 (.fieldAddr 1) [.t 8],
 oA 49 (.load false 1) [.t 48],
 oA 50 (.fieldAddr 2) [.t 8],
 oA 51 (.load false 1) [.t 50],
 oA 52 (.fieldAddr 3) [.t 1],
 oA 53 (.load false 1) [.t 52],
 oM 54 5,
 oA 55 (.idxAddr 1) [.t 53,.t 54],
 oA 56 (.load false 1) [.t 55]],some (oA 57 (.buildSlice 3 1 4 [(.int .i64 (0)), (.int .i64 (0)), (.int .i64 (0)), (.int .i64 (0))] [(0, 1), (1, 1), (2, 1), (3, 1)]) [.t 47,.t 49,.t 51,.t 56]),[],[]⟩,
 ⟨[],some (oA 58 (.append 3 1 8) [.t 45,.t 57]),[],[]⟩,
 ⟨[oM 7 58],none,[],[]⟩] [45,46,47,48,49,50,51,52,53,54,55,56,57,58,7] [1,4,7,26,27,28]))
 (cD [⟨[oM 59 7,
 oA 60 (.fieldAddr 4) [.t 1],
 oA 61 (.load false 1) [.t 60],
 oM 62 5,
 oA 63 (.idxAddr 3) [.t 61,.t 62],
 oA 64 (.fieldAddr 0) [.t 63],
 oA 65 (.load false 1) [.t 64],
 oA 66 (.fieldAddr 4) [.t 1],
 oA 67 (.load false 1) [.t 66],
 oM 68 5,
 oA 69 (.idxAddr 3) [.t 67,.t 68],
 oA 70 (.fieldAddr 1) [.t 69],
 oA 71 (.load false 1) [.t 70],
 oA 72 (.fieldAddr 4) [.t 1],
 oA 73 (.load false 1) [.t 72],
 oM 74 5,
 oA 75 (.idxAddr 3) [.t 73,.t 74],
 oA 76 (.fieldAddr 2) [.t 75],
 oA 77 (.load false 1) [.t 76]],some (oA 78 (.buildSlice 3 1 3 [(.int .i64 (0)), (.int .i64 (0)), (.int .i64 (0))] [(0, 1), (1, 1), (2, 1)]) [.t 65,.t 71,.t 77]),[],[]⟩,
 ⟨[],some (oA 79 (.append 3 1 8) [.t 59,.t 78]),[],[]⟩,
 ⟨[oM 7 79],none,[],[]⟩] [59,60,61,62,63,64,65,66,67,68,69,70,71,72,73,74,75,76,77,78,79,7] [1,4,7,26,27,28])))
 (.seq (cR [oM 80 7,
 oA 81 .lenS [.t 80],
 oA 82 .move [.c (.int .i64 (0))]] [1,4,26,27,28,80,81,82])
 (.block 2 (.loop [1,4,26,27,28,80,81,82] l347_0))))))))
 (cR [oA 90 (.bin .add) [.t 28,.c (.int .i64 (1))],
 oM 28 90] [1,4,26,27,28])))
def f347 : Func := ⟨.seq (cR [oA 1 (.box 171 5) [.t 0],
 oA 2 .move [.c (.slice none 0 0)],
 oA 3 .move [.c (.int .i64 (0))]] [1])
 (.seq (.seq (cR [oA 11 (.load true 5) [.t 1],
 oA 12 .call [.c (.func (.func 162) #[] #[]),.t 11],
 oA 13 (.un .not) [.t 12]] [1,13])
 (.cond (.t 13) (.seq (cR [oA 2 .move [.c (.slice none 0 0)],
 oA 3 .move [.c (.int .i64 (1))]] [2,3])
 (.ret))
 (.skip)))
 (.seq (cR [oA 14 (.build [(.slice none 0 0)] []) [],
 oA 15 (.box 218 1) [.t 14],
 oM 4 15] [1,4])
 (.seq (cR [oM 16 4,
 oA 17 (.fieldAddr 0) [.t 1],
 oA 18 (.load false 1) [.t 17],
 oA 19 .call [.c (.func (.func 126) #[] #[]),.t 16,.t 18]] [1,4])
 (.seq (cR [oM 20 4,
 oA 21 (.fieldAddr 1) [.t 1],
 oA 22 (.load false 1) [.t 21],
 oA 23 .lenS [.t 22],
 oA 24 .call [.c (.func (.func 126) #[] #[]),.t 20,.t 23]] [1,4])
 (.seq (.seq (cR [oA 25 (.fieldAddr 1) [.t 1],
 oA 26 (.load false 1) [.t 25],
 oA 27 .lenS [.t 26],
 oA 28 .move [.c (.int .i64 (0))]] [1,4,26,27,28])
 (.block 0 (.loop [1,4,26,27,28] l347_1)))
 (.seq (cR [oM 91 4,
 oA 92 .call [.c (.func (.func 129) #[] #[]),.t 91],
 oM 2 92,
 oA 3 .move [.c (.int .i64 (0))]] [2,3])
 (.ret))))))),
 [.tmp 2, .tmp 3], none⟩

def l348_0 : Code :=
 .seq (.seq (cR [oM 12 4,
 oA 13 (.load false 1) [.t 2],
 oA 14 (.bin .lss) [.t 12,.t 13],
 oM 15 14,
 oG (some 16) (.load false 1) [.t 2] 15 true,
 oG (some 17) (.bin .leq) [.t 16,.c (.int .i64 (8))] 15 true,
 oA 18 .pick [.t 15,.t 17,.c (.bool false)]] [0,1,2,4,18])
 (.cond (.t 18) (.skip)
 (.exit 0)))
 (.seq (.block 1 (.seq (cD [⟨[oA 21 (.fieldAddr 1) [.t 1],
 oA 22 (.load false 1) [.t 21],
 oM 23 0],some (oA 24 .call [.c (.func (.func 105) #[] #[]),.t 23]),[22],[]⟩,
 ⟨[],some (oA 25 (.buildSlice 3 1 1 [(.int .i64 (0))] [(0, 1)]) [.t 24]),[22],[]⟩,
 ⟨[],some (oA 26 (.append 3 1 8) [.t 22,.t 25]),[],[]⟩,
 ⟨[oA 27 (.fieldAddr 1) [.t 1]],some (oN (.store 1) [.t 27,.t 26]),[],[]⟩] [21,22,23,24,25,26,27] [0,1,2,4])
 (.seq (cR [oM 28 0,
 oA 29 .call [.c (.func (.func 105) #[] #[]),.t 28],
 oM 30 0,
 oA 31 .call [.c (.func (.func 105) #[] #[]),.t 30],
 oM 5 29,
 oM 6 31] [0,1,2,4,5,6])
 (.seq (cR [oA 32 (.fieldAddr 0) [.t 1],
 oA 33 (.load false 1) [.t 32],
 oA 34 (.bin .eql) [.t 33,.c (.int .i64 (0))]] [0,1,2,4,5,6,34])
 (.cond (.t 34) (.seq (cD [⟨[oA 35 (.fieldAddr 2) [.t 1],
 oA 36 (.load false 1) [.t 35],
 oM 37 5,
 oM 38 6,
 oM 39 0],some (oA 40 .call [.c (.func (.func 105) #[] #[]),.t 39]),[36],[]⟩,
 ⟨[oA 41 (.build [(.int .i64 (0)), (.int .i64 (0)), (.int .i64 (0))] [(0, 1), (1, 1), (2, 1)]) [.t 37,.t 38,.t 40]],some (oA 42 (.buildSlice 68 3 1 [(.int .i64 (0)), (.int .i64 (0)), (.int .i64 (0))] [(0, 3)]) [.t 41]),[36],[]⟩,
 ⟨[],some (oA 43 (.append 68 3 24) [.t 36,.t 42]),[],[]⟩,
 ⟨[oA 44 (.fieldAddr 2) [.t 1]],some (oN (.store 1) [.t 44,.t 43]),[],[]⟩] [35,36,37,38,39,40,41,42,43,44] [0,1,2,4])
 (cD [⟨[oA 45 (.fieldAddr 3) [.t 1],
 oA 46 (.load false 1) [.t 45],
 oM 47 0],some (oA 48 .call [.c (.func (.func 105) #[] #[]),.t 47]),[46],[]⟩,
 ⟨[],some (oA 49 (.buildSlice 3 1 1 [(.int .i64 (0))] [(0, 1)]) [.t 48]),[46],[]⟩,
 ⟨[],some (oA 50 (.append 3 1 8) [.t 46,.t 49]),[],[]⟩,
 ⟨[oA 51 (.fieldAddr 3) [.t 1]],some (oN (.store 1) [.t 51,.t 50]),[],[]⟩] [45,46,47,48,49,50,51] [0,1,2,4]))
 (cD [⟨[oA 52 (.fieldAddr 4) [.t 1],
 oA 53 (.load false 1) [.t 52],
 oM 54 5,
 oM 55 6,
 oM 56 0],some (oA 57 .call [.c (.func (.func 105) #[] #[]),.t 56]),[53],[]⟩,
 ⟨[oA 58 (.build [(.int .i64 (0)), (.int .i64 (0)), (.int .i64 (0))] [(0, 1), (1, 1), (2, 1)]) [.t 54,.t 55,.t 57]],some (oA 59 (.buildSlice 111 3 1 [(.int .i64 (0)), (.int .i64 (0)), (.int .i64 (0))] [(0, 3)]) [.t 58]),[53],[]⟩,
 ⟨[],some (oA 60 (.append 111 3 24) [.t 53,.t 59]),[],[]⟩,
 ⟨[oA 61 (.fieldAddr 4) [.t 1]],some (oN (.store 1) [.t 61,.t 60]),[],[]⟩] [52,53,54,55,56,57,58,59,60,61] [0,1,2,4]))))))
 (cR [oM 19 4,
 oA 20 (.bin .add) [.t 19,.c (.int .i64 (1))],
 oM 4 20] [0,1,2,4]))
def f348 : Func := ⟨.seq (cR [oM 7 0,
 oA 8 .call [.c (.func (.func 105) #[] #[]),.t 7],
 oA 9 (.fieldAddr 0) [.t 1],
 oN (.store 1) [.t 9,.t 8]] [0,1,2])
 (.seq (cR [oM 10 0,
 oA 11 .call [.c (.func (.func 105) #[] #[]),.t 10],
 oN (.store 1) [.t 2,.t 11]] [0,1,2])
 (.seq (cR [oA 4 .move [.c (.int .i64 (0))]] [0,1,2,4])
 (.block 0 (.loop [0,1,2,4] l348_0)))),
 [], none⟩

def f351 : Func := ⟨.seq (cR [oA 6 .move [.c (.bool false)]] [0,1,2])
 (.seq (cD [⟨[oM 7 0,
 oM 8 1,
 oA 9 (.idxAddr 3) [.t 7,.t 8],
 oA 10 (.fieldAddr 0) [.t 9],
 oA 11 (.load false 1) [.t 10],
 oM 12 0,
 oM 13 2,
 oA 14 (.idxAddr 3) [.t 12,.t 13],
 oA 15 (.fieldAddr 0) [.t 14],
 oA 16 (.load false 1) [.t 15],
 oM 18 0,
 oM 19 1,
 oA 20 (.idxAddr 3) [.t 18,.t 19],
 oA 21 (.fieldAddr 1) [.t 20],
 oA 22 (.load false 1) [.t 21],
 oM 23 0,
 oM 24 2,
 oA 25 (.idxAddr 3) [.t 23,.t 24],
 oA 26 (.fieldAddr 1) [.t 25],
 oA 27 (.load false 1) [.t 26]],some (oA 17 .call [.c (.func (.func 154) #[] #[]),.t 11,.t 16]),[22,27],[]⟩,
 ⟨[],some (oA 28 .call [.c (.func (.func 154) #[] #[]),.t 22,.t 27]),[],[]⟩,
 ⟨[],some (oA 29 (.buildSlice 3 1 2 [(.int .i64 (0)), (.int .i64 (0))] [(0, 1), (1, 1)]) [.t 17,.t 28]),[],[]⟩,
 ⟨[],some (oA 30 .call [.c (.func (.func 355) #[] #[]),.t 29]),[],[]⟩,
 ⟨[oA 31 (.bin .lss) [.t 30,.c (.int .i64 (0))],
 oM 6 31],none,[],[]⟩] [7,8,9,10,11,12,13,14,15,16,17,18,19,20,21,22,23,24,25,26,27,28,29,30,31,6] [6])
 (.ret)),
 [.tmp 6], none⟩

def f352 : Func := ⟨.seq (cR [oA 2 .move [.c .nilIface]] [0])
 (.seq (cR [oM 5 0,
 oA 6 .nilCheck [.t 5],
 oA 7 (.load false 1) [.t 6],
 oA 8 .lenS [.t 7],
 oA 9 (.bin .sub) [.t 8,.c (.int .i64 (1))],
 oM 3 9] [0,3])
 (.seq (cR [oM 10 0,
 oA 11 .nilCheck [.t 10],
 oA 12 (.load false 1) [.t 11],
 oM 13 3,
 oA 14 (.idxAddr 3) [.t 12,.t 13],
 oA 15 (.load true 3) [.t 14],
 oA 4 (.new 398 3 [(.int .i64 (0)), (.int .i64 (0)), (.slice none 0 0)]) [],
 oN (.store 3) [.t 4,.t 15]] [0,3,4])
 (.seq (cR [oM 16 0,
 oM 17 0,
 oA 18 .nilCheck [.t 17],
 oA 19 (.load false 1) [.t 18],
 oM 20 3,
 oA 21 (.slice 3 false true false) [.t 19,.t 20],
 oA 22 .nilCheck [.t 16],
 oN (.store 1) [.t 22,.t 21]] [4])
 (.seq (cR [oA 23 (.load true 3) [.t 4],
 oA 24 (.iface 398) [.t 23],
 oM 2 24] [2])
 (.ret))))),
 [.tmp 2], none⟩

def f353 : Func := ⟨cD [⟨[oM 4 0,
 oM 5 0,
 oA 6 .nilCheck [.t 5],
 oA 7 (.load false 1) [.t 6],
 oM 8 1,
 oA 9 (.assert 398 (.agg #[(.int .i64 (0)), (.int .i64 (0)), (.slice none 0 0)]) false) [.t 8]],some (oA 10 (.buildSlice 398 3 1 [(.int .i64 (0)), (.int .i64 (0)), (.slice none 0 0)] [(0, 3)]) [.t 9]),[7],[]⟩,
 ⟨[],some (oA 11 (.append 398 3 40) [.t 7,.t 10]),[],[]⟩,
 ⟨[oA 12 .nilCheck [.t 4]],some (oN (.store 1) [.t 12,.t 11]),[],[]⟩] [4,5,6,7,8,9,10,11,12] [],
 [], none⟩

def f354 : Func := ⟨cD [⟨[oM 6 0,
 oM 7 1,
 oM 8 0,
 oM 9 2,
 oM 10 0,
 oM 11 2,
 oA 12 (.idxAddr 3) [.t 10,.t 11],
 oA 13 (.load true 3) [.t 12],
 oM 14 0,
 oM 15 1,
 oA 16 (.idxAddr 3) [.t 14,.t 15],
 oA 17 (.load true 3) [.t 16],
 oA 18 (.idxAddr 3) [.t 6,.t 7]],some (oN (.store 3) [.t 18,.t 13]),[],[]⟩,
 ⟨[oA 19 (.idxAddr 3) [.t 8,.t 9]],some (oN (.store 3) [.t 19,.t 17]),[],[]⟩] [6,7,8,9,10,11,12,13,14,15,16,17,18,19] [],
 [], none⟩

def l355_0 : Code :=
 .seq (cR [oA 9 (.bin .lss) [.t 8,.t 7]] [3,6,7,8,9])
 (.seq (.cond (.t 9) (.skip)
 (.exit 0))
 (.seq (.block 1 (.seq (cR [oA 10 (.idxAddr 1) [.t 6,.t 8],
 oA 11 (.load false 1) [.t 10],
 oM 5 11] [3,5,6,7,8])
 (.seq (cR [oM 12 5,
 oM 13 3,
 oA 14 (.bin .neq) [.t 12,.t 13]] [3,5,6,7,8,14])
 (.cond (.t 14) (.seq (cR [oM 15 5,
 oM 2 15] [2])
 (.ret))
 (.skip)))))
 (cR [oA 16 (.bin .add) [.t 8,.c (.int .i64 (1))],
 oM 8 16] [3,6,7,8])))
def f355 : Func := ⟨.seq (cR [oA 2 .move [.c (.int .i64 (0))]] [0])
 (.seq (cR [oA 3 .move [.c (.int .i64 (0))]] [0,3])
 (.seq (.seq (cR [oM 6 0,
 oA 7 .lenS [.t 6],
 oA 8 .move [.c (.int .i64 (0))]] [3,6,7,8])
 (.block 0 (.loop [3,6,7,8] l355_0)))
 (.seq (cR [oM 17 3,
 oM 2 17] [2])
 (.ret)))),
 [.tmp 2], none⟩
end Go.Proofs.YtlelihddjacplaaGreat.AM
namespace Go.Proofs.YtlelihddjacplaaGreat.AM
def ftab : Tr Func :=
 (.node (.node (.node (.node (.node (.node (.node (.node (.node .leaf (some f255) .leaf) (some f127) .leaf) (some f63) (.node (.node .leaf (some f319) .leaf) (some f191) .leaf)) (some f31) (.node (.node (.node .leaf (some f287) .leaf) (some f159) .leaf) (some f95) (.node (.node .leaf (some f351) .leaf) (some f223) .leaf))) (some f15) (.node (.node (.node (.node .leaf (some f271) .leaf) (some f143) .leaf) (some f79) (.node .leaf (some f207) .leaf)) (some f47) (.node (.node (.node .leaf (some f303) .leaf) (some f175) .leaf) (some f111) .leaf))) (some f7) (.node (.node (.node (.node (.node .leaf (some f263) .leaf) (some f135) .leaf) (some f71) (.node .leaf (some f199) .leaf)) (some f39) (.node (.node .leaf (some f167) .leaf) (some f103) (.node .leaf (some f231) .leaf))) (some f23) (.node (.node (.node (.node .leaf (some f279) .leaf) (some f151) .leaf) (some f87) (.node .leaf (some f215) .leaf)) (some f55) (.node (.node (.node .leaf (some f311) .leaf) (some f183) .leaf) (some f119) .leaf)))) (some f3) (.node (.node (.node (.node (.node (.node .leaf (some f259) .leaf) (some f131) .leaf) (some f67) (.node (.node .leaf (some f323) .leaf) (some f195) .leaf)) (some f35) (.node (.node (.node .leaf (some f291) .leaf) (some f163) .leaf) (some f99) (.node (.node .leaf (some f355) .leaf) (some f227) .leaf))) (some f19) (.node (.node (.node (.node .leaf (some f275) .leaf) (some f147) .leaf) (some f83) (.node .leaf (some f211) .leaf)) (some f51) (.node (.node (.node .leaf (some f307) .leaf) (some f179) .leaf) (some f115) (.node .leaf (some f243) .leaf)))) (some f11) (.node (.node (.node (.node (.node .leaf (some f267) .leaf) (some f139) .leaf) (some f75) (.node .leaf (some f203) .leaf)) (some f43) (.node (.node (.node .leaf (some f299) .leaf) (some f171) .leaf) (some f107) (.node .leaf (some f235) .leaf))) (some f27) (.node (.node (.node (.node .leaf (some f283) .leaf) (some f155) .leaf) (some f91) (.node (.node .leaf (some f347) .leaf) (some f219) .leaf)) (some f59) (.node (.node (.node .leaf (some f315) .leaf) (some f187) .leaf) (some f123) (.node .leaf (some f251) .leaf)))))) none (.node (.node (.node (.node (.node (.node (.node .leaf (some f257) .leaf) (some f129) .leaf) (some f65) (.node (.node .leaf (some f321) .leaf) none .leaf)) (some f33) (.node (.node (.node .leaf (some f289) .leaf) (some f161) .leaf) (some f97) (.node (.node .leaf (some f353) .leaf) (some f225) .leaf))) (some f17) (.node (.node (.node (.node .leaf (some f273) .leaf) (some f145) .leaf) (some f81) (.node .leaf (some f209) .leaf)) (some f49) (.node (.node (.node .leaf (some f305) .leaf) (some f177) .leaf) (some f113) (.node .leaf (some f241) .leaf)))) (some f9) (.node (.node (.node (.node (.node .leaf (some f265) .leaf) (some f137) .leaf) (some f73) (.node .leaf (some f201) .leaf)) (some f41) (.node (.node (.node .leaf (some f297) .leaf) (some f169) .leaf) (some f105) (.node .leaf (some f233) .leaf))) (some f25) (.node (.node (.node (.node .leaf (some f281) .leaf) (some f153) .leaf) (some f89) (.node (.node .leaf (some f345) .leaf) (some f217) .leaf)) (some f57) (.node (.node (.node .leaf (some f313) .leaf) (some f185) .leaf) (some f121) (.node .leaf (some f249) .leaf))))) (some f5) (.node (.node (.node (.node (.node (.node .leaf (some f261) .leaf) (some f133) .leaf) (some f69) (.node (.node .leaf (some f325) .leaf) (some f197) .leaf)) (some f37) (.node (.node (.node .leaf (some f293) .leaf) (some f165) .leaf) (some f101) (.node .leaf (some f229) .leaf))) (some f21) (.node (.node (.node (.node .leaf (some f277) .leaf) (some f149) .leaf) (some f85) (.node .leaf (some f213) .leaf)) (some f53) (.node (.node (.node .leaf (some f309) .leaf) (some f181) .leaf) (some f117) .leaf))) (some f13) (.node (.node (.node (.node (.node .leaf (some f269) .leaf) (some f141) .leaf) (some f77) (.node .leaf (some f205) .leaf)) (some f45) (.node (.node (.node .leaf (some f301) .leaf) (some f173) .leaf) (some f109) (.node .leaf (some f237) .leaf))) (some f29) (.node (.node (.node (.node .leaf (some f285) .leaf) (some f157) .leaf) (some f93) (.node .leaf (some f221) .leaf)) (some f61) (.node (.node (.node .leaf (some f317) .leaf) none .leaf) (some f125) (.node .leaf (some f253) .leaf))))))) none (.node (.node (.node (.node (.node (.node (.node (.node .leaf (some f256) .leaf) (some f128) .leaf) (some f64) (.node (.node .leaf (some f320) .leaf) (some f192) .leaf)) (some f32) (.node (.node (.node .leaf (some f288) .leaf) (some f160) .leaf) (some f96) (.node (.node .leaf (some f352) .leaf) (some f224) .leaf))) (some f16) (.node (.node (.node (.node .leaf (some f272) .leaf) (some f144) .leaf) (some f80) (.node .leaf (some f208) .leaf)) (some f48) (.node (.node (.node .leaf (some f304) .leaf) (some f176) .leaf) (some f112) (.node .leaf (some f240) .leaf)))) (some f8) (.node (.node (.node (.node (.node .leaf (some f264) .leaf) (some f136) .leaf) (some f72) (.node .leaf (some f200) .leaf)) (some f40) (.node (.node (.node .leaf (some f296) .leaf) (some f168) .leaf) (some f104) (.node .leaf (some f232) .leaf))) (some f24) (.node (.node (.node (.node .leaf (some f280) .leaf) (some f152) .leaf) (some f88) (.node (.node .leaf (some f344) .leaf) (some f216) .leaf)) (some f56) (.node (.node (.node .leaf (some f312) .leaf) none .leaf) (some f120) (.node .leaf (some f248) .leaf))))) (some f4) (.node (.node (.node (.node (.node (.node .leaf (some f260) .leaf) (some f132) .leaf) (some f68) (.node (.node .leaf (some f324) .leaf) (some f196) .leaf)) (some f36) (.node (.node .leaf (some f164) .leaf) (some f100) .leaf)) (some f20) (.node (.node (.node (.node .leaf (some f276) .leaf) (some f148) .leaf) (some f84) (.node .leaf (some f212) .leaf)) (some f52) (.node (.node (.node .leaf (some f308) .leaf) (some f180) .leaf) (some f116) (.node .leaf (some f244) .leaf)))) (some f12) (.node (.node (.node (.node (.node .leaf (some f268) .leaf) (some f140) .leaf) (some f76) (.node .leaf (some f204) .leaf)) (some f44) (.node (.node (.node .leaf (some f300) .leaf) (some f172) .leaf) (some f108) (.node .leaf (some f236) .leaf))) (some f28) (.node (.node (.node (.node .leaf (some f284) .leaf) (some f156) .leaf) (some f92) (.node (.node .leaf (some f348) .leaf) (some f220) .leaf)) (some f60) (.node (.node (.node .leaf (some f316) .leaf) (some f188) .leaf) (some f124) (.node .leaf (some f252) .leaf)))))) none (.node (.node (.node (.node (.node (.node (.node .leaf (some f258) .leaf) (some f130) .leaf) (some f66) (.node (.node .leaf (some f322) .leaf) none .leaf)) (some f34) (.node (.node .leaf (some f162) .leaf) (some f98) (.node (.node .leaf (some f354) .leaf) (some f226) .leaf))) (some f18) (.node (.node (.node (.node .leaf (some f274) .leaf) (some f146) .leaf) (some f82) (.node .leaf (some f210) .leaf)) (some f50) (.node (.node (.node .leaf (some f306) .leaf) (some f178) .leaf) (some f114) (.node .leaf (some f242) .leaf)))) (some f10) (.node (.node (.node (.node (.node .leaf (some f266) .leaf) (some f138) .leaf) (some f74) (.node .leaf (some f202) .leaf)) (some f42) (.node (.node (.node .leaf (some f298) .leaf) (some f170) .leaf) (some f106) (.node .leaf (some f234) .leaf))) (some f26) (.node (.node (.node (.node .leaf (some f282) .leaf) (some f154) .leaf) (some f90) (.node (.node .leaf (some f346) .leaf) (some f218) .leaf)) (some f58) (.node (.node (.node .leaf (some f314) .leaf) (some f186) .leaf) (some f122) (.node .leaf (some f250) .leaf))))) (some f6) (.node (.node (.node (.node (.node (.node .leaf (some f262) .leaf) (some f134) .leaf) (some f70) (.node (.node .leaf (some f326) .leaf) (some f198) .leaf)) (some f38) (.node (.node (.node .leaf (some f294) .leaf) none .leaf) (some f102) (.node .leaf (some f230) .leaf))) (some f22) (.node (.node (.node (.node .leaf (some f278) .leaf) (some f150) .leaf) (some f86) (.node .leaf (some f214) .leaf)) (some f54) (.node (.node (.node .leaf (some f310) .leaf) (some f182) .leaf) (some f118) (.node .leaf (some f246) .leaf)))) (some f14) (.node (.node (.node (.node (.node .leaf (some f270) .leaf) (some f142) .leaf) (some f78) (.node .leaf (some f206) .leaf)) (some f46) (.node (.node (.node .leaf (some f302) .leaf) (some f174) .leaf) (some f110) (.node .leaf (some f238) .leaf))) (some f30) (.node (.node (.node (.node .leaf (some f286) .leaf) (some f158) .leaf) (some f94) (.node .leaf (some f222) .leaf)) (some f62) (.node (.node (.node .leaf (some f318) .leaf) (some f190) .leaf) (some f126) (.node .leaf (some f254) .leaf))))))))
def mtab (t : Nat) (m : String) : Option (Nat × Option (Bool × Nat)) :=
 if t == 76 && m == "Load" then some (344, none) else
 if t == 76 && m == "Save" then some (345, none) else
 if t == 393 && m == "Len" then some (304, some (false, 1)) else
 if t == 393 && m == "Less" then some (351, some (false, 1)) else
 if t == 393 && m == "Pop" then some (352, none) else
 if t == 393 && m == "Push" then some (353, none) else
 if t == 393 && m == "Swap" then some (354, some (false, 1)) else
 none
/-- How functions are answered that are not walked: the laws' tests 'awake', and those of the library. -/
class Aw where
  own : Nat → Option (List Value → H → Option (Res × H))
def isOwn (k : Nat) : Bool := Nat.beq k 4 || (Nat.beq k 125 || (Nat.beq k 132 || (Nat.beq k 180 || (Nat.beq k 208 || (Nat.beq k 209 || (Nat.beq k 227 || (Nat.beq k 249 || (Nat.beq k 250))))))))
def prog [Aw] : Prog := ⟨ftab.get, mtab, fun k => match isOwn k with
  | true => Aw.own k
  | false => none⟩
end Go.Proofs.YtlelihddjacplaaGreat.AM
