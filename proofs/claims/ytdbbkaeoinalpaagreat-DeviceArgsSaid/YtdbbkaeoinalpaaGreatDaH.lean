/- The test 'awake' of concertinalaw20, first part: a sector is written, flushed, and the platter mounted anew. -/
import Derived.Test.YtdbbkaeoinalpaaGreatDaG
set_option linter.unusedVariables false
namespace Go.Proofs.YtdbbkaeoinalpaaGreat
namespace AM
noncomputable section
/-- What is read behind that. -/
def rel13 : List (Nat × Obj) :=
 [(1, .cells [.slice (some ⟨193, 0, none⟩) 64 64, .slice none 0 0, .slice none 0 0, .int .i64 (0), .int .i64 (11), .int .i64 (9), .int .i64 (7), .int .i64 (0), .int .i64 (11), .int .i64 (9), .int .i64 (7)] 136 11 .exact),
 (193, .cells [.slice (some ⟨2469, 0, none⟩) 64 64, .slice (some ⟨292, 0, none⟩) 64 64, .slice (some ⟨267, 0, none⟩) 64 64, .slice (some ⟨2183, 0, none⟩) 64 64, .slice (some ⟨2193, 0, none⟩) 64 64, .slice (some ⟨2203, 0, none⟩) 64 64, .slice (some ⟨2315, 0, none⟩) 64 64, .slice (some ⟨23, 0, none⟩) 64 64, .slice (some ⟨26, 0, none⟩) 64 64, .slice (some ⟨29, 0, none⟩) 64 64, .slice (some ⟨32, 0, none⟩) 64 64, .slice (some ⟨35, 0, none⟩) 64 64, .slice (some ⟨38, 0, none⟩) 64 64, .slice (some ⟨41, 0, none⟩) 64 64, .slice (some ⟨44, 0, none⟩) 64 64, .slice (some ⟨47, 0, none⟩) 64 64, .slice (some ⟨50, 0, none⟩) 64 64, .slice (some ⟨53, 0, none⟩) 64 64, .slice (some ⟨56, 0, none⟩) 64 64, .slice (some ⟨59, 0, none⟩) 64 64, .slice (some ⟨62, 0, none⟩) 64 64, .slice (some ⟨65, 0, none⟩) 64 64, .slice (some ⟨68, 0, none⟩) 64 64, .slice (some ⟨71, 0, none⟩) 64 64, .slice (some ⟨74, 0, none⟩) 64 64, .slice (some ⟨77, 0, none⟩) 64 64, .slice (some ⟨80, 0, none⟩) 64 64, .slice (some ⟨83, 0, none⟩) 64 64, .slice (some ⟨86, 0, none⟩) 64 64, .slice (some ⟨89, 0, none⟩) 64 64, .slice (some ⟨92, 0, none⟩) 64 64, .slice (some ⟨95, 0, none⟩) 64 64, .slice (some ⟨98, 0, none⟩) 64 64, .slice (some ⟨101, 0, none⟩) 64 64, .slice (some ⟨104, 0, none⟩) 64 64, .slice (some ⟨107, 0, none⟩) 64 64, .slice (some ⟨110, 0, none⟩) 64 64, .slice (some ⟨113, 0, none⟩) 64 64, .slice (some ⟨116, 0, none⟩) 64 64, .slice (some ⟨119, 0, none⟩) 64 64, .slice (some ⟨122, 0, none⟩) 64 64, .slice (some ⟨125, 0, none⟩) 64 64, .slice (some ⟨128, 0, none⟩) 64 64, .slice (some ⟨131, 0, none⟩) 64 64, .slice (some ⟨134, 0, none⟩) 64 64, .slice (some ⟨137, 0, none⟩) 64 64, .slice (some ⟨140, 0, none⟩) 64 64, .slice (some ⟨143, 0, none⟩) 64 64, .slice (some ⟨146, 0, none⟩) 64 64, .slice (some ⟨149, 0, none⟩) 64 64, .slice (some ⟨152, 0, none⟩) 64 64, .slice (some ⟨155, 0, none⟩) 64 64, .slice (some ⟨158, 0, none⟩) 64 64, .slice (some ⟨161, 0, none⟩) 64 64, .slice (some ⟨164, 0, none⟩) 64 64, .slice (some ⟨167, 0, none⟩) 64 64, .slice (some ⟨170, 0, none⟩) 64 64, .slice (some ⟨173, 0, none⟩) 64 64, .slice (some ⟨176, 0, none⟩) 64 64, .slice (some ⟨179, 0, none⟩) 64 64, .slice (some ⟨182, 0, none⟩) 64 64, .slice (some ⟨185, 0, none⟩) 64 64, .slice (some ⟨188, 0, none⟩) 64 64, .slice (some ⟨191, 0, none⟩) 64 64] 40 1 .grown),
 (454, .map [] 1),
 (455, .cells [.int .i64 (64), .map (some 454)] 162 2 .exact),
 (456, .cells [.pointer (some ⟨301, 0, none⟩), .pointer (some ⟨455, 0, none⟩)] 107 2 .exact),
 (2183, .cells (by8 [197, 126, 231, 0, 2, 0, 0, 0, 122, 0, 0, 0, 68, 182, 191, 158, 1, 2, 119, 130, 0, 6, 95, 82, 96, 80, 99, 80, 99, 80, 99, 80, 99, 15, 15, 15, 15, 1, 112, 15, 15, 15, 15, 15, 15, 15, 13, 112, 14, 255, 248, 0, 0, 2, 16, 136, 66, 24, 198, 66, 16, 165, 41, 76] ++ List.replicate 0 (.int .u8 0)) 5 1 .grown),
 (2193, .cells (by8 [99, 28, 231, 66, 16, 148, 165, 74, 82, 150, 181, 177, 140, 107, 90, 231, 57, 239, 123, 225, 8, 70, 49, 148, 165, 117, 215, 78, 115, 157, 247, 223, 134, 24, 99, 142, 57, 101, 149, 41, 74, 103, 158, 122, 105, 166, 186, 235, 182, 219, 86, 181, 174, 251, 239, 199, 28, 115, 207, 61, 117, 213, 173, 107] ++ List.replicate 0 (.int .u8 0)) 5 1 .grown),
 (2203, .cells (by8 [119, 223, 126, 121, 231, 190, 251, 247, 223] ++ List.replicate 55 (.int .u8 0)) 5 1 .grown),
 (2315, .cells (by8 [197, 126, 78, 0, 2, 0, 0, 0, 7, 0, 0, 0, 177, 202, 127, 104, 0, 1, 3, 3, 3, 0, 2] ++ List.replicate 41 (.int .u8 0)) 5 1 .grown),
 (2503, .cells [.pointer (some ⟨1, 0, none⟩), .int .i64 (2), .int .i64 (64), .int .i64 (20), .float .f64 4607182418800017408, .int .i64 (6), .int .i64 (1), .int .i64 (2), .int .i64 (0), .pointer (some ⟨2672, 0, none⟩), .pointer (some ⟨2676, 0, none⟩), .pointer (some ⟨2704, 0, none⟩), .bool false] 129 13 .exact),
 (2704, .cells [.pointer (some ⟨1, 0, none⟩), .pointer (some ⟨2676, 0, none⟩), .pointer (some ⟨2672, 0, none⟩), .int .i64 (3)] 220 4 .exact),
 (2705, .map [] 0),
 (2706, .cells [.int .i64 (64), .map (some 2705)] 162 2 .exact),
 (2707, .cells [.pointer (some ⟨2503, 0, none⟩), .pointer (some ⟨2706, 0, none⟩)] 107 2 .exact)]

def env13 : Env := [(2, .pointer (some ⟨456, 0, none⟩)), (4, .int .i64 0), (5, .int .i64 0), (6, .pointer (some ⟨2707, 0, none⟩)), (7, .int .i64 0)]
def b0 : Code := f13.body
def b1 : Code := sndC b0
def b2 : Code := sndC b1
def b3 : Code := sndC b2
def b4 : Code := sndC b3
def b5 : Code := sndC b4
def b6 : Code := sndC b5
def at13 (e : Env) (σ : H) : Bool := eqE e env13 && isHeap 2708 rel13 σ
def o13 : OrcK := orcK ownB ovN 100000
set_option maxHeartbeats 4000000 in
theorem a13 : kDen (fstC b0) o13 [] h0 (nk fun e σ => kDen (fstC b1) o13 e σ (nk fun e σ => kDen (fstC b2) o13 e σ (nk fun e σ => kDen (fstC b3) o13 e σ (nk fun e σ => kDen (fstC b4) o13 e σ (nk fun e σ => kDen (fstC b5) o13 e σ (nk at13)))))) = true := by kernel_rfl
end
end AM
end Go.Proofs.YtdbbkaeoinalpaaGreat
