import Derived.Test.YtfphhpabfeepmaaDoorAm1
namespace Go.Proofs.YtfphhpabfeepmaaDoor.Am
open Go Go.RowKit
/-! The types of this program that the machine asks for. -/
def ti2 : TI := ⟨1, false, [.v (.int .i64 0)], [], (.int .i64)⟩
def ti3 : TI := ⟨1, false, [.v (.int .i64 0)], [], (.int .i64)⟩
def ti4 : TI := ⟨1, false, [.v (.bool false)], [], .other⟩
def ti5 : TI := ⟨1, false, [.v (.int .u8 0)], [], (.int .u8)⟩
def ti9 : TI := ⟨1, false, [.v (.string ⟨#[]⟩)], [], .str⟩
def ti12 : TI := ⟨1, false, [.v (.int .u64 0)], [], (.int .u64)⟩
def ti21 : TI := ⟨1, false, [.v (.int .i32 0)], [], (.int .i32)⟩
def ti22 : TI := ⟨1, false, [.v (.slice none 0 0)], [], (.sli 9 1 16)⟩
def ti23 : TI := ⟨4, true, [.v (.int .i64 0), .v (.string ⟨#[]⟩), .v (.int .i64 0), .v (.slice none 0 0)], [(0, 1), (1, 1), (2, 1), (3, 1)], .struct⟩
def ti24 : TI := ⟨4, true, [.v (.int .i64 0), .v (.string ⟨#[]⟩), .v (.int .i64 0), .v (.slice none 0 0)], [(0, 1), (1, 1), (2, 1), (3, 1)], .struct⟩
def ti27 : TI := ⟨1, false, [.v (.slice none 0 0)], [], (.sli 5 1 1)⟩
def ti29 : TI := ⟨4, true, [.v (.int .i64 0), .v (.string ⟨#[]⟩), .v (.int .i64 0), .v (.slice none 0 0)], [(0, 1), (1, 1), (2, 1), (3, 1)], .struct⟩
def ti36 : TI := ⟨1, false, [.v (.slice none 0 0)], [], (.sli 22 1 24)⟩
def ti37 : TI := ⟨1, false, [.v (.int .i64 0)], [], (.int .i64)⟩
def ti44 : TI := ⟨2, true, [.v (.slice none 0 0), .v (.int .i64 0)], [(0, 1), (1, 1)], .struct⟩
def ti45 : TI := ⟨2, true, [.v (.slice none 0 0), .v (.int .i64 0)], [(0, 1), (1, 1)], .struct⟩
def ti49 : TI := ⟨1, false, [.v (.int .u64 0)], [], (.int .u64)⟩
def ti51 : TI := ⟨1, false, [.v (.slice none 0 0)], [], (.sli 59 6 56)⟩
def ti54 : TI := ⟨1, false, [.v (.slice none 0 0)], [], (.sli 58 6 56)⟩
def ti57 : TI := ⟨6, true, [.v (.int .i64 0), .v (.int .i64 0), .v (.int .i64 0), .v (.int .i64 0), .v (.int .i64 0), .v (.string ⟨#[]⟩)], [(0, 1), (1, 1), (2, 1), (3, 1), (4, 1), (5, 1)], .struct⟩
def ti58 : TI := ⟨6, true, [.v (.int .i64 0), .v (.int .i64 0), .v (.int .i64 0), .v (.int .i64 0), .v (.int .i64 0), .v (.string ⟨#[]⟩)], [(0, 1), (1, 1), (2, 1), (3, 1), (4, 1), (5, 1)], .struct⟩
def ti59 : TI := ⟨6, true, [.v (.int .i64 0), .v (.int .i64 0), .v (.int .i64 0), .v (.int .i64 0), .v (.int .i64 0), .v (.string ⟨#[]⟩)], [(0, 1), (1, 1), (2, 1), (3, 1), (4, 1), (5, 1)], .struct⟩
def ti60 : TI := ⟨6, true, [.v (.string ⟨#[]⟩), .v (.string ⟨#[]⟩), .v (.string ⟨#[]⟩), .v (.string ⟨#[]⟩), .v (.int .i64 0), .v (.int .i64 0)], [(0, 1), (1, 1), (2, 1), (3, 1), (4, 1), (5, 1)], .struct⟩
def ti61 : TI := ⟨6, true, [.v (.string ⟨#[]⟩), .v (.string ⟨#[]⟩), .v (.string ⟨#[]⟩), .v (.string ⟨#[]⟩), .v (.int .i64 0), .v (.int .i64 0)], [(0, 1), (1, 1), (2, 1), (3, 1), (4, 1), (5, 1)], .struct⟩
def ti64 : TI := ⟨6, true, [.v (.string ⟨#[]⟩), .v (.string ⟨#[]⟩), .v (.string ⟨#[]⟩), .v (.string ⟨#[]⟩), .v (.int .i64 0), .v (.int .i64 0)], [(0, 1), (1, 1), (2, 1), (3, 1), (4, 1), (5, 1)], .struct⟩
def ti71 : TI := ⟨1, false, [.v (.int .u16 0)], [], (.int .u16)⟩
def ti78 : TI := ⟨4, true, [.v (.slice none 0 0), .v (.int .i64 0), .v (.bool false), .v (.int .i64 0)], [(0, 1), (1, 1), (2, 1), (3, 1)], .struct⟩
def ti79 : TI := ⟨4, true, [.v (.slice none 0 0), .v (.int .i64 0), .v (.bool false), .v (.int .i64 0)], [(0, 1), (1, 1), (2, 1), (3, 1)], .struct⟩
def ti84 : TI := ⟨2, true, [.v (.slice none 0 0), .v (.bool false)], [(0, 1), (1, 1)], .struct⟩
def ti85 : TI := ⟨2, true, [.v (.slice none 0 0), .v (.bool false)], [(0, 1), (1, 1)], .struct⟩
def ti89 : TI := ⟨3, true, [.v (.string ⟨#[]⟩), .v (.int .i64 0), .v (.bool false)], [(0, 1), (1, 1), (2, 1)], .struct⟩
def ti90 : TI := ⟨3, true, [.v (.string ⟨#[]⟩), .v (.int .i64 0), .v (.bool false)], [(0, 1), (1, 1), (2, 1)], .struct⟩
def ti92 : TI := ⟨2, true, [.v (.string ⟨#[]⟩), .v (.int .i64 0)], [(0, 1), (1, 1)], .struct⟩
def ti93 : TI := ⟨2, true, [.v (.string ⟨#[]⟩), .v (.int .i64 0)], [(0, 1), (1, 1)], .struct⟩
def ti105 : TI := ⟨1, false, [.v (.slice none 0 0)], [], (.sli 27 1 24)⟩
def ti113 : TI := ⟨1, false, [.v (.slice none 0 0)], [], (.sli 3 1 8)⟩
def ti124 : TI := ⟨2, true, [.v (.pointer none), .v (.slice none 0 0)], [(0, 1), (1, 1)], .struct⟩
def ti125 : TI := ⟨2, true, [.v (.pointer none), .v (.slice none 0 0)], [(0, 1), (1, 1)], .struct⟩
def ti129 : TI := ⟨24, true, [.v (.int .u8 0), .v (.int .u8 0), .v (.int .u8 0), .v (.int .u8 0), .v (.int .u8 0), .v (.int .u8 0), .v (.int .u8 0), .v (.int .u8 0), .v (.int .u8 0), .v (.int .u8 0), .v (.int .u8 0), .v (.int .u8 0), .v (.int .u8 0), .v (.int .u8 0), .v (.int .u8 0), .v (.int .u8 0), .v (.int .u8 0), .v (.int .u8 0), .v (.int .u8 0), .v (.int .u8 0), .v (.int .u8 0), .v (.int .u8 0), .v (.int .u8 0), .v (.int .u8 0)], [], (.arr 24 1)⟩
def ti130 : TI := ⟨1, false, [.v (.int .u64 0)], [], (.int .u64)⟩
def ti148 : TI := ⟨20, true, [.v (.int .u64 0), .v (.int .u64 0), .v (.int .u64 0), .v (.int .u64 0), .v (.int .u64 0), .v (.int .u64 0), .v (.int .u64 0), .v (.int .u64 0), .v (.int .u64 0), .v (.int .u64 0), .v (.int .u64 0), .v (.int .u64 0), .v (.int .u64 0), .v (.int .u64 0), .v (.int .u64 0), .v (.int .u64 0), .v (.int .u64 0), .v (.int .u64 0), .v (.int .u64 0), .v (.int .u64 0)], [], (.arr 20 1)⟩
def ti149 : TI := ⟨1, false, [.v (.int .u32 0)], [], (.int .u32)⟩
def ti164 : TI := ⟨2, true, [.v (.int .u8 0), .v (.int .u8 0)], [(0, 1), (1, 1)], .struct⟩
def ti165 : TI := ⟨2, true, [.v (.int .u8 0), .v (.int .u8 0)], [(0, 1), (1, 1)], .struct⟩
def ti166 : TI := ⟨32, true, [.v (.int .u8 0), .v (.int .u8 0), .v (.int .u8 0), .v (.int .u8 0), .v (.int .u8 0), .v (.int .u8 0), .v (.int .u8 0), .v (.int .u8 0), .v (.int .u8 0), .v (.int .u8 0), .v (.int .u8 0), .v (.int .u8 0), .v (.int .u8 0), .v (.int .u8 0), .v (.int .u8 0), .v (.int .u8 0), .v (.int .u8 0), .v (.int .u8 0), .v (.int .u8 0), .v (.int .u8 0), .v (.int .u8 0), .v (.int .u8 0), .v (.int .u8 0), .v (.int .u8 0), .v (.int .u8 0), .v (.int .u8 0), .v (.int .u8 0), .v (.int .u8 0), .v (.int .u8 0), .v (.int .u8 0), .v (.int .u8 0), .v (.int .u8 0)], [], (.arr 16 2)⟩
def ti171 : TI := ⟨3, true, [.v (.string ⟨#[]⟩), .v (.string ⟨#[]⟩), .v .nilIface], [(0, 1), (1, 1), (2, 1)], .struct⟩
def ti172 : TI := ⟨3, true, [.v (.string ⟨#[]⟩), .v (.string ⟨#[]⟩), .v .nilIface], [(0, 1), (1, 1), (2, 1)], .struct⟩
def ti176 : TI := ⟨32, true, [.v (.int .u8 0), .v (.int .u8 0), .v (.int .u8 0), .v (.int .u8 0), .v (.int .u8 0), .v (.int .u8 0), .v (.int .u8 0), .v (.int .u8 0), .v (.int .u8 0), .v (.int .u8 0), .v (.int .u8 0), .v (.int .u8 0), .v (.int .u8 0), .v (.int .u8 0), .v (.int .u8 0), .v (.int .u8 0), .v (.int .u8 0), .v (.int .u8 0), .v (.int .u8 0), .v (.int .u8 0), .v (.int .u8 0), .v (.int .u8 0), .v (.int .u8 0), .v (.int .u8 0), .v (.int .u8 0), .v (.int .u8 0), .v (.int .u8 0), .v (.int .u8 0), .v (.int .u8 0), .v (.int .u8 0), .v (.int .u8 0), .v (.int .u8 0)], [], (.arr 32 1)⟩
def ti177 : TI := ⟨64, true, [.v (.int .u8 0), .v (.int .u8 0), .v (.int .u8 0), .v (.int .u8 0), .v (.int .u8 0), .v (.int .u8 0), .v (.int .u8 0), .v (.int .u8 0), .v (.int .u8 0), .v (.int .u8 0), .v (.int .u8 0), .v (.int .u8 0), .v (.int .u8 0), .v (.int .u8 0), .v (.int .u8 0), .v (.int .u8 0), .v (.int .u8 0), .v (.int .u8 0), .v (.int .u8 0), .v (.int .u8 0), .v (.int .u8 0), .v (.int .u8 0), .v (.int .u8 0), .v (.int .u8 0), .v (.int .u8 0), .v (.int .u8 0), .v (.int .u8 0), .v (.int .u8 0), .v (.int .u8 0), .v (.int .u8 0), .v (.int .u8 0), .v (.int .u8 0), .v (.int .u8 0), .v (.int .u8 0), .v (.int .u8 0), .v (.int .u8 0), .v (.int .u8 0), .v (.int .u8 0), .v (.int .u8 0), .v (.int .u8 0), .v (.int .u8 0), .v (.int .u8 0), .v (.int .u8 0), .v (.int .u8 0), .v (.int .u8 0), .v (.int .u8 0), .v (.int .u8 0), .v (.int .u8 0), .v (.int .u8 0), .v (.int .u8 0), .v (.int .u8 0), .v (.int .u8 0), .v (.int .u8 0), .v (.int .u8 0), .v (.int .u8 0), .v (.int .u8 0), .v (.int .u8 0), .v (.int .u8 0), .v (.int .u8 0), .v (.int .u8 0), .v (.int .u8 0), .v (.int .u8 0), .v (.int .u8 0), .v (.int .u8 0)], [], (.arr 64 1)⟩
def ti181 : TI := ⟨1, true, [.v (.string ⟨#[]⟩)], [(0, 1)], .struct⟩
def ti182 : TI := ⟨1, true, [.v (.string ⟨#[]⟩)], [(0, 1)], .struct⟩
def ti193 : TI := ⟨11, true, [.v (.int .u64 0), .v (.int .u64 0), .v (.int .u32 0), .v (.int .u8 0), .v (.int .u8 0), .v (.int .u8 0), .v (.int .u8 0), .v .nilFunc, .v (.pointer none), .v (.int .i32 0), .v (.int .i32 0)], [(0, 1), (1, 1), (2, 1), (3, 1), (4, 1), (5, 1), (6, 1), (7, 1), (8, 1), (9, 1), (10, 1)], .struct⟩
def gam (t : Nat) : Option TI := if t = 2 then some ti2 else if t = 3 then some ti3 else if t = 4 then some ti4 else if t = 5 then some ti5 else if t = 9 then some ti9 else if t = 12 then some ti12 else if t = 21 then some ti21 else if t = 49 then some ti49 else if t = 71 then some ti71 else if t = 130 then some ti130 else if t = 149 then some ti149 else if t = 22 then some ti22 else if t = 23 then some ti23 else if t = 24 then some ti24 else if t = 27 then some ti27 else if t = 29 then some ti29 else if t = 36 then some ti36 else if t = 37 then some ti37 else if t = 44 then some ti44 else if t = 45 then some ti45 else if t = 51 then some ti51 else if t = 54 then some ti54 else if t = 57 then some ti57 else if t = 58 then some ti58 else if t = 59 then some ti59 else if t = 60 then some ti60 else if t = 61 then some ti61 else if t = 64 then some ti64 else if t = 78 then some ti78 else if t = 79 then some ti79 else if t = 84 then some ti84 else if t = 85 then some ti85 else if t = 89 then some ti89 else if t = 90 then some ti90 else if t = 92 then some ti92 else if t = 93 then some ti93 else if t = 105 then some ti105 else if t = 113 then some ti113 else if t = 124 then some ti124 else if t = 125 then some ti125 else if t = 129 then some ti129 else if t = 148 then some ti148 else if t = 164 then some ti164 else if t = 165 then some ti165 else if t = 166 then some ti166 else if t = 171 then some ti171 else if t = 172 then some ti172 else if t = 176 then some ti176 else if t = 177 then some ti177 else if t = 181 then some ti181 else if t = 182 then some ti182 else if t = 193 then some ti193 else none
def gndA : List (Nat × List AV) := [(0, [.v (.int .u64 1), .v (.int .u64 10), .v (.int .u64 100), .v (.int .u64 1000), .v (.int .u64 10000), .v (.int .u64 100000), .v (.int .u64 1000000), .v (.int .u64 10000000), .v (.int .u64 100000000), .v (.int .u64 1000000000), .v (.int .u64 10000000000), .v (.int .u64 100000000000), .v (.int .u64 1000000000000), .v (.int .u64 10000000000000), .v (.int .u64 100000000000000), .v (.int .u64 1000000000000000), .v (.int .u64 10000000000000000), .v (.int .u64 100000000000000000), .v (.int .u64 1000000000000000000), .v (.int .u64 10000000000000000000)])]
def gndI : List Nat := [1]
end Go.Proofs.YtfphhpabfeepmaaDoor.Am
