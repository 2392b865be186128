import Derived.Test.YtdmdahnnfancpaaAm1
namespace Go.Proofs.Ytdmdahnnfancpaa.Am
open Go Go.RowKit
/-! The types of this program that the machine asks for. -/
def ti2 : TI := ⟨1, false, [.v (.int .i64 0)], [], (.int .i64)⟩
def ti3 : TI := ⟨1, false, [.v (.int .i64 0)], [], (.int .i64)⟩
def ti4 : TI := ⟨1, false, [.v (.bool false)], [], .other⟩
def ti5 : TI := ⟨1, false, [.v (.int .u8 0)], [], (.int .u8)⟩
def ti9 : TI := ⟨1, false, [.v (.string ⟨#[]⟩)], [], .str⟩
def ti12 : TI := ⟨1, false, [.v (.int .u64 0)], [], (.int .u64)⟩
def ti21 : TI := ⟨1, false, [.v (.int .i32 0)], [], (.int .i32)⟩
def ti26 : TI := ⟨1, false, [.v (.slice none 0 0)], [], (.sli 35 26 232)⟩
def ti28 : TI := ⟨2, true, [.v (.int .i64 0), .v (.int .i64 0)], [(0, 1), (1, 1)], .struct⟩
def ti29 : TI := ⟨2, true, [.v (.int .i64 0), .v (.int .i64 0)], [(0, 1), (1, 1)], .struct⟩
def ti30 : TI := ⟨7, true, [.v (.int .i64 0), .v (.string ⟨#[]⟩), .v (.string ⟨#[]⟩), .v (.string ⟨#[]⟩), .v (.int .i64 0), .v (.int .i64 0), .v (.int .i64 0)], [(0, 1), (1, 1), (2, 1), (3, 1), (4, 1), (5, 2)], .struct⟩
def ti31 : TI := ⟨7, true, [.v (.int .i64 0), .v (.string ⟨#[]⟩), .v (.string ⟨#[]⟩), .v (.string ⟨#[]⟩), .v (.int .i64 0), .v (.int .i64 0), .v (.int .i64 0)], [(0, 1), (1, 1), (2, 1), (3, 1), (4, 1), (5, 2)], .struct⟩
def ti32 : TI := ⟨16, true, [.v (.int .i64 0), .v (.int .i64 0), .v (.int .i64 0), .v (.int .i64 0), .v (.int .i64 0), .v (.int .i64 0), .v (.int .i64 0), .v (.int .i64 0), .v (.int .i64 0), .v (.int .i64 0), .v (.int .i64 0), .v (.int .i64 0), .v (.int .i64 0), .v (.int .i64 0), .v (.int .i64 0), .v (.int .i64 0)], [], (.arr 16 1)⟩
def ti33 : TI := ⟨16, true, [.v (.int .i64 0), .v (.int .i64 0), .v (.int .i64 0), .v (.int .i64 0), .v (.int .i64 0), .v (.int .i64 0), .v (.int .i64 0), .v (.int .i64 0), .v (.int .i64 0), .v (.int .i64 0), .v (.int .i64 0), .v (.int .i64 0), .v (.int .i64 0), .v (.int .i64 0), .v (.int .i64 0), .v (.int .i64 0)], [], (.arr 16 1)⟩
def ti34 : TI := ⟨26, true, [.v (.int .i64 0), .v (.int .i64 0), .v (.int .i64 0), .v (.int .i64 0), .v (.int .i64 0), .v (.int .i64 0), .v (.int .i64 0), .v (.int .i64 0), .v (.int .i64 0), .v (.int .i64 0), .v (.int .i64 0), .v (.int .i64 0), .v (.int .i64 0), .v (.int .i64 0), .v (.int .i64 0), .v (.int .i64 0), .v (.int .i64 0), .v (.int .i64 0), .v (.int .i64 0), .v (.int .i64 0), .v (.string ⟨#[]⟩), .v (.string ⟨#[]⟩), .v (.string ⟨#[]⟩), .v (.int .i64 0), .v (.int .i64 0), .v (.int .i64 0)], [(0, 2), (2, 1), (3, 16), (19, 7)], .struct⟩
def ti35 : TI := ⟨26, true, [.v (.int .i64 0), .v (.int .i64 0), .v (.int .i64 0), .v (.int .i64 0), .v (.int .i64 0), .v (.int .i64 0), .v (.int .i64 0), .v (.int .i64 0), .v (.int .i64 0), .v (.int .i64 0), .v (.int .i64 0), .v (.int .i64 0), .v (.int .i64 0), .v (.int .i64 0), .v (.int .i64 0), .v (.int .i64 0), .v (.int .i64 0), .v (.int .i64 0), .v (.int .i64 0), .v (.int .i64 0), .v (.string ⟨#[]⟩), .v (.string ⟨#[]⟩), .v (.string ⟨#[]⟩), .v (.int .i64 0), .v (.int .i64 0), .v (.int .i64 0)], [(0, 2), (2, 1), (3, 16), (19, 7)], .struct⟩
def ti38 : TI := ⟨1, false, [.v (.slice none 0 0)], [], (.sli 41 2 24)⟩
def ti40 : TI := ⟨2, true, [.v (.string ⟨#[]⟩), .v (.int .i64 0)], [(0, 1), (1, 1)], .struct⟩
def ti41 : TI := ⟨2, true, [.v (.string ⟨#[]⟩), .v (.int .i64 0)], [(0, 1), (1, 1)], .struct⟩
def ti44 : TI := ⟨1, false, [.v (.slice none 0 0)], [], (.sli 73 2 24)⟩
def ti49 : TI := ⟨1, false, [.v (.slice none 0 0)], [], (.sli 54 2 32)⟩
def ti51 : TI := ⟨1, false, [.v (.slice none 0 0)], [], (.sli 77 2 32)⟩
def ti53 : TI := ⟨2, true, [.v (.string ⟨#[]⟩), .v (.string ⟨#[]⟩)], [(0, 1), (1, 1)], .struct⟩
def ti54 : TI := ⟨2, true, [.v (.string ⟨#[]⟩), .v (.string ⟨#[]⟩)], [(0, 1), (1, 1)], .struct⟩
def ti55 : TI := ⟨1, false, [.v (.slice none 0 0)], [], (.sli 9 1 16)⟩
def ti59 : TI := ⟨1, false, [.v (.slice none 0 0)], [], (.sli 29 2 16)⟩
def ti63 : TI := ⟨1, false, [.v (.map none)], [], (.mp 9 35)⟩
def ti73 : TI := ⟨2, true, [.v (.string ⟨#[]⟩), .v (.int .i64 0)], [(0, 1), (1, 1)], .struct⟩
def ti75 : TI := ⟨1, false, [.v (.map none)], [], (.mp 9 26)⟩
def ti77 : TI := ⟨2, true, [.v (.string ⟨#[]⟩), .v (.string ⟨#[]⟩)], [(0, 1), (1, 1)], .struct⟩
def ti83 : TI := ⟨1, false, [.v (.map none)], [], (.mp 9 84)⟩
def ti84 : TI := ⟨0, true, [], [], .struct⟩
def ti91 : TI := ⟨1, false, [.v (.slice none 0 0)], [], (.sli 96 3 24)⟩
def ti92 : TI := ⟨1, true, [.v (.slice none 0 0)], [(0, 1)], .struct⟩
def ti93 : TI := ⟨1, true, [.v (.slice none 0 0)], [(0, 1)], .struct⟩
def ti95 : TI := ⟨3, true, [.v (.int .i64 0), .v (.int .i64 0), .v (.int .i64 0)], [(0, 2), (2, 1)], .struct⟩
def ti96 : TI := ⟨3, true, [.v (.int .i64 0), .v (.int .i64 0), .v (.int .i64 0)], [(0, 2), (2, 1)], .struct⟩
def ti102 : TI := ⟨1, false, [.v (.int .u64 0)], [], (.int .u64)⟩
def ti103 : TI := ⟨1, false, [.v (.slice none 0 0)], [], (.sli 3 1 8)⟩
def ti112 : TI := ⟨1, false, [.v (.int .i64 0)], [], (.int .i64)⟩
def ti119 : TI := ⟨1, false, [.v (.int .u32 0)], [], (.int .u32)⟩
def ti121 : TI := ⟨1, false, [.v (.int .u64 0)], [], (.int .u64)⟩
def ti129 : TI := ⟨1, false, [.v (.int .u64 0)], [], (.int .u64)⟩
def ti162 : TI := ⟨11, true, [.v (.int .u64 0), .v (.int .u64 0), .v (.int .u32 0), .v (.int .u8 0), .v (.int .u8 0), .v (.int .u8 0), .v (.int .u8 0), .v .nilFunc, .v (.pointer none), .v (.int .i32 0), .v (.int .i32 0)], [(0, 1), (1, 1), (2, 1), (3, 1), (4, 1), (5, 1), (6, 1), (7, 1), (8, 1), (9, 1), (10, 1)], .struct⟩
def gam (t : Nat) : Option TI := if t = 2 then some ti2 else if t = 3 then some ti3 else if t = 4 then some ti4 else if t = 5 then some ti5 else if t = 9 then some ti9 else if t = 12 then some ti12 else if t = 21 then some ti21 else if t = 102 then some ti102 else if t = 119 then some ti119 else if t = 121 then some ti121 else if t = 26 then some ti26 else if t = 28 then some ti28 else if t = 29 then some ti29 else if t = 30 then some ti30 else if t = 31 then some ti31 else if t = 32 then some ti32 else if t = 33 then some ti33 else if t = 34 then some ti34 else if t = 35 then some ti35 else if t = 38 then some ti38 else if t = 40 then some ti40 else if t = 41 then some ti41 else if t = 44 then some ti44 else if t = 49 then some ti49 else if t = 51 then some ti51 else if t = 53 then some ti53 else if t = 54 then some ti54 else if t = 55 then some ti55 else if t = 59 then some ti59 else if t = 63 then some ti63 else if t = 73 then some ti73 else if t = 75 then some ti75 else if t = 77 then some ti77 else if t = 83 then some ti83 else if t = 84 then some ti84 else if t = 91 then some ti91 else if t = 92 then some ti92 else if t = 93 then some ti93 else if t = 95 then some ti95 else if t = 96 then some ti96 else if t = 103 then some ti103 else if t = 112 then some ti112 else if t = 129 then some ti129 else if t = 162 then some ti162 else none
def gndA : List (Nat × List AV) := []
def gndI : List Nat := []
end Go.Proofs.Ytdmdahnnfancpaa.Am
