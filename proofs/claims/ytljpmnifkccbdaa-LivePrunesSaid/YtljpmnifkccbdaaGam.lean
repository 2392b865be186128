import Derived.Test.YtljpmnifkccbdaaAm1
namespace Go.Proofs.Ytljpmnifkccbdaa.Am
open Go Go.RowKit
/-! The types of this program that the machine asks for. -/
def ti2 : TI := ⟨1, false, [.v (.int .i64 0)], [], (.int .i64)⟩
def ti3 : TI := ⟨1, false, [.v (.int .i64 0)], [], (.int .i64)⟩
def ti4 : TI := ⟨1, false, [.b false], [], .other⟩
def ti5 : TI := ⟨1, false, [.v (.int .u8 0)], [], (.int .u8)⟩
def ti9 : TI := ⟨1, false, [.v (.string ⟨#[]⟩)], [], .str⟩
def ti12 : TI := ⟨1, false, [.v (.int .u64 0)], [], (.int .u64)⟩
def ti21 : TI := ⟨1, false, [.v (.int .i32 0)], [], (.int .i32)⟩
def ti26 : TI := ⟨1, false, [.v (.slice none 0 0)], [], (.sli 34 26 232)⟩
def ti27 : TI := ⟨2, true, [.v (.int .i64 0), .v (.int .i64 0)], [(0, 1), (1, 1)], .struct⟩
def ti28 : TI := ⟨2, true, [.v (.int .i64 0), .v (.int .i64 0)], [(0, 1), (1, 1)], .struct⟩
def ti29 : TI := ⟨16, true, [.v (.int .i64 0), .v (.int .i64 0), .v (.int .i64 0), .v (.int .i64 0), .v (.int .i64 0), .v (.int .i64 0), .v (.int .i64 0), .v (.int .i64 0), .v (.int .i64 0), .v (.int .i64 0), .v (.int .i64 0), .v (.int .i64 0), .v (.int .i64 0), .v (.int .i64 0), .v (.int .i64 0), .v (.int .i64 0)], [], (.arr 16 1)⟩
def ti30 : TI := ⟨16, true, [.v (.int .i64 0), .v (.int .i64 0), .v (.int .i64 0), .v (.int .i64 0), .v (.int .i64 0), .v (.int .i64 0), .v (.int .i64 0), .v (.int .i64 0), .v (.int .i64 0), .v (.int .i64 0), .v (.int .i64 0), .v (.int .i64 0), .v (.int .i64 0), .v (.int .i64 0), .v (.int .i64 0), .v (.int .i64 0)], [], (.arr 16 1)⟩
def ti31 : TI := ⟨7, true, [.v (.int .i64 0), .v (.string ⟨#[]⟩), .v (.string ⟨#[]⟩), .v (.string ⟨#[]⟩), .v (.int .i64 0), .v (.int .i64 0), .v (.int .i64 0)], [(0, 1), (1, 1), (2, 1), (3, 1), (4, 1), (5, 2)], .struct⟩
def ti32 : TI := ⟨7, true, [.v (.int .i64 0), .v (.string ⟨#[]⟩), .v (.string ⟨#[]⟩), .v (.string ⟨#[]⟩), .v (.int .i64 0), .v (.int .i64 0), .v (.int .i64 0)], [(0, 1), (1, 1), (2, 1), (3, 1), (4, 1), (5, 2)], .struct⟩
def ti33 : TI := ⟨26, true, [.v (.int .i64 0), .v (.int .i64 0), .v (.int .i64 0), .v (.int .i64 0), .v (.int .i64 0), .v (.int .i64 0), .v (.int .i64 0), .v (.int .i64 0), .v (.int .i64 0), .v (.int .i64 0), .v (.int .i64 0), .v (.int .i64 0), .v (.int .i64 0), .v (.int .i64 0), .v (.int .i64 0), .v (.int .i64 0), .v (.int .i64 0), .v (.int .i64 0), .v (.int .i64 0), .v (.int .i64 0), .v (.string ⟨#[]⟩), .v (.string ⟨#[]⟩), .v (.string ⟨#[]⟩), .v (.int .i64 0), .v (.int .i64 0), .v (.int .i64 0)], [(0, 2), (2, 1), (3, 16), (19, 7)], .struct⟩
def ti34 : TI := ⟨26, true, [.v (.int .i64 0), .v (.int .i64 0), .v (.int .i64 0), .v (.int .i64 0), .v (.int .i64 0), .v (.int .i64 0), .v (.int .i64 0), .v (.int .i64 0), .v (.int .i64 0), .v (.int .i64 0), .v (.int .i64 0), .v (.int .i64 0), .v (.int .i64 0), .v (.int .i64 0), .v (.int .i64 0), .v (.int .i64 0), .v (.int .i64 0), .v (.int .i64 0), .v (.int .i64 0), .v (.int .i64 0), .v (.string ⟨#[]⟩), .v (.string ⟨#[]⟩), .v (.string ⟨#[]⟩), .v (.int .i64 0), .v (.int .i64 0), .v (.int .i64 0)], [(0, 2), (2, 1), (3, 16), (19, 7)], .struct⟩
def ti40 : TI := ⟨1, false, [.v (.int .u64 0)], [], (.int .u64)⟩
def ti47 : TI := ⟨1, false, [.v (.slice none 0 0)], [], (.sli 50 2 24)⟩
def ti49 : TI := ⟨2, true, [.v (.string ⟨#[]⟩), .v (.int .i64 0)], [(0, 1), (1, 1)], .struct⟩
def ti50 : TI := ⟨2, true, [.v (.string ⟨#[]⟩), .v (.int .i64 0)], [(0, 1), (1, 1)], .struct⟩
def ti52 : TI := ⟨1, false, [.v (.slice none 0 0)], [], (.sli 79 2 24)⟩
def ti55 : TI := ⟨1, false, [.v (.slice none 0 0)], [], (.sli 9 1 16)⟩
def ti79 : TI := ⟨2, true, [.v (.string ⟨#[]⟩), .v (.int .i64 0)], [(0, 1), (1, 1)], .struct⟩
def ti86 : TI := ⟨1, false, [.v (.slice none 0 0)], [], (.sli 3 1 8)⟩
def ti95 : TI := ⟨1, false, [.v (.int .i64 0)], [], (.int .i64)⟩
def ti102 : TI := ⟨1, false, [.v (.int .u32 0)], [], (.int .u32)⟩
def ti104 : TI := ⟨1, false, [.v (.int .u64 0)], [], (.int .u64)⟩
def ti111 : TI := ⟨1, false, [.v (.int .u64 0)], [], (.int .u64)⟩
def ti135 : TI := ⟨11, true, [.v (.int .u64 0), .v (.int .u64 0), .v (.int .u32 0), .v (.int .u8 0), .v (.int .u8 0), .v (.int .u8 0), .v (.int .u8 0), .v .nilFunc, .v (.pointer none), .v (.int .i32 0), .v (.int .i32 0)], [(0, 1), (1, 1), (2, 1), (3, 1), (4, 1), (5, 1), (6, 1), (7, 1), (8, 1), (9, 1), (10, 1)], .struct⟩
def gam (t : Nat) : Option TI := if t = 2 then some ti2 else if t = 3 then some ti3 else if t = 4 then some ti4 else if t = 5 then some ti5 else if t = 9 then some ti9 else if t = 12 then some ti12 else if t = 21 then some ti21 else if t = 40 then some ti40 else if t = 102 then some ti102 else if t = 104 then some ti104 else if t = 26 then some ti26 else if t = 27 then some ti27 else if t = 28 then some ti28 else if t = 29 then some ti29 else if t = 30 then some ti30 else if t = 31 then some ti31 else if t = 32 then some ti32 else if t = 33 then some ti33 else if t = 34 then some ti34 else if t = 47 then some ti47 else if t = 49 then some ti49 else if t = 50 then some ti50 else if t = 52 then some ti52 else if t = 55 then some ti55 else if t = 79 then some ti79 else if t = 86 then some ti86 else if t = 95 then some ti95 else if t = 111 then some ti111 else if t = 135 then some ti135 else none
end Go.Proofs.Ytljpmnifkccbdaa.Am
