/-
  The value-level machine over the model, part 7.
-/
import Derived.Test.YtbieiehfohldjaaQf
import Derived.Test.YtbieiehfohldjaaProg
import Derived.KernelRfl
namespace Go.Proofs.Ytbieiehfohldjaa
open Go
def ti1 : TI := ⟨.other, 1, 8, false, [.lit (.nilFunc)]⟩
def ti2 : TI := ⟨.int .i64, 1, 8, false, [.lit (.int .i64 0)]⟩
def ti3 : TI := ⟨.int .i64, 1, 8, false, [.lit (.int .i64 0)]⟩
def ti4 : TI := ⟨.bool, 1, 1, false, [.lit (.bool false)]⟩
def ti5 : TI := ⟨.int .u8, 1, 1, false, [.lit (.int .u8 0)]⟩
def ti6 : TI := ⟨.int .u8, 1, 1, false, [.lit (.int .u8 0)]⟩
def ti7 : TI := ⟨.struct [(0, 1, false), (1, 1, false), (2, 1, false), (3, 1, false)], 4, 24, true, [.lit (.int .i64 0), .lit (.int .i64 0), .lit (.bool false), .lit (.int .u8 0)]⟩
def ti8 : TI := ⟨.struct [(0, 1, false), (1, 1, false), (2, 1, false), (3, 1, false)], 4, 24, true, [.lit (.int .i64 0), .lit (.int .i64 0), .lit (.bool false), .lit (.int .u8 0)]⟩
def ti9 : TI := ⟨.string, 1, 16, false, [.lit (.string ⟨#[]⟩)]⟩
def ti10 : TI := ⟨.string, 1, 16, false, [.lit (.string ⟨#[]⟩)]⟩
def ti11 : TI := ⟨.string, 1, 16, false, [.lit (.string ⟨#[]⟩)]⟩
def ti12 : TI := ⟨.int .u64, 1, 8, false, [.lit (.int .u64 0)]⟩
def ti13 : TI := ⟨.struct [(0, 1, false), (1, 1, false)], 2, 24, true, [.lit (.string ⟨#[]⟩), .lit (.int .u64 0)]⟩
def ti14 : TI := ⟨.struct [(0, 1, false), (1, 1, false)], 2, 24, true, [.lit (.string ⟨#[]⟩), .lit (.int .u64 0)]⟩
def ti15 : TI := ⟨.ptr 126, 1, 8, false, [.lit (.pointer none)]⟩
def ti16 : TI := ⟨.ptr 129, 1, 8, false, [.lit (.pointer none)]⟩
def ti17 : TI := ⟨.ptr 139, 1, 8, false, [.lit (.pointer none)]⟩
def ti18 : TI := ⟨.struct [(0, 1, false)], 1, 8, true, [.lit (.pointer none)]⟩
def ti19 : TI := ⟨.struct [(0, 1, false)], 1, 8, true, [.lit (.pointer none)]⟩
def ti20 : TI := ⟨.other, 1, 16, false, [.lit (.nilIface)]⟩
def ti21 : TI := ⟨.int .i32, 1, 4, false, [.lit (.int .i32 0)]⟩
def ti22 : TI := ⟨.slice 58, 1, 24, false, [.sls 64 [] false true]⟩
def ti23 : TI := ⟨.slice 81, 1, 24, false, [.sls 65 [] false true]⟩
def ti24 : TI := ⟨.struct [(0, 1, false), (1, 1, false)], 2, 48, true, [.sls 64 [] false true, .sls 65 [] false true]⟩
def ti25 : TI := ⟨.struct [(0, 1, false), (1, 1, false)], 2, 48, true, [.sls 64 [] false true, .sls 65 [] false true]⟩
def ti26 : TI := ⟨.struct [(0, 2, true), (2, 1, false), (3, 1, false), (4, 1, false)], 5, 56, true, [.sls 64 [] false true, .sls 65 [] false true, .lit (.bool false), .lit (.bool false), .lit (.bool false)]⟩
def ti27 : TI := ⟨.struct [(0, 2, true), (2, 1, false), (3, 1, false), (4, 1, false)], 5, 56, true, [.sls 64 [] false true, .sls 65 [] false true, .lit (.bool false), .lit (.bool false), .lit (.bool false)]⟩
def ti28 : TI := ⟨.slice 30, 1, 24, false, [.sls 3 [] false true]⟩
def ti29 : TI := ⟨.struct [(0, 1, false), (1, 1, false), (2, 1, false)], 3, 24, true, [.lit (.int .i64 0), .lit (.int .i64 0), .lit (.int .i64 0)]⟩
def ti30 : TI := ⟨.struct [(0, 1, false), (1, 1, false), (2, 1, false)], 3, 24, true, [.lit (.int .i64 0), .lit (.int .i64 0), .lit (.int .i64 0)]⟩
def ti31 : TI := ⟨.struct [(0, 5, true), (5, 1, false), (6, 1, false), (7, 3, true)], 10, 112, true, [.sls 64 [] false true, .sls 65 [] false true, .lit (.bool false), .lit (.bool false), .lit (.bool false), .lit (.bool false), .sls 3 [] false true, .lit (.int .i64 0), .lit (.int .i64 0), .lit (.int .i64 0)]⟩
def ti32 : TI := ⟨.struct [(0, 5, true), (5, 1, false), (6, 1, false), (7, 3, true)], 10, 112, true, [.sls 64 [] false true, .sls 65 [] false true, .lit (.bool false), .lit (.bool false), .lit (.bool false), .lit (.bool false), .sls 3 [] false true, .lit (.int .i64 0), .lit (.int .i64 0), .lit (.int .i64 0)]⟩
def ti33 : TI := ⟨.int .u64, 1, 8, false, [.lit (.int .u64 0)]⟩
def ti34 : TI := ⟨.struct [(0, 1, false), (1, 1, false), (2, 1, false), (3, 1, false), (4, 1, false)], 5, 40, true, [.lit (.int .i64 0), .lit (.int .u64 0), .lit (.int .i64 0), .lit (.int .i64 0), .lit (.int .i64 0)]⟩
def ti35 : TI := ⟨.struct [(0, 1, false), (1, 1, false), (2, 1, false), (3, 1, false), (4, 1, false)], 5, 40, true, [.lit (.int .i64 0), .lit (.int .u64 0), .lit (.int .i64 0), .lit (.int .i64 0), .lit (.int .i64 0)]⟩
def ti36 : TI := ⟨.slice 5, 1, 24, false, [.sls 1 [] false true]⟩
def ti37 : TI := ⟨.struct [(0, 5, true), (5, 1, false), (6, 1, false), (7, 1, false), (8, 3, true)], 11, 104, true, [.lit (.int .i64 0), .lit (.int .u64 0), .lit (.int .i64 0), .lit (.int .i64 0), .lit (.int .i64 0), .lit (.int .i64 0), .lit (.int .i64 0), .sls 1 [] false true, .lit (.int .i64 0), .lit (.int .i64 0), .lit (.int .i64 0)]⟩
def ti38 : TI := ⟨.struct [(0, 5, true), (5, 1, false), (6, 1, false), (7, 1, false), (8, 3, true)], 11, 104, true, [.lit (.int .i64 0), .lit (.int .u64 0), .lit (.int .i64 0), .lit (.int .i64 0), .lit (.int .i64 0), .lit (.int .i64 0), .lit (.int .i64 0), .sls 1 [] false true, .lit (.int .i64 0), .lit (.int .i64 0), .lit (.int .i64 0)]⟩
def ti39 : TI := ⟨.other, 1, 8, false, [.lit (.nilFunc)]⟩
def ti40 : TI := ⟨.other, 1, 8, false, [.lit (.nilFunc)]⟩
def ti41 : TI := ⟨.other, 1, 8, false, [.lit (.nilFunc)]⟩
def ti43 : TI := ⟨.other, 1, 8, false, [.lit (.nilFunc)]⟩
def ti45 : TI := ⟨.other, 1, 8, false, [.lit (.nilFunc)]⟩
def ti46 : TI := ⟨.other, 1, 8, false, [.lit (.nilFunc)]⟩
def ti47 : TI := ⟨.other, 1, 8, false, [.lit (.nilFunc)]⟩
def ti48 : TI := ⟨.other, 1, 8, false, [.lit (.nilFunc)]⟩
def ti50 : TI := ⟨.other, 1, 8, false, [.lit (.nilFunc)]⟩
def ti51 : TI := ⟨.other, 1, 8, false, [.lit (.nilFunc)]⟩
def ti52 : TI := ⟨.slice 36, 1, 24, false, [.sls 1 [] false true]⟩
def ti53 : TI := ⟨.other, 1, 8, false, [.lit (.nilFunc)]⟩
def ti54 : TI := ⟨.other, 1, 8, false, [.lit (.nilFunc)]⟩
def ti55 : TI := ⟨.other, 1, 8, false, [.lit (.nilFunc)]⟩
def ti56 : TI := ⟨.other, 1, 8, false, [.lit (.nilFunc)]⟩
def ti57 : TI := ⟨.arr 64 5, 64, 64, true, List.replicate 64 (.lit (.int .u8 0))⟩
def ti58 : TI := ⟨.arr 64 5, 64, 64, true, List.replicate 64 (.lit (.int .u8 0))⟩
def ti59 : TI := ⟨.other, 1, 8, false, [.lit (.nilFunc)]⟩
def ti60 : TI := ⟨.other, 1, 8, false, [.lit (.nilFunc)]⟩
def ti61 : TI := ⟨.other, 1, 8, false, [.lit (.nilFunc)]⟩
def ti62 : TI := ⟨.other, 1, 8, false, [.lit (.nilFunc)]⟩
def ti63 : TI := ⟨.other, 1, 8, false, [.lit (.nilFunc)]⟩
def ti64 : TI := ⟨.other, 1, 8, false, [.lit (.nilFunc)]⟩
def ti65 : TI := ⟨.other, 1, 8, false, [.lit (.nilFunc)]⟩
def ti66 : TI := ⟨.ptr 68, 1, 8, false, [.lit (.pointer none)]⟩
def ti67 : TI := ⟨.struct [(0, 10, true), (10, 11, true)], 21, 216, true, [.sls 64 [] false true, .sls 65 [] false true, .lit (.bool false), .lit (.bool false), .lit (.bool false), .lit (.bool false), .sls 3 [] false true, .lit (.int .i64 0), .lit (.int .i64 0), .lit (.int .i64 0), .lit (.int .i64 0), .lit (.int .u64 0), .lit (.int .i64 0), .lit (.int .i64 0), .lit (.int .i64 0), .lit (.int .i64 0), .lit (.int .i64 0), .sls 1 [] false true, .lit (.int .i64 0), .lit (.int .i64 0), .lit (.int .i64 0)]⟩
def ti68 : TI := ⟨.struct [(0, 10, true), (10, 11, true)], 21, 216, true, [.sls 64 [] false true, .sls 65 [] false true, .lit (.bool false), .lit (.bool false), .lit (.bool false), .lit (.bool false), .sls 3 [] false true, .lit (.int .i64 0), .lit (.int .i64 0), .lit (.int .i64 0), .lit (.int .i64 0), .lit (.int .u64 0), .lit (.int .i64 0), .lit (.int .i64 0), .lit (.int .i64 0), .lit (.int .i64 0), .lit (.int .i64 0), .sls 1 [] false true, .lit (.int .i64 0), .lit (.int .i64 0), .lit (.int .i64 0)]⟩
def ti69 : TI := ⟨.other, 1, 8, false, [.lit (.nilFunc)]⟩
def ti70 : TI := ⟨.other, 1, 8, false, [.lit (.nilFunc)]⟩
def ti71 : TI := ⟨.other, 1, 8, false, [.lit (.nilFunc)]⟩
def ti72 : TI := ⟨.other, 1, 8, false, [.lit (.nilFunc)]⟩
def ti73 : TI := ⟨.other, 1, 8, false, [.lit (.nilFunc)]⟩
def ti74 : TI := ⟨.other, 1, 8, false, [.lit (.nilFunc)]⟩
def ti76 : TI := ⟨.other, 1, 8, false, [.lit (.nilFunc)]⟩
def ti77 : TI := ⟨.other, 1, 8, false, [.lit (.nilFunc)]⟩
def ti78 : TI := ⟨.other, 1, 8, false, [.lit (.nilFunc)]⟩
def ti79 : TI := ⟨.other, 1, 8, false, [.lit (.nilFunc)]⟩
def ti80 : TI := ⟨.struct [(0, 1, false), (1, 64, true)], 65, 72, true, [.lit (.int .i64 0), .lit (.int .u8 0), .lit (.int .u8 0), .lit (.int .u8 0), .lit (.int .u8 0), .lit (.int .u8 0), .lit (.int .u8 0), .lit (.int .u8 0), .lit (.int .u8 0), .lit (.int .u8 0), .lit (.int .u8 0), .lit (.int .u8 0), .lit (.int .u8 0), .lit (.int .u8 0), .lit (.int .u8 0), .lit (.int .u8 0), .lit (.int .u8 0), .lit (.int .u8 0), .lit (.int .u8 0), .lit (.int .u8 0), .lit (.int .u8 0), .lit (.int .u8 0), .lit (.int .u8 0), .lit (.int .u8 0), .lit (.int .u8 0), .lit (.int .u8 0), .lit (.int .u8 0), .lit (.int .u8 0), .lit (.int .u8 0), .lit (.int .u8 0), .lit (.int .u8 0), .lit (.int .u8 0), .lit (.int .u8 0), .lit (.int .u8 0), .lit (.int .u8 0), .lit (.int .u8 0), .lit (.int .u8 0), .lit (.int .u8 0), .lit (.int .u8 0), .lit (.int .u8 0), .lit (.int .u8 0), .lit (.int .u8 0), .lit (.int .u8 0), .lit (.int .u8 0), .lit (.int .u8 0), .lit (.int .u8 0), .lit (.int .u8 0), .lit (.int .u8 0), .lit (.int .u8 0), .lit (.int .u8 0), .lit (.int .u8 0), .lit (.int .u8 0), .lit (.int .u8 0), .lit (.int .u8 0), .lit (.int .u8 0), .lit (.int .u8 0), .lit (.int .u8 0), .lit (.int .u8 0), .lit (.int .u8 0), .lit (.int .u8 0), .lit (.int .u8 0), .lit (.int .u8 0), .lit (.int .u8 0), .lit (.int .u8 0), .lit (.int .u8 0)]⟩
def ti81 : TI := ⟨.struct [(0, 1, false), (1, 64, true)], 65, 72, true, [.lit (.int .i64 0), .lit (.int .u8 0), .lit (.int .u8 0), .lit (.int .u8 0), .lit (.int .u8 0), .lit (.int .u8 0), .lit (.int .u8 0), .lit (.int .u8 0), .lit (.int .u8 0), .lit (.int .u8 0), .lit (.int .u8 0), .lit (.int .u8 0), .lit (.int .u8 0), .lit (.int .u8 0), .lit (.int .u8 0), .lit (.int .u8 0), .lit (.int .u8 0), .lit (.int .u8 0), .lit (.int .u8 0), .lit (.int .u8 0), .lit (.int .u8 0), .lit (.int .u8 0), .lit (.int .u8 0), .lit (.int .u8 0), .lit (.int .u8 0), .lit (.int .u8 0), .lit (.int .u8 0), .lit (.int .u8 0), .lit (.int .u8 0), .lit (.int .u8 0), .lit (.int .u8 0), .lit (.int .u8 0), .lit (.int .u8 0), .lit (.int .u8 0), .lit (.int .u8 0), .lit (.int .u8 0), .lit (.int .u8 0), .lit (.int .u8 0), .lit (.int .u8 0), .lit (.int .u8 0), .lit (.int .u8 0), .lit (.int .u8 0), .lit (.int .u8 0), .lit (.int .u8 0), .lit (.int .u8 0), .lit (.int .u8 0), .lit (.int .u8 0), .lit (.int .u8 0), .lit (.int .u8 0), .lit (.int .u8 0), .lit (.int .u8 0), .lit (.int .u8 0), .lit (.int .u8 0), .lit (.int .u8 0), .lit (.int .u8 0), .lit (.int .u8 0), .lit (.int .u8 0), .lit (.int .u8 0), .lit (.int .u8 0), .lit (.int .u8 0), .lit (.int .u8 0), .lit (.int .u8 0), .lit (.int .u8 0), .lit (.int .u8 0), .lit (.int .u8 0)]⟩
def ti82 : TI := ⟨.other, 1, 8, false, [.lit (.nilFunc)]⟩
def ti83 : TI := ⟨.other, 1, 8, false, [.lit (.nilFunc)]⟩
def ti84 : TI := ⟨.other, 1, 8, false, [.lit (.nilFunc)]⟩
def ti86 : TI := ⟨.other, 1, 8, false, [.lit (.nilFunc)]⟩
def ti87 : TI := ⟨.other, 1, 8, false, [.lit (.nilFunc)]⟩
def ti89 : TI := ⟨.other, 1, 8, false, [.lit (.nilFunc)]⟩
def ti90 : TI := ⟨.other, 1, 8, false, [.lit (.nilFunc)]⟩
def ti91 : TI := ⟨.other, 1, 8, false, [.lit (.nilFunc)]⟩
def ti93 : TI := ⟨.other, 1, 8, false, [.lit (.nilFunc)]⟩
def ti95 : TI := ⟨.other, 1, 8, false, [.lit (.nilFunc)]⟩
def ti96 : TI := ⟨.other, 1, 8, false, [.lit (.nilFunc)]⟩
def ti97 : TI := ⟨.other, 1, 8, false, [.lit (.nilFunc)]⟩
def ti98 : TI := ⟨.int .i64, 1, 8, false, [.lit (.int .i64 0)]⟩
def ti100 : TI := ⟨.other, 1, 8, false, [.lit (.nilFunc)]⟩
def ti102 : TI := ⟨.other, 1, 8, false, [.lit (.nilFunc)]⟩
def ti103 : TI := ⟨.other, 1, 8, false, [.lit (.nilFunc)]⟩
def ti104 : TI := ⟨.other, 1, 8, false, [.lit (.nilFunc)]⟩
def ti106 : TI := ⟨.other, 1, 8, false, [.lit (.nilFunc)]⟩
def ti107 : TI := ⟨.other, 1, 8, false, [.lit (.nilFunc)]⟩
def ti108 : TI := ⟨.other, 1, 8, false, [.lit (.nilFunc)]⟩
def ti109 : TI := ⟨.other, 1, 8, false, [.lit (.nilFunc)]⟩
def ti110 : TI := ⟨.other, 1, 8, false, [.lit (.nilFunc)]⟩
def ti111 : TI := ⟨.other, 1, 8, false, [.lit (.nilFunc)]⟩
def ti113 : TI := ⟨.other, 1, 8, false, [.lit (.nilFunc)]⟩
def ti114 : TI := ⟨.other, 1, 8, false, [.lit (.nilFunc)]⟩
def ti115 : TI := ⟨.other, 1, 8, false, [.lit (.nilFunc)]⟩
def ti116 : TI := ⟨.other, 1, 8, false, [.lit (.nilFunc)]⟩
def ti117 : TI := ⟨.other, 1, 8, false, [.lit (.nilFunc)]⟩
def ti118 : TI := ⟨.int .u64, 1, 8, false, [.lit (.int .u64 0)]⟩
def ti119 : TI := ⟨.other, 1, 8, false, [.lit (.nilFunc)]⟩
def ti120 : TI := ⟨.other, 1, 8, false, [.lit (.nilFunc)]⟩
def ti121 : TI := ⟨.other, 1, 8, false, [.lit (.nilFunc)]⟩
def ti122 : TI := ⟨.other, 1, 8, false, [.lit (.nilFunc)]⟩
def ti123 : TI := ⟨.other, 1, 8, false, [.lit (.nilFunc)]⟩
def ti124 : TI := ⟨.other, 1, 8, false, [.lit (.nilFunc)]⟩
def ti125 : TI := ⟨.struct [(0, 1, false), (1, 1, false), (2, 1, false), (3, 1, false)], 4, 40, true, [.lit (.pointer none), .lit (.pointer none), .lit (.pointer none), .lit (.string ⟨#[]⟩)]⟩
def ti126 : TI := ⟨.struct [(0, 1, false), (1, 1, false), (2, 1, false), (3, 1, false)], 4, 40, true, [.lit (.pointer none), .lit (.pointer none), .lit (.pointer none), .lit (.string ⟨#[]⟩)]⟩
def ti130 : TI := ⟨.other, 1, 8, false, [.lit (.nilFunc)]⟩
def ti131 : TI := ⟨.int .u32, 1, 4, false, [.lit (.int .u32 0)]⟩
def ti132 : TI := ⟨.int .u8, 1, 1, false, [.lit (.int .u8 0)]⟩
def ti133 : TI := ⟨.int .u8, 1, 1, false, [.lit (.int .u8 0)]⟩
def ti134 : TI := ⟨.other, 1, 8, false, [.lit (.nilFunc)]⟩
def ti135 : TI := ⟨.ptr 5, 1, 8, false, [.lit (.pointer none)]⟩
def ti136 : TI := ⟨.int .i32, 1, 4, false, [.lit (.int .i32 0)]⟩
def ti137 : TI := ⟨.int .i32, 1, 4, false, [.lit (.int .i32 0)]⟩
def ti138 : TI := ⟨.struct [(0, 1, false), (1, 1, false), (2, 1, false), (3, 1, false), (4, 1, false), (5, 1, false), (6, 1, false), (7, 1, false), (8, 1, false), (9, 1, false), (10, 1, false)], 11, 48, true, [.lit (.int .u64 0), .lit (.int .u64 0), .lit (.int .u32 0), .lit (.int .u8 0), .lit (.int .u8 0), .lit (.int .u8 0), .lit (.int .u8 0), .lit (.nilFunc), .lit (.pointer none), .lit (.int .i32 0), .lit (.int .i32 0)]⟩
def ti139 : TI := ⟨.struct [(0, 1, false), (1, 1, false), (2, 1, false), (3, 1, false), (4, 1, false), (5, 1, false), (6, 1, false), (7, 1, false), (8, 1, false), (9, 1, false), (10, 1, false)], 11, 48, true, [.lit (.int .u64 0), .lit (.int .u64 0), .lit (.int .u32 0), .lit (.int .u8 0), .lit (.int .u8 0), .lit (.int .u8 0), .lit (.int .u8 0), .lit (.nilFunc), .lit (.pointer none), .lit (.int .i32 0), .lit (.int .i32 0)]⟩
def ti140 : TI := ⟨.other, 1, 8, false, [.lit (.pointer none)]⟩
def tabL : List (Option TI) := [none, some ti1, some ti2, some ti3, some ti4, some ti5, some ti6, some ti7, some ti8, some ti9, some ti10, some ti11, some ti12, some ti13, some ti14, some ti15, some ti16, some ti17, some ti18, some ti19, some ti20, some ti21, some ti22, some ti23, some ti24, some ti25, some ti26, some ti27, some ti28, some ti29, some ti30, some ti31, some ti32, some ti33, some ti34, some ti35, some ti36, some ti37, some ti38, some ti39, some ti40, some ti41, none, some ti43, none, some ti45, some ti46, some ti47, some ti48, none, some ti50, some ti51, some ti52, some ti53, some ti54, some ti55, some ti56, some ti57, some ti58, some ti59, some ti60, some ti61, some ti62, some ti63, some ti64, some ti65, some ti66, some ti67, some ti68, some ti69, some ti70, some ti71, some ti72, some ti73, some ti74, none, some ti76, some ti77, some ti78, some ti79, some ti80, some ti81, some ti82, some ti83, some ti84, none, some ti86, some ti87, none, some ti89, some ti90, some ti91, none, some ti93, none, some ti95, some ti96, some ti97, some ti98, none, some ti100, none, some ti102, some ti103, some ti104, none, some ti106, some ti107, some ti108, some ti109, some ti110, some ti111, none, some ti113, some ti114, some ti115, some ti116, some ti117, some ti118, some ti119, some ti120, some ti121, some ti122, some ti123, some ti124, some ti125, some ti126, none, none, none, some ti130, some ti131, some ti132, some ti133, some ti134, some ti135, some ti136, some ti137, some ti138, some ti139, some ti140]
def tab : TT := fun t => tabL.getD t none
theorem tabOk : TOk Try.prog tab := tab_ok (n := 141) (fun t h => by simp only [tab, List.getD]; rw [List.getElem?_eq_none (by simpa [tabL] using h)]; rfl) (by kernel_rfl)
theorem T1 : tab 1 = some ti1 := rfl
theorem T2 : tab 2 = some ti2 := rfl
theorem T3 : tab 3 = some ti3 := rfl
theorem T4 : tab 4 = some ti4 := rfl
theorem T5 : tab 5 = some ti5 := rfl
theorem T6 : tab 6 = some ti6 := rfl
theorem T7 : tab 7 = some ti7 := rfl
theorem T8 : tab 8 = some ti8 := rfl
theorem T9 : tab 9 = some ti9 := rfl
theorem T10 : tab 10 = some ti10 := rfl
theorem T11 : tab 11 = some ti11 := rfl
theorem T12 : tab 12 = some ti12 := rfl
theorem T13 : tab 13 = some ti13 := rfl
theorem T14 : tab 14 = some ti14 := rfl
theorem T15 : tab 15 = some ti15 := rfl
theorem T16 : tab 16 = some ti16 := rfl
theorem T17 : tab 17 = some ti17 := rfl
theorem T18 : tab 18 = some ti18 := rfl
theorem T19 : tab 19 = some ti19 := rfl
theorem T20 : tab 20 = some ti20 := rfl
theorem T21 : tab 21 = some ti21 := rfl
theorem T22 : tab 22 = some ti22 := rfl
theorem T23 : tab 23 = some ti23 := rfl
theorem T24 : tab 24 = some ti24 := rfl
theorem T25 : tab 25 = some ti25 := rfl
theorem T26 : tab 26 = some ti26 := rfl
theorem T27 : tab 27 = some ti27 := rfl
theorem T28 : tab 28 = some ti28 := rfl
theorem T29 : tab 29 = some ti29 := rfl
theorem T30 : tab 30 = some ti30 := rfl
theorem T31 : tab 31 = some ti31 := rfl
theorem T32 : tab 32 = some ti32 := rfl
theorem T33 : tab 33 = some ti33 := rfl
theorem T34 : tab 34 = some ti34 := rfl
theorem T35 : tab 35 = some ti35 := rfl
theorem T36 : tab 36 = some ti36 := rfl
theorem T37 : tab 37 = some ti37 := rfl
theorem T38 : tab 38 = some ti38 := rfl
theorem T39 : tab 39 = some ti39 := rfl
theorem T40 : tab 40 = some ti40 := rfl
theorem T41 : tab 41 = some ti41 := rfl
theorem T43 : tab 43 = some ti43 := rfl
theorem T45 : tab 45 = some ti45 := rfl
theorem T46 : tab 46 = some ti46 := rfl
theorem T47 : tab 47 = some ti47 := rfl
theorem T48 : tab 48 = some ti48 := rfl
theorem T50 : tab 50 = some ti50 := rfl
theorem T51 : tab 51 = some ti51 := rfl
theorem T52 : tab 52 = some ti52 := rfl
theorem T53 : tab 53 = some ti53 := rfl
theorem T54 : tab 54 = some ti54 := rfl
theorem T55 : tab 55 = some ti55 := rfl
theorem T56 : tab 56 = some ti56 := rfl
theorem T57 : tab 57 = some ti57 := rfl
theorem T58 : tab 58 = some ti58 := rfl
theorem T59 : tab 59 = some ti59 := rfl
theorem T60 : tab 60 = some ti60 := rfl
theorem T61 : tab 61 = some ti61 := rfl
theorem T62 : tab 62 = some ti62 := rfl
theorem T63 : tab 63 = some ti63 := rfl
theorem T64 : tab 64 = some ti64 := rfl
theorem T65 : tab 65 = some ti65 := rfl
theorem T66 : tab 66 = some ti66 := rfl
theorem T67 : tab 67 = some ti67 := rfl
theorem T68 : tab 68 = some ti68 := rfl
theorem T69 : tab 69 = some ti69 := rfl
theorem T70 : tab 70 = some ti70 := rfl
theorem T71 : tab 71 = some ti71 := rfl
theorem T72 : tab 72 = some ti72 := rfl
theorem T73 : tab 73 = some ti73 := rfl
theorem T74 : tab 74 = some ti74 := rfl
theorem T76 : tab 76 = some ti76 := rfl
theorem T77 : tab 77 = some ti77 := rfl
theorem T78 : tab 78 = some ti78 := rfl
theorem T79 : tab 79 = some ti79 := rfl
theorem T80 : tab 80 = some ti80 := rfl
theorem T81 : tab 81 = some ti81 := rfl
theorem T82 : tab 82 = some ti82 := rfl
theorem T83 : tab 83 = some ti83 := rfl
theorem T84 : tab 84 = some ti84 := rfl
theorem T86 : tab 86 = some ti86 := rfl
theorem T87 : tab 87 = some ti87 := rfl
theorem T89 : tab 89 = some ti89 := rfl
theorem T90 : tab 90 = some ti90 := rfl
theorem T91 : tab 91 = some ti91 := rfl
theorem T93 : tab 93 = some ti93 := rfl
theorem T95 : tab 95 = some ti95 := rfl
theorem T96 : tab 96 = some ti96 := rfl
theorem T97 : tab 97 = some ti97 := rfl
theorem T98 : tab 98 = some ti98 := rfl
theorem T100 : tab 100 = some ti100 := rfl
theorem T102 : tab 102 = some ti102 := rfl
theorem T103 : tab 103 = some ti103 := rfl
theorem T104 : tab 104 = some ti104 := rfl
theorem T106 : tab 106 = some ti106 := rfl
theorem T107 : tab 107 = some ti107 := rfl
theorem T108 : tab 108 = some ti108 := rfl
theorem T109 : tab 109 = some ti109 := rfl
theorem T110 : tab 110 = some ti110 := rfl
theorem T111 : tab 111 = some ti111 := rfl
theorem T113 : tab 113 = some ti113 := rfl
theorem T114 : tab 114 = some ti114 := rfl
theorem T115 : tab 115 = some ti115 := rfl
theorem T116 : tab 116 = some ti116 := rfl
theorem T117 : tab 117 = some ti117 := rfl
theorem T118 : tab 118 = some ti118 := rfl
theorem T119 : tab 119 = some ti119 := rfl
theorem T120 : tab 120 = some ti120 := rfl
theorem T121 : tab 121 = some ti121 := rfl
theorem T122 : tab 122 = some ti122 := rfl
theorem T123 : tab 123 = some ti123 := rfl
theorem T124 : tab 124 = some ti124 := rfl
theorem T125 : tab 125 = some ti125 := rfl
theorem T126 : tab 126 = some ti126 := rfl
theorem T130 : tab 130 = some ti130 := rfl
theorem T131 : tab 131 = some ti131 := rfl
theorem T132 : tab 132 = some ti132 := rfl
theorem T133 : tab 133 = some ti133 := rfl
theorem T134 : tab 134 = some ti134 := rfl
theorem T135 : tab 135 = some ti135 := rfl
theorem T136 : tab 136 = some ti136 := rfl
theorem T137 : tab 137 = some ti137 := rfl
theorem T138 : tab 138 = some ti138 := rfl
theorem T139 : tab 139 = some ti139 := rfl
theorem T140 : tab 140 = some ti140 := rfl
end Go.Proofs.Ytbieiehfohldjaa
