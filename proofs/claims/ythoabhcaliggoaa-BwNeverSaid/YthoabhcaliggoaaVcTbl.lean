/- The types' table of this seat, off the loaded program. -/
import Derived.Test.YthoabhcaliggoaaVcOps
import Derived.Test.YthoabhcaliggoaaProg
import Derived.KernelRfl
namespace Go.Proofs.Ythoabhcaliggoaa
open Go.Vc
def tb : List (Nat × TI) := [
  (1, ⟨(Go.TypeDesc.func #[] #[] false), 1, 8, Go.Value.nilFunc⟩),
  (2, ⟨(Go.TypeDesc.int Go.IntKind.i64), 1, 8, (Go.Value.int Go.IntKind.i64 0)⟩),
  (3, ⟨(Go.TypeDesc.int Go.IntKind.i64), 1, 8, (Go.Value.int Go.IntKind.i64 0)⟩),
  (4, ⟨Go.TypeDesc.bool, 1, 1, (Go.Value.bool false)⟩),
  (5, ⟨(Go.TypeDesc.int Go.IntKind.u8), 1, 1, (Go.Value.int Go.IntKind.u8 0)⟩),
  (6, ⟨(Go.TypeDesc.int Go.IntKind.u8), 1, 1, (Go.Value.int Go.IntKind.u8 0)⟩),
  (7, ⟨(Go.TypeDesc.struct #[{ name := "x", type := 2, offset := 0, embedded := false, tag := "", pkgPath := "runtime", byteOffset := 0 }, { name := "y", type := 3, offset := 1, embedded := false, tag := "", pkgPath := "runtime", byteOffset := 8 }, { name := "signed", type := 4, offset := 2, embedded := false, tag := "", pkgPath := "runtime", byteOffset := 16 }, { name := "code", type := 6, offset := 3, embedded := false, tag := "", pkgPath := "runtime", byteOffset := 17 }]), 4, 24, (Go.Value.agg #[(Go.Value.int Go.IntKind.i64 0), (Go.Value.int Go.IntKind.i64 0), (Go.Value.bool false), (Go.Value.int Go.IntKind.u8 0)])⟩),
  (8, ⟨(Go.TypeDesc.struct #[{ name := "x", type := 2, offset := 0, embedded := false, tag := "", pkgPath := "runtime", byteOffset := 0 }, { name := "y", type := 3, offset := 1, embedded := false, tag := "", pkgPath := "runtime", byteOffset := 8 }, { name := "signed", type := 4, offset := 2, embedded := false, tag := "", pkgPath := "runtime", byteOffset := 16 }, { name := "code", type := 6, offset := 3, embedded := false, tag := "", pkgPath := "runtime", byteOffset := 17 }]), 4, 24, (Go.Value.agg #[(Go.Value.int Go.IntKind.i64 0), (Go.Value.int Go.IntKind.i64 0), (Go.Value.bool false), (Go.Value.int Go.IntKind.u8 0)])⟩),
  (9, ⟨Go.TypeDesc.string, 1, 16, (Go.Value.string { data := #[] })⟩),
  (10, ⟨Go.TypeDesc.string, 1, 16, (Go.Value.string { data := #[] })⟩),
  (11, ⟨Go.TypeDesc.string, 1, 16, (Go.Value.string { data := #[] })⟩),
  (12, ⟨(Go.TypeDesc.int Go.IntKind.u64), 1, 8, (Go.Value.int Go.IntKind.u64 0)⟩),
  (13, ⟨(Go.TypeDesc.struct #[{ name := "msg", type := 9, offset := 0, embedded := false, tag := "", pkgPath := "runtime", byteOffset := 0 }, { name := "addr", type := 12, offset := 1, embedded := false, tag := "", pkgPath := "runtime", byteOffset := 16 }]), 2, 24, (Go.Value.agg #[(Go.Value.string { data := #[] }), (Go.Value.int Go.IntKind.u64 0)])⟩),
  (14, ⟨(Go.TypeDesc.struct #[{ name := "msg", type := 9, offset := 0, embedded := false, tag := "", pkgPath := "runtime", byteOffset := 0 }, { name := "addr", type := 12, offset := 1, embedded := false, tag := "", pkgPath := "runtime", byteOffset := 16 }]), 2, 24, (Go.Value.agg #[(Go.Value.string { data := #[] }), (Go.Value.int Go.IntKind.u64 0)])⟩),
  (15, ⟨(Go.TypeDesc.pointer 103), 1, 8, (Go.Value.pointer none)⟩),
  (16, ⟨(Go.TypeDesc.pointer 106), 1, 8, (Go.Value.pointer none)⟩),
  (17, ⟨(Go.TypeDesc.pointer 116), 1, 8, (Go.Value.pointer none)⟩),
  (18, ⟨(Go.TypeDesc.struct #[{ name := "typ", type := 17, offset := 0, embedded := false, tag := "", pkgPath := "internal/runtime/maps", byteOffset := 0 }]), 1, 8, (Go.Value.agg #[(Go.Value.pointer none)])⟩),
  (19, ⟨(Go.TypeDesc.struct #[{ name := "typ", type := 17, offset := 0, embedded := false, tag := "", pkgPath := "internal/runtime/maps", byteOffset := 0 }]), 1, 8, (Go.Value.agg #[(Go.Value.pointer none)])⟩),
  (20, ⟨(Go.TypeDesc.interface #[]), 1, 16, Go.Value.nilIface⟩),
  (21, ⟨(Go.TypeDesc.int Go.IntKind.i32), 1, 4, (Go.Value.int Go.IntKind.i32 0)⟩),
  (22, ⟨(Go.TypeDesc.slice 23), 1, 24, (Go.Value.slice none 0 0)⟩),
  (23, ⟨(Go.TypeDesc.slice 5), 1, 24, (Go.Value.slice none 0 0)⟩),
  (24, ⟨(Go.TypeDesc.func #[22] #[4] false), 1, 8, Go.Value.nilFunc⟩),
  (25, ⟨(Go.TypeDesc.func #[] #[4] false), 1, 8, Go.Value.nilFunc⟩),
  (27, ⟨(Go.TypeDesc.func #[28, 22, 23] #[23, 4] false), 1, 8, Go.Value.nilFunc⟩),
  (28, ⟨(Go.TypeDesc.pointer 75), 1, 8, (Go.Value.pointer none)⟩),
  (29, ⟨(Go.TypeDesc.func #[] #[28] false), 1, 8, Go.Value.nilFunc⟩),
  (30, ⟨(Go.TypeDesc.slice 3), 1, 24, (Go.Value.slice none 0 0)⟩),
  (32, ⟨(Go.TypeDesc.func #[22] #[22, 30] false), 1, 8, Go.Value.nilFunc⟩),
  (33, ⟨(Go.TypeDesc.func #[22, 23] #[22] false), 1, 8, Go.Value.nilFunc⟩),
  (34, ⟨(Go.TypeDesc.func #[5, 5] #[5] false), 1, 8, Go.Value.nilFunc⟩),
  (35, ⟨(Go.TypeDesc.func #[22, 23] #[4] false), 1, 8, Go.Value.nilFunc⟩),
  (36, ⟨(Go.TypeDesc.func #[28, 22] #[3] false), 1, 8, Go.Value.nilFunc⟩),
  (37, ⟨(Go.TypeDesc.func #[23, 23] #[4] false), 1, 8, Go.Value.nilFunc⟩),
  (38, ⟨(Go.TypeDesc.func #[22, 23, 23] #[4] false), 1, 8, Go.Value.nilFunc⟩),
  (39, ⟨(Go.TypeDesc.func #[23] #[3] false), 1, 8, Go.Value.nilFunc⟩),
  (40, ⟨(Go.TypeDesc.func #[23] #[23] false), 1, 8, Go.Value.nilFunc⟩),
  (41, ⟨(Go.TypeDesc.func #[28, 23, 5] #[5] false), 1, 8, Go.Value.nilFunc⟩),
  (42, ⟨(Go.TypeDesc.func #[23, 5] #[5] false), 1, 8, Go.Value.nilFunc⟩),
  (43, ⟨(Go.TypeDesc.func #[23, 5] #[4] false), 1, 8, Go.Value.nilFunc⟩),
  (44, ⟨(Go.TypeDesc.func #[22] #[4] true), 1, 8, Go.Value.nilFunc⟩),
  (45, ⟨(Go.TypeDesc.func #[23, 23] #[23] false), 1, 8, Go.Value.nilFunc⟩),
  (46, ⟨(Go.TypeDesc.func #[28, 23, 23] #[23] false), 1, 8, Go.Value.nilFunc⟩),
  (48, ⟨(Go.TypeDesc.func #[28, 23, 23] #[23, 23, 4] false), 1, 8, Go.Value.nilFunc⟩),
  (49, ⟨(Go.TypeDesc.func #[28, 23, 23] #[23, 4] false), 1, 8, Go.Value.nilFunc⟩),
  (50, ⟨(Go.TypeDesc.func #[28, 23] #[23] false), 1, 8, Go.Value.nilFunc⟩),
  (51, ⟨(Go.TypeDesc.func #[23] #[4] false), 1, 8, Go.Value.nilFunc⟩),
  (52, ⟨(Go.TypeDesc.func #[23, 23, 23] #[3] false), 1, 8, Go.Value.nilFunc⟩),
  (53, ⟨(Go.TypeDesc.func #[23] #[] false), 1, 8, Go.Value.nilFunc⟩),
  (54, ⟨(Go.TypeDesc.func #[23, 23, 23, 5] #[4] false), 1, 8, Go.Value.nilFunc⟩),
  (55, ⟨(Go.TypeDesc.func #[28, 23, 23, 3] #[23, 4] false), 1, 8, Go.Value.nilFunc⟩),
  (56, ⟨(Go.TypeDesc.func #[23, 23, 3] #[4] false), 1, 8, Go.Value.nilFunc⟩),
  (57, ⟨(Go.TypeDesc.func #[23, 23, 23] #[4] false), 1, 8, Go.Value.nilFunc⟩),
  (58, ⟨(Go.TypeDesc.func #[23, 23, 5] #[4] false), 1, 8, Go.Value.nilFunc⟩),
  (60, ⟨(Go.TypeDesc.func #[28, 23, 23, 3, 3] #[23, 30, 4] false), 1, 8, Go.Value.nilFunc⟩),
  (61, ⟨(Go.TypeDesc.func #[23, 23, 3, 3] #[23, 4] false), 1, 8, Go.Value.nilFunc⟩),
  (62, ⟨(Go.TypeDesc.func #[30, 30] #[4] false), 1, 8, Go.Value.nilFunc⟩),
  (63, ⟨(Go.TypeDesc.func #[23, 23, 23] #[30] false), 1, 8, Go.Value.nilFunc⟩),
  (64, ⟨(Go.TypeDesc.func #[23, 23, 3, 3] #[4] false), 1, 8, Go.Value.nilFunc⟩),
  (65, ⟨(Go.TypeDesc.func #[23, 23, 23, 5, 5] #[4] false), 1, 8, Go.Value.nilFunc⟩),
  (66, ⟨(Go.TypeDesc.func #[23, 23, 5, 5] #[4] false), 1, 8, Go.Value.nilFunc⟩),
  (67, ⟨(Go.TypeDesc.pointer 69), 1, 8, (Go.Value.pointer none)⟩),
  (68, ⟨(Go.TypeDesc.struct #[{ name := "f", type := 28, offset := 0, embedded := false, tag := "", pkgPath := "shamrock/solve", byteOffset := 0 }, { name := "rows", type := 22, offset := 1, embedded := false, tag := "", pkgPath := "shamrock/solve", byteOffset := 8 }, { name := "own", type := 30, offset := 2, embedded := false, tag := "", pkgPath := "shamrock/solve", byteOffset := 32 }]), 3, 56, (Go.Value.agg #[(Go.Value.pointer none), (Go.Value.slice none 0 0), (Go.Value.slice none 0 0)])⟩),
  (69, ⟨(Go.TypeDesc.struct #[{ name := "f", type := 28, offset := 0, embedded := false, tag := "", pkgPath := "shamrock/solve", byteOffset := 0 }, { name := "rows", type := 22, offset := 1, embedded := false, tag := "", pkgPath := "shamrock/solve", byteOffset := 8 }, { name := "own", type := 30, offset := 2, embedded := false, tag := "", pkgPath := "shamrock/solve", byteOffset := 32 }]), 3, 56, (Go.Value.agg #[(Go.Value.pointer none), (Go.Value.slice none 0 0), (Go.Value.slice none 0 0)])⟩),
  (70, ⟨(Go.TypeDesc.func #[3] #[] false), 1, 8, Go.Value.nilFunc⟩),
  (71, ⟨(Go.TypeDesc.func #[22, 51] #[4] false), 1, 8, Go.Value.nilFunc⟩),
  (72, ⟨(Go.TypeDesc.array 510 5), 510, 510, (Go.Value.agg (rl [(510, (Go.Value.int Go.IntKind.u8 0))]))⟩),
  (73, ⟨(Go.TypeDesc.array 256 3), 256, 2048, (Go.Value.agg (rl [(256, (Go.Value.int Go.IntKind.i64 0))]))⟩),
  (74, ⟨(Go.TypeDesc.struct #[{ name := "exp", type := 72, offset := 0, embedded := false, tag := "", pkgPath := "shamrock/gf", byteOffset := 0 }, { name := "log", type := 73, offset := 510, embedded := false, tag := "", pkgPath := "shamrock/gf", byteOffset := 512 }]), 766, 2560, (Go.Value.agg (rl [(510, (Go.Value.int Go.IntKind.u8 0)), (256, (Go.Value.int Go.IntKind.i64 0))]))⟩),
  (75, ⟨(Go.TypeDesc.struct #[{ name := "exp", type := 72, offset := 0, embedded := false, tag := "", pkgPath := "shamrock/gf", byteOffset := 0 }, { name := "log", type := 73, offset := 510, embedded := false, tag := "", pkgPath := "shamrock/gf", byteOffset := 512 }]), 766, 2560, (Go.Value.agg (rl [(510, (Go.Value.int Go.IntKind.u8 0)), (256, (Go.Value.int Go.IntKind.i64 0))]))⟩),
  (76, ⟨(Go.TypeDesc.func #[95] #[] false), 1, 8, Go.Value.nilFunc⟩),
  (77, ⟨(Go.TypeDesc.func #[95] #[] false), 1, 8, Go.Value.nilFunc⟩),
  (78, ⟨(Go.TypeDesc.func #[] #[77] false), 1, 8, Go.Value.nilFunc⟩),
  (79, ⟨(Go.TypeDesc.func #[5] #[5] false), 1, 8, Go.Value.nilFunc⟩),
  (80, ⟨(Go.TypeDesc.int Go.IntKind.u64), 1, 8, (Go.Value.int Go.IntKind.u64 0)⟩),
  (81, ⟨(Go.TypeDesc.func #[23] #[77] false), 1, 8, Go.Value.nilFunc⟩),
  (83, ⟨(Go.TypeDesc.func #[5] #[5, 4] false), 1, 8, Go.Value.nilFunc⟩),
  (84, ⟨(Go.TypeDesc.func #[96] #[] false), 1, 8, Go.Value.nilFunc⟩),
  (85, ⟨(Go.TypeDesc.func #[96] #[] false), 1, 8, Go.Value.nilFunc⟩),
  (86, ⟨(Go.TypeDesc.func #[28, 23] #[85] false), 1, 8, Go.Value.nilFunc⟩),
  (87, ⟨(Go.TypeDesc.func #[5, 5] #[5, 4] false), 1, 8, Go.Value.nilFunc⟩),
  (88, ⟨(Go.TypeDesc.func #[3] #[4] false), 1, 8, Go.Value.nilFunc⟩),
  (89, ⟨(Go.TypeDesc.func #[28, 23, 23, 3, 3] #[23, 4] false), 1, 8, Go.Value.nilFunc⟩),
  (90, ⟨(Go.TypeDesc.slice 30), 1, 24, (Go.Value.slice none 0 0)⟩),
  (91, ⟨(Go.TypeDesc.func #[3, 3] #[90] false), 1, 8, Go.Value.nilFunc⟩),
  (92, ⟨(Go.TypeDesc.func #[22, 51] #[3] false), 1, 8, Go.Value.nilFunc⟩),
  (93, ⟨(Go.TypeDesc.func #[3, 5] #[] false), 1, 8, Go.Value.nilFunc⟩),
  (94, ⟨(Go.TypeDesc.func #[3, 3, 5] #[] false), 1, 8, Go.Value.nilFunc⟩),
  (95, ⟨(Go.TypeDesc.func #[3, 5] #[4] false), 1, 8, Go.Value.nilFunc⟩),
  (96, ⟨(Go.TypeDesc.func #[3, 23] #[4] false), 1, 8, Go.Value.nilFunc⟩),
  (97, ⟨(Go.TypeDesc.array 256 4), 256, 256, (Go.Value.agg (rl [(256, (Go.Value.bool false))]))⟩),
  (99, ⟨(Go.TypeDesc.func #[28, 5, 5, 3, 3] #[23, 5] false), 1, 8, Go.Value.nilFunc⟩),
  (100, ⟨(Go.TypeDesc.func #[28, 5, 3] #[77] false), 1, 8, Go.Value.nilFunc⟩),
  (101, ⟨(Go.TypeDesc.func #[] #[9] false), 1, 8, Go.Value.nilFunc⟩),
  (102, ⟨(Go.TypeDesc.struct #[{ name := "_interface", type := 17, offset := 0, embedded := false, tag := "", pkgPath := "runtime", byteOffset := 0 }, { name := "concrete", type := 17, offset := 1, embedded := false, tag := "", pkgPath := "runtime", byteOffset := 8 }, { name := "asserted", type := 17, offset := 2, embedded := false, tag := "", pkgPath := "runtime", byteOffset := 16 }, { name := "missingMethod", type := 9, offset := 3, embedded := false, tag := "", pkgPath := "runtime", byteOffset := 24 }]), 4, 40, (Go.Value.agg #[(Go.Value.pointer none), (Go.Value.pointer none), (Go.Value.pointer none), (Go.Value.string { data := #[] })])⟩),
  (103, ⟨(Go.TypeDesc.struct #[{ name := "_interface", type := 17, offset := 0, embedded := false, tag := "", pkgPath := "runtime", byteOffset := 0 }, { name := "concrete", type := 17, offset := 1, embedded := false, tag := "", pkgPath := "runtime", byteOffset := 8 }, { name := "asserted", type := 17, offset := 2, embedded := false, tag := "", pkgPath := "runtime", byteOffset := 16 }, { name := "missingMethod", type := 9, offset := 3, embedded := false, tag := "", pkgPath := "runtime", byteOffset := 24 }]), 4, 40, (Go.Value.agg #[(Go.Value.pointer none), (Go.Value.pointer none), (Go.Value.pointer none), (Go.Value.string { data := #[] })])⟩),
  (104, ⟨(Go.TypeDesc.array 0 16), 0, 0, (Go.Value.agg #[])⟩),
  (105, ⟨(Go.TypeDesc.struct #[{ name := "_", type := 104, offset := 0, embedded := false, tag := "", pkgPath := "runtime", byteOffset := 0 }]), 0, 0, (Go.Value.agg #[])⟩),
  (106, ⟨(Go.TypeDesc.struct #[{ name := "_", type := 104, offset := 0, embedded := false, tag := "", pkgPath := "runtime", byteOffset := 0 }]), 0, 0, (Go.Value.agg #[])⟩),
  (107, ⟨(Go.TypeDesc.func #[] #[3] false), 1, 8, Go.Value.nilFunc⟩),
  (108, ⟨(Go.TypeDesc.int Go.IntKind.u32), 1, 4, (Go.Value.int Go.IntKind.u32 0)⟩),
  (109, ⟨(Go.TypeDesc.int Go.IntKind.u8), 1, 1, (Go.Value.int Go.IntKind.u8 0)⟩),
  (110, ⟨(Go.TypeDesc.int Go.IntKind.u8), 1, 1, (Go.Value.int Go.IntKind.u8 0)⟩),
  (111, ⟨(Go.TypeDesc.func #[117, 117] #[4] false), 1, 8, Go.Value.nilFunc⟩),
  (112, ⟨(Go.TypeDesc.pointer 5), 1, 8, (Go.Value.pointer none)⟩),
  (113, ⟨(Go.TypeDesc.int Go.IntKind.i32), 1, 4, (Go.Value.int Go.IntKind.i32 0)⟩),
  (114, ⟨(Go.TypeDesc.int Go.IntKind.i32), 1, 4, (Go.Value.int Go.IntKind.i32 0)⟩),
  (115, ⟨(Go.TypeDesc.struct #[{ name := "Size_", type := 12, offset := 0, embedded := false, tag := "", pkgPath := "", byteOffset := 0 }, { name := "PtrBytes", type := 12, offset := 1, embedded := false, tag := "", pkgPath := "", byteOffset := 8 }, { name := "Hash", type := 108, offset := 2, embedded := false, tag := "", pkgPath := "", byteOffset := 16 }, { name := "TFlag", type := 109, offset := 3, embedded := false, tag := "", pkgPath := "", byteOffset := 20 }, { name := "Align_", type := 5, offset := 4, embedded := false, tag := "", pkgPath := "", byteOffset := 21 }, { name := "FieldAlign_", type := 5, offset := 5, embedded := false, tag := "", pkgPath := "", byteOffset := 22 }, { name := "Kind_", type := 110, offset := 6, embedded := false, tag := "", pkgPath := "", byteOffset := 23 }, { name := "Equal", type := 111, offset := 7, embedded := false, tag := "", pkgPath := "", byteOffset := 24 }, { name := "GCData", type := 112, offset := 8, embedded := false, tag := "", pkgPath := "", byteOffset := 32 }, { name := "Str", type := 113, offset := 9, embedded := false, tag := "", pkgPath := "", byteOffset := 40 }, { name := "PtrToThis", type := 114, offset := 10, embedded := false, tag := "", pkgPath := "", byteOffset := 44 }]), 11, 48, (Go.Value.agg #[(Go.Value.int Go.IntKind.u64 0), (Go.Value.int Go.IntKind.u64 0), (Go.Value.int Go.IntKind.u32 0), (Go.Value.int Go.IntKind.u8 0), (Go.Value.int Go.IntKind.u8 0), (Go.Value.int Go.IntKind.u8 0), (Go.Value.int Go.IntKind.u8 0), Go.Value.nilFunc, (Go.Value.pointer none), (Go.Value.int Go.IntKind.i32 0), (Go.Value.int Go.IntKind.i32 0)])⟩),
  (116, ⟨(Go.TypeDesc.struct #[{ name := "Size_", type := 12, offset := 0, embedded := false, tag := "", pkgPath := "", byteOffset := 0 }, { name := "PtrBytes", type := 12, offset := 1, embedded := false, tag := "", pkgPath := "", byteOffset := 8 }, { name := "Hash", type := 108, offset := 2, embedded := false, tag := "", pkgPath := "", byteOffset := 16 }, { name := "TFlag", type := 109, offset := 3, embedded := false, tag := "", pkgPath := "", byteOffset := 20 }, { name := "Align_", type := 5, offset := 4, embedded := false, tag := "", pkgPath := "", byteOffset := 21 }, { name := "FieldAlign_", type := 5, offset := 5, embedded := false, tag := "", pkgPath := "", byteOffset := 22 }, { name := "Kind_", type := 110, offset := 6, embedded := false, tag := "", pkgPath := "", byteOffset := 23 }, { name := "Equal", type := 111, offset := 7, embedded := false, tag := "", pkgPath := "", byteOffset := 24 }, { name := "GCData", type := 112, offset := 8, embedded := false, tag := "", pkgPath := "", byteOffset := 32 }, { name := "Str", type := 113, offset := 9, embedded := false, tag := "", pkgPath := "", byteOffset := 40 }, { name := "PtrToThis", type := 114, offset := 10, embedded := false, tag := "", pkgPath := "", byteOffset := 44 }]), 11, 48, (Go.Value.agg #[(Go.Value.int Go.IntKind.u64 0), (Go.Value.int Go.IntKind.u64 0), (Go.Value.int Go.IntKind.u32 0), (Go.Value.int Go.IntKind.u8 0), (Go.Value.int Go.IntKind.u8 0), (Go.Value.int Go.IntKind.u8 0), (Go.Value.int Go.IntKind.u8 0), Go.Value.nilFunc, (Go.Value.pointer none), (Go.Value.int Go.IntKind.i32 0), (Go.Value.int Go.IntKind.i32 0)])⟩),
  (117, ⟨Go.TypeDesc.unsafePointer, 1, 8, (Go.Value.pointer none)⟩)]
set_option maxRecDepth 100000 in
theorem tok : TblOk Try.prog tb := by
  unfold tb
  repeat (first | exact trivial | refine ⟨⟨by kernel_rfl, by kernel_rfl⟩, ?_⟩)
instance : Tbl Try.prog := ⟨tb, tok⟩
open Go.Vc.Plan in
section
def h3 : Hd := ⟨155, [0, 1, 4, 5, 6, 8, 10, 11, 12, 13, 14, 15, 18, 36, 49, 75, 96, 100, 106, 128, 132, 146, 153], [(21, (ql [0, 1, 2, 3, 4, 5, 6, 7, 8, 9, 10, 11] (.e 12 [0] (ql [13, 14] .fin) .nil)))]⟩
def h4 : Hd := ⟨33, [0, 2, 3, 5, 8, 15], []⟩
def h5 : Hd := ⟨88, [0, 1, 4, 5, 6, 7, 8, 9, 10, 32, 37, 43], [(11, (ql [0, 1, 2, 3, 4, 5, 6, 7, 8, 9, 10, 11] (.e 12 [0] (ql [13, 14] .fin) .nil)))]⟩
def h6 : Hd := ⟨106, [0, 1, 2, 6, 7, 8, 9, 10, 11, 12, 13, 42, 61, 66, 72], [(15, (ql [0, 1, 2, 3, 4, 5, 6, 7, 8, 9, 10, 11] (.e 12 [0] (ql [13, 14] .fin) .nil)))]⟩
def h7 : Hd := ⟨25, [0, 1, 4], []⟩
def h8 : Hd := ⟨31, [0, 1, 4, 9], []⟩
def h9 : Hd := ⟨75, [0, 1, 4, 5, 6, 7, 12, 25], []⟩
def h10 : Hd := ⟨79, [0, 1, 4, 5, 6, 7, 17, 46, 48], []⟩
def h11 : Hd := ⟨60, [0, 1, 4, 5, 6, 7, 8, 9, 10, 11, 17], []⟩
def h12 : Hd := ⟨92, [0, 1, 2, 3, 8, 9, 10, 11, 12, 13, 14, 20, 29], []⟩
def h13 : Hd := ⟨34, [0, 1, 4, 5, 13, 23], []⟩
def h14 : Hd := ⟨84, [0, 1, 2, 6, 7, 8, 9, 17, 46, 64], []⟩
def h15 : Hd := ⟨86, [0, 1, 2, 6, 7, 8, 9, 10, 11, 36, 58, 62, 73], [(11, (ql [0, 1, 2, 3, 4, 5, 6, 7, 8] .fin))]⟩
def h16 : Hd := ⟨59, [0, 1, 2, 6, 7, 8, 9, 10, 35], []⟩
def h17 : Hd := ⟨81, [0, 1, 2, 6, 7, 8, 9, 10, 11, 24, 59, 63, 79], [(10, (ql [0, 1, 2, 3, 4, 5, 6, 7, 8, 9, 10, 11, 12, 13] .fin))]⟩
def h18 : Hd := ⟨133, [0, 1, 2, 3, 8, 9, 10, 11, 12, 13, 21, 67, 100], []⟩
def h19 : Hd := ⟨103, [0, 1, 2, 3, 8, 9, 10, 11, 12, 23, 36, 67], []⟩
def h20 : Hd := ⟨129, [0, 1, 2, 3, 4, 10, 11, 12, 13, 14, 15, 16, 17, 18, 19, 48, 53, 72, 102], [(11, (ql [0, 1, 2, 3, 4, 5, 6, 7] (.e 8 [0, 1, 2, 3, 4, 5, 6] (.e 9 [0, 1, 2, 3, 4, 5] (ql [10, 11] .fin) .nil) .nil)))]⟩
def h21 : Hd := ⟨49, [0, 1, 2, 3, 8, 9, 10, 11, 32], []⟩
def h22 : Hd := ⟨104, [0, 1, 2, 3, 4, 10, 11, 12, 13, 14, 15, 16, 17, 19, 41, 46, 65], []⟩
def h23 : Hd := ⟨23, [0, 2, 3, 11, 19], []⟩
def h24 : Hd := ⟨43, [0, 1, 2, 3, 5], []⟩
def h25 : Hd := ⟨102, [0, 1, 2, 6, 7, 8, 9, 10, 11, 12, 13, 14, 24, 27, 35, 36, 37, 38, 74, 80, 81, 82, 83], [(10, (ql [0, 1, 2, 3, 4, 5, 7, 8, 9, 10] (.e 6 [0, 1, 2, 3, 4, 7, 8, 9, 10] (.e 11 [0, 1, 2, 3, 4, 5, 6] (.e 12 [0, 1, 2, 3, 4] (.e 13 [0, 1, 2, 3, 4] (.e 14 [0] (ql [15, 16] (.e 17 [] .fin .nil)) .nil) .nil) .nil) .nil) (.e 11 [0, 1, 2, 3, 4, 5] (.e 6 [0, 1, 2, 3, 4, 7, 8, 9, 10, 11] (.e 12 [0, 1, 2, 3, 4] (.e 13 [0, 1, 2, 3, 4] (.e 14 [0] (ql [15, 16] (.e 17 [] .fin .nil)) .nil) .nil) .nil) .nil) .nil)))), (13, (ql [0, 1, 2, 3, 4, 5, 6, 7, 8, 9, 10] (.e 11 [] .fin .nil))), (19, (ql [0, 1, 2, 3, 4, 5, 6, 7, 8, 9, 10, 11, 12] (.e 13 [] .fin .nil)))]⟩
def h26 : Hd := ⟨29, [0, 1, 2, 3, 6, 7, 8], [(5, (ql [0, 1, 2, 3, 4, 5, 6, 7, 8, 9, 11, 12] (.e 10 [2, 3, 4, 6, 11, 12] (ql [13] (.e 14 [] .fin .nil)) .nil)))]⟩
def h27 : Hd := ⟨20, [0, 2, 3, 7, 19], [(4, (ql [0, 1, 2, 3, 4, 5, 6, 7, 8, 9] .fin))]⟩
def h28 : Hd := ⟨169, [0, 2, 3, 4, 5, 6, 7, 8, 9, 10, 11, 12, 13, 14, 18, 40, 58, 64, 95, 116, 137], [(15, (ql [0, 1, 2, 3, 4, 5, 6, 7, 8, 9, 10, 11, 12] (.e 13 [2, 3] (ql [14] (.e 15 [] .fin .nil)) .nil))), (20, (ql [0, 1, 2, 3, 4, 5, 6, 7, 8, 9, 10, 11, 12] (.e 13 [0, 1, 2, 3, 4] (ql [14] (.e 15 [] .fin .nil)) .nil))), (28, (ql [0, 1, 2, 3, 4, 5, 6, 7, 8, 9, 10, 11, 12, 13, 14, 15, 16, 17, 18, 19] (.e 20 [0, 1, 2, 3, 4, 5, 6, 7, 8, 9, 10, 11] (ql [21, 22] (.e 23 [] .fin .nil)) .nil)))]⟩
def h29 : Hd := ⟨29, [0, 1, 4, 5, 6, 10], [(5, (ql [0, 2, 3, 4, 5, 7, 8, 9, 10] (.e 1 [0, 2, 3, 4, 5, 7, 8, 9, 10] (.e 6 [0, 7, 8, 9, 10] (.e 11 [0, 1, 2, 3, 4, 5, 6] (.e 12 [0] (.e 13 [0] (.e 14 [] (ql [15] .fin) .nil) .nil) .nil) .nil) (.e 11 [0, 1, 2, 3, 4, 5] (.e 6 [0, 7, 8, 9, 10, 11] (.e 12 [0] (.e 13 [0] (.e 14 [] (ql [15] .fin) .nil) .nil) .nil) .nil) .nil)) (.e 11 [0, 2, 3, 4, 5] (.e 1 [0, 2, 3, 4, 5, 7, 8, 9, 10, 11] (.e 6 [0, 7, 8, 9, 10, 11] (.e 12 [0] (.e 13 [0] (.e 14 [] (ql [15] .fin) .nil) .nil) .nil) .nil) .nil) .nil))))]⟩
def h30 : Hd := ⟨44, [0, 1, 4, 5, 6, 7, 9, 18, 27, 35], []⟩
def h31 : Hd := ⟨48, [0, 1, 4, 5, 7, 15, 19, 20, 21, 22], [(7, (ql [0, 1, 2, 3, 4, 5] (.e 6 [0, 1, 2, 3, 4] (.e 7 [0, 1, 2, 3, 4] (.e 8 [0] (ql [9, 10] (.e 11 [] .fin .nil)) .nil) .nil) .nil)))]⟩
def h32 : Hd := ⟨10, [0, 1, 4], []⟩
def h33 : Hd := ⟨35, [0, 1, 2, 3], []⟩
def h34 : Hd := ⟨19, [0, 2, 3, 15], []⟩
def h35 : Hd := ⟨23, [0, 2, 3, 15], []⟩
def h36 : Hd := ⟨21, [0, 1, 2, 3, 5, 6, 7, 9, 11, 13], []⟩
def h37 : Hd := ⟨26, [0, 1, 4, 5, 6, 7, 11], []⟩
def h38 : Hd := ⟨16, [0, 2, 3, 7, 15], []⟩
def h39 : Hd := ⟨34, [0, 1, 4, 5, 6, 7, 12, 17, 18, 19, 20], []⟩
def h40 : Hd := ⟨46, [0, 1, 4, 5, 6, 7, 17, 23, 33], []⟩
def h41 : Hd := ⟨48, [0, 1, 2, 6, 7, 8, 9, 10, 11, 18, 19, 20, 21, 25, 26, 27, 28], [(8, (ql [0, 1, 2, 3, 4, 5, 6, 7, 8] (.e 9 [0, 1, 2, 3, 4, 5] (ql [10, 11] (.e 12 [] .fin .nil)) .nil)))]⟩
def h42 : Hd := ⟨49, [0, 1, 4, 5, 6, 7, 17, 23], [(8, (ql [0, 1, 2, 3, 4, 5, 6, 7, 8, 9, 10, 11, 12, 13, 14, 15, 16, 17] (.e 18 [0, 1, 2, 3, 4, 5, 6, 7, 8, 9] (ql [19, 20] (.e 21 [] .fin .nil)) .nil)))]⟩
def h43 : Hd := ⟨80, [0, 1, 2, 6, 7, 8, 9, 10, 12, 13, 14, 18, 37, 54, 55, 56], [(15, (ql [0, 1, 2, 3, 4, 5, 6, 7, 8, 9, 10, 11, 12, 13] (.e 14 [0, 1, 2, 3, 4, 5, 6, 7] (ql [15, 16] (.e 17 [] .fin .nil)) .nil)))]⟩
def h44 : Hd := ⟨49, [0, 1, 2, 3, 4, 5, 6, 7, 8, 9, 10, 11, 12, 17, 20, 21, 22, 40], [(7, (ql [0, 1, 2, 3, 4, 5, 6, 7, 8, 9, 10] (.e 11 [0, 1, 2, 3, 4] (.e 12 [] (ql [13, 14, 15, 16, 17] .fin) .nil) .nil))), (10, (ql [0, 1, 2, 3] (.e 4 [0, 1, 2] (.e 5 [0] (.e 6 [] (.e 7 [] .fin .nil) .nil) .nil) .nil)))]⟩
def h45 : Hd := ⟨22, [0, 1, 4, 5, 7, 9, 10, 11, 12], []⟩
def h46 : Hd := ⟨20, [0, 2, 3, 4, 9], []⟩
def h47 : Hd := ⟨25, [0, 2, 3, 4, 8, 13, 24], [(7, (ql [0, 1, 2, 3, 4, 5, 6, 7, 8] .fin))]⟩
def h48 : Hd := ⟨48, [0, 1, 4, 5, 6, 7, 8, 9, 13], [(5, (ql [1, 2, 3, 5, 6, 7, 8] (.e 0 [1, 2, 3, 5, 6, 7, 8] (.e 4 [5, 6, 7, 8] (.e 9 [] (ql [10] .fin) .nil) .nil) .nil))), (7, (ql [0, 1, 2, 3, 4, 5, 6, 7, 8] (.e 9 [0, 1, 2, 3] (.e 10 [0, 1, 2, 3] (.e 11 [] (ql [12] .fin) .nil) .nil) .nil)))]⟩
def h49 : Hd := ⟨29, [0, 1, 2, 6, 7, 8, 12, 25], [(5, (ql [0, 1, 2, 3, 4, 6, 7, 8, 9] (.e 5 [6, 7, 8, 9] (ql [10] .fin) .nil)))]⟩
def h50 : Hd := ⟨17, [0, 2, 6], []⟩
def h51 : Hd := ⟨31, [0, 1, 2, 6, 12], [(3, (ql [0, 1, 2, 3, 4, 5, 6, 7, 8, 9, 10, 11, 12, 13, 14, 15, 16, 17, 18] .fin))]⟩
def h52 : Hd := ⟨39, [0, 1, 2, 3, 5], []⟩
def h53 : Hd := ⟨28, [0, 1, 2, 6, 7, 9, 13, 14, 15, 16], []⟩
def h54 : Hd := ⟨43, [0, 1, 2, 3, 8, 9, 10, 11, 26, 41], []⟩
def h55 : Hd := ⟨46, [0, 1, 2, 3, 4, 7], []⟩
def h56 : Hd := ⟨90, [0, 1, 2, 3, 4, 10, 11, 12, 13, 14, 15, 40, 51, 62, 63, 64, 65, 66, 78, 87], [(12, (ql [0, 1, 2, 4, 5, 6, 7] (.e 3 [4, 5, 6, 7] (ql [8] .fin) .nil)))]⟩
def h57 : Hd := ⟨72, [0, 1, 2, 3, 8, 9, 10, 11, 12, 13, 14, 15, 24, 33, 70], [(9, (ql [0, 1, 2, 3, 4, 5, 6, 7, 8, 9, 10, 13, 14, 15, 16, 17, 18, 19, 20, 21, 22, 23] (.e 11 [0, 13, 14, 15, 16, 17, 18, 19, 20, 21, 22, 23] (.e 12 [13, 14, 15, 16, 17, 18, 19, 20, 21, 22, 23] (.e 24 [0, 1, 2, 3, 4, 5, 6, 7, 8, 9, 10, 11, 12, 13] (.e 25 [] (ql [26, 27] .fin) .nil) .nil) (.e 24 [0, 1, 2, 3, 4, 5, 6, 7, 8, 9, 10, 11, 13] (.e 12 [13, 14, 15, 16, 17, 18, 19, 20, 21, 22, 23, 24] (.e 25 [] (ql [26, 27] .fin) .nil) .nil) .nil)) (.e 24 [0, 1, 2, 3, 4, 5, 6, 7, 8, 9, 10, 13] (.e 11 [0, 13, 14, 15, 16, 17, 18, 19, 20, 21, 22, 23, 24] (.e 12 [13, 14, 15, 16, 17, 18, 19, 20, 21, 22, 23, 24] (.e 25 [] (ql [26, 27] .fin) .nil) .nil) .nil) .nil))))]⟩
def h58 : Hd := ⟨26, [0, 1, 4, 5, 10, 14, 25], [(6, (ql [0, 1, 2, 3, 4, 5, 6, 7, 8] .fin))]⟩
def h59 : Hd := ⟨31, [0, 1, 2, 6, 7, 8, 12, 25], [(5, (ql [0, 1, 2, 3, 4, 6, 7, 8, 9] (.e 5 [6, 7, 8, 9] (ql [10] .fin) .nil)))]⟩
def h60 : Hd := ⟨7, [0, 1, 2], []⟩
def h61 : Hd := ⟨8, [0, 2, 4], []⟩
def h62 : Hd := ⟨115, [0, 1, 4, 5, 6, 7, 9, 10, 11, 12, 13, 29, 85, 86, 87, 88, 94], [(6, (ql [0, 1, 2, 3, 4, 5, 6, 7, 8, 9, 10, 11, 12, 13, 14, 15, 16, 17, 18, 19, 20, 21, 22, 23, 24, 25, 26, 27, 28] (.e 29 [9, 10, 11] (ql [30] (.e 31 [] .fin .nil)) .nil))), (7, (ql [0, 1, 2, 3, 4, 5, 6, 7, 8, 9, 10, 11, 12, 13] (.e 14 [] (ql [15, 16, 17, 18, 19] .fin) .nil))), (15, (ql [0, 1, 2, 3, 4, 5] (.e 6 [0, 1, 2, 3, 4] (.e 7 [0] (ql [8, 9] (.e 10 [] .fin .nil)) .nil) .nil)))]⟩
def h63 : Hd := ⟨9, [0, 1, 4], []⟩
def h64 : Hd := ⟨9, [0, 1, 3], []⟩
def h65 : Hd := ⟨1, [0], []⟩
def h66 : Hd := ⟨15, [0, 2, 3, 5, 12], []⟩
def h67 : Hd := ⟨4, [0, 1, 2], []⟩
def h68 : Hd := ⟨9, [0, 2], []⟩
def h69 : Hd := ⟨20, [0, 1, 4, 5, 7], [(3, (ql [0, 1, 2, 3, 4, 5, 6, 7, 8, 9, 10, 11, 12, 13] .fin))]⟩
def h70 : Hd := ⟨6, [0, 1, 2, 3, 4], []⟩
def h71 : Hd := ⟨21, [0, 1, 2, 6, 7, 8, 9], []⟩
def h72 : Hd := ⟨18, [0, 2, 3, 5, 6, 7, 8, 9, 14], []⟩
def h73 : Hd := ⟨9, [0, 2], []⟩
def h74 : Hd := ⟨94, [0, 1, 2, 3, 4, 10, 11, 12, 13, 14, 15, 16, 17, 18, 19, 20, 21, 24, 25, 26, 60], [(6, (ql [0, 1, 2, 3, 4, 5, 6, 7, 8, 9, 10] (.e 11 [] (ql [12, 13, 14, 15, 16] .fin) .nil)))]⟩
def h75 : Hd := ⟨43, [0, 1, 4, 5, 6, 7, 8, 10, 17, 27], []⟩
def h76 : Hd := ⟨11, [0, 1, 3], []⟩
def h77 : Hd := ⟨19, [0, 1, 4, 5, 7, 8, 9, 16], []⟩
def h78 : Hd := ⟨9, [0, 1, 3], []⟩
def h79 : Hd := ⟨38, [0, 1, 2, 6, 7, 14, 15, 16, 17], [(3, (ql [0, 1, 2, 3, 4, 5, 6, 7, 8, 9, 10, 11, 12, 13] (.e 14 [0, 1, 2, 3, 4, 5, 6, 7] (ql [15] (.e 16 [] .fin .nil)) .nil)))]⟩
def h80 : Hd := ⟨43, [0, 1, 2, 3, 8, 9, 16, 17, 18, 19], [(3, (ql [0, 1, 2, 3, 4, 5, 6, 7, 8, 9, 10, 11, 12, 13, 14, 15] (.e 16 [0, 1, 2, 3, 4, 5, 6, 7, 8, 9] (ql [17, 18] (.e 19 [] .fin .nil)) .nil)))]⟩
def h81 : Hd := ⟨17, [0, 2, 3, 4, 5, 11], []⟩
def h82 : Hd := ⟨10, [0, 2, 4], []⟩
def h83 : Hd := ⟨19, [0, 1, 3, 8, 18], []⟩
def h84 : Hd := ⟨9, [0, 2], []⟩
def h85 : Hd := ⟨35, [0, 1, 2, 4, 5, 6, 7, 13, 14, 15, 16, 33], []⟩
def h86 : Hd := ⟨65, [0, 1, 2, 3, 4, 5, 7, 8, 9, 10, 11, 12, 13, 14, 15, 16, 17, 30, 31, 32, 41, 42, 43, 46], [(11, (ql [0, 1, 2, 3, 4, 5, 6, 7, 8, 9] (.e 10 [0, 1, 2, 3, 4, 5, 6] (ql [11] (.e 12 [] .fin .nil)) .nil))), (13, (ql [0, 1, 2, 3] .fin))]⟩
def h87 : Hd := ⟨8, [0, 1, 2, 3, 4, 5, 6], []⟩
def h88 : Hd := ⟨21, [0, 1, 2, 3, 5, 6, 7, 8, 9, 15], []⟩
end
end Go.Proofs.Ythoabhcaliggoaa
