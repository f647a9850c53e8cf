/- The types' table of this seat, off the loaded program. -/
import Derived.Test.YtaikdcnifijcoaaGreatQ01
import Derived.Test.YtaikdcnifijcoaaGreatProg
import Derived.KernelRfl
namespace Go.Proofs.YtaikdcnifijcoaaGreat
open Go.Vc
def ti1 : TI := ⟨(Go.TypeDesc.func #[] #[] false), 1, 8, Go.Value.nilFunc⟩
theorem tik1 : TIok Tryz.prog 1 ti1 := ⟨by kernel_rfl, by kernel_rfl⟩
def ti2 : TI := ⟨(Go.TypeDesc.int Go.IntKind.i64), 1, 8, (Go.Value.int Go.IntKind.i64 0)⟩
theorem tik2 : TIok Tryz.prog 2 ti2 := ⟨by kernel_rfl, by kernel_rfl⟩
def ti3 : TI := ⟨(Go.TypeDesc.int Go.IntKind.i64), 1, 8, (Go.Value.int Go.IntKind.i64 0)⟩
theorem tik3 : TIok Tryz.prog 3 ti3 := ⟨by kernel_rfl, by kernel_rfl⟩
def ti4 : TI := ⟨Go.TypeDesc.bool, 1, 1, (Go.Value.bool false)⟩
theorem tik4 : TIok Tryz.prog 4 ti4 := ⟨by kernel_rfl, by kernel_rfl⟩
def ti5 : TI := ⟨(Go.TypeDesc.int Go.IntKind.u8), 1, 1, (Go.Value.int Go.IntKind.u8 0)⟩
theorem tik5 : TIok Tryz.prog 5 ti5 := ⟨by kernel_rfl, by kernel_rfl⟩
def ti6 : TI := ⟨(Go.TypeDesc.int Go.IntKind.u8), 1, 1, (Go.Value.int Go.IntKind.u8 0)⟩
theorem tik6 : TIok Tryz.prog 6 ti6 := ⟨by kernel_rfl, by kernel_rfl⟩
def ti7 : TI := ⟨(Go.TypeDesc.struct #[{ name := "x", type := 2, offset := 0, embedded := false, tag := "", pkgPath := "runtime", byteOffset := 0 }, { name := "y", type := 3, offset := 1, embedded := false, tag := "", pkgPath := "runtime", byteOffset := 8 }, { name := "signed", type := 4, offset := 2, embedded := false, tag := "", pkgPath := "runtime", byteOffset := 16 }, { name := "code", type := 6, offset := 3, embedded := false, tag := "", pkgPath := "runtime", byteOffset := 17 }]), 4, 24, (Go.Value.agg #[(Go.Value.int Go.IntKind.i64 0), (Go.Value.int Go.IntKind.i64 0), (Go.Value.bool false), (Go.Value.int Go.IntKind.u8 0)])⟩
theorem tik7 : TIok Tryz.prog 7 ti7 := ⟨by kernel_rfl, by kernel_rfl⟩
def ti8 : TI := ⟨(Go.TypeDesc.struct #[{ name := "x", type := 2, offset := 0, embedded := false, tag := "", pkgPath := "runtime", byteOffset := 0 }, { name := "y", type := 3, offset := 1, embedded := false, tag := "", pkgPath := "runtime", byteOffset := 8 }, { name := "signed", type := 4, offset := 2, embedded := false, tag := "", pkgPath := "runtime", byteOffset := 16 }, { name := "code", type := 6, offset := 3, embedded := false, tag := "", pkgPath := "runtime", byteOffset := 17 }]), 4, 24, (Go.Value.agg #[(Go.Value.int Go.IntKind.i64 0), (Go.Value.int Go.IntKind.i64 0), (Go.Value.bool false), (Go.Value.int Go.IntKind.u8 0)])⟩
theorem tik8 : TIok Tryz.prog 8 ti8 := ⟨by kernel_rfl, by kernel_rfl⟩
def ti9 : TI := ⟨Go.TypeDesc.string, 1, 16, (Go.Value.string { data := #[] })⟩
theorem tik9 : TIok Tryz.prog 9 ti9 := ⟨by kernel_rfl, by kernel_rfl⟩
def ti10 : TI := ⟨Go.TypeDesc.string, 1, 16, (Go.Value.string { data := #[] })⟩
theorem tik10 : TIok Tryz.prog 10 ti10 := ⟨by kernel_rfl, by kernel_rfl⟩
def ti11 : TI := ⟨Go.TypeDesc.string, 1, 16, (Go.Value.string { data := #[] })⟩
theorem tik11 : TIok Tryz.prog 11 ti11 := ⟨by kernel_rfl, by kernel_rfl⟩
def ti12 : TI := ⟨(Go.TypeDesc.int Go.IntKind.u64), 1, 8, (Go.Value.int Go.IntKind.u64 0)⟩
theorem tik12 : TIok Tryz.prog 12 ti12 := ⟨by kernel_rfl, by kernel_rfl⟩
def ti13 : TI := ⟨(Go.TypeDesc.struct #[{ name := "msg", type := 9, offset := 0, embedded := false, tag := "", pkgPath := "runtime", byteOffset := 0 }, { name := "addr", type := 12, offset := 1, embedded := false, tag := "", pkgPath := "runtime", byteOffset := 16 }]), 2, 24, (Go.Value.agg #[(Go.Value.string { data := #[] }), (Go.Value.int Go.IntKind.u64 0)])⟩
theorem tik13 : TIok Tryz.prog 13 ti13 := ⟨by kernel_rfl, by kernel_rfl⟩
def ti14 : TI := ⟨(Go.TypeDesc.struct #[{ name := "msg", type := 9, offset := 0, embedded := false, tag := "", pkgPath := "runtime", byteOffset := 0 }, { name := "addr", type := 12, offset := 1, embedded := false, tag := "", pkgPath := "runtime", byteOffset := 16 }]), 2, 24, (Go.Value.agg #[(Go.Value.string { data := #[] }), (Go.Value.int Go.IntKind.u64 0)])⟩
theorem tik14 : TIok Tryz.prog 14 ti14 := ⟨by kernel_rfl, by kernel_rfl⟩
def ti15 : TI := ⟨(Go.TypeDesc.pointer 308), 1, 8, (Go.Value.pointer none)⟩
theorem tik15 : TIok Tryz.prog 15 ti15 := ⟨by kernel_rfl, by kernel_rfl⟩
def ti17 : TI := ⟨(Go.TypeDesc.pointer 319), 1, 8, (Go.Value.pointer none)⟩
theorem tik17 : TIok Tryz.prog 17 ti17 := ⟨by kernel_rfl, by kernel_rfl⟩
def ti23 : TI := ⟨(Go.TypeDesc.struct #[{ name := "N", type := 3, offset := 0, embedded := false, tag := "", pkgPath := "", byteOffset := 0 }, { name := "T", type := 3, offset := 1, embedded := false, tag := "", pkgPath := "", byteOffset := 8 }, { name := "K", type := 3, offset := 2, embedded := false, tag := "", pkgPath := "", byteOffset := 16 }, { name := "E", type := 3, offset := 3, embedded := false, tag := "", pkgPath := "", byteOffset := 24 }, { name := "Room", type := 3, offset := 4, embedded := false, tag := "", pkgPath := "", byteOffset := 32 }]), 5, 40, (Go.Value.agg #[(Go.Value.int Go.IntKind.i64 0), (Go.Value.int Go.IntKind.i64 0), (Go.Value.int Go.IntKind.i64 0), (Go.Value.int Go.IntKind.i64 0), (Go.Value.int Go.IntKind.i64 0)])⟩
theorem tik23 : TIok Tryz.prog 23 ti23 := ⟨by kernel_rfl, by kernel_rfl⟩
def ti24 : TI := ⟨(Go.TypeDesc.slice 38), 1, 24, (Go.Value.slice none 0 0)⟩
theorem tik24 : TIok Tryz.prog 24 ti24 := ⟨by kernel_rfl, by kernel_rfl⟩
def ti27 : TI := ⟨(Go.TypeDesc.pointer 104), 1, 8, (Go.Value.pointer none)⟩
theorem tik27 : TIok Tryz.prog 27 ti27 := ⟨by kernel_rfl, by kernel_rfl⟩
def ti31 : TI := ⟨(Go.TypeDesc.slice 36), 1, 24, (Go.Value.slice none 0 0)⟩
theorem tik31 : TIok Tryz.prog 31 ti31 := ⟨by kernel_rfl, by kernel_rfl⟩
def ti32 : TI := ⟨(Go.TypeDesc.slice 4), 1, 24, (Go.Value.slice none 0 0)⟩
theorem tik32 : TIok Tryz.prog 32 ti32 := ⟨by kernel_rfl, by kernel_rfl⟩
def ti33 : TI := ⟨(Go.TypeDesc.slice 79), 1, 24, (Go.Value.slice none 0 0)⟩
theorem tik33 : TIok Tryz.prog 33 ti33 := ⟨by kernel_rfl, by kernel_rfl⟩
def ti34 : TI := ⟨(Go.TypeDesc.slice 3), 1, 24, (Go.Value.slice none 0 0)⟩
theorem tik34 : TIok Tryz.prog 34 ti34 := ⟨by kernel_rfl, by kernel_rfl⟩
def ti35 : TI := ⟨(Go.TypeDesc.int Go.IntKind.i64), 1, 8, (Go.Value.int Go.IntKind.i64 0)⟩
theorem tik35 : TIok Tryz.prog 35 ti35 := ⟨by kernel_rfl, by kernel_rfl⟩
def ti36 : TI := ⟨(Go.TypeDesc.slice 5), 1, 24, (Go.Value.slice none 0 0)⟩
theorem tik36 : TIok Tryz.prog 36 ti36 := ⟨by kernel_rfl, by kernel_rfl⟩
def ti38 : TI := ⟨(Go.TypeDesc.struct #[{ name := "Kind", type := 3, offset := 0, embedded := false, tag := "", pkgPath := "", byteOffset := 0 }, { name := "From", type := 3, offset := 1, embedded := false, tag := "", pkgPath := "", byteOffset := 8 }, { name := "To", type := 3, offset := 2, embedded := false, tag := "", pkgPath := "", byteOffset := 16 }, { name := "Session", type := 3, offset := 3, embedded := false, tag := "", pkgPath := "", byteOffset := 24 }, { name := "Decided", type := 3, offset := 4, embedded := false, tag := "", pkgPath := "", byteOffset := 32 }, { name := "Commit", type := 3, offset := 5, embedded := false, tag := "", pkgPath := "", byteOffset := 40 }, { name := "Epoch", type := 3, offset := 6, embedded := false, tag := "", pkgPath := "", byteOffset := 48 }, { name := "Heads", type := 33, offset := 7, embedded := false, tag := "", pkgPath := "", byteOffset := 56 }, { name := "ID", type := 9, offset := 8, embedded := false, tag := "", pkgPath := "", byteOffset := 80 }, { name := "Size", type := 3, offset := 9, embedded := false, tag := "", pkgPath := "", byteOffset := 96 }, { name := "Sort", type := 3, offset := 10, embedded := false, tag := "", pkgPath := "", byteOffset := 104 }, { name := "Target", type := 3, offset := 11, embedded := false, tag := "", pkgPath := "", byteOffset := 112 }, { name := "Dealers", type := 34, offset := 12, embedded := false, tag := "", pkgPath := "", byteOffset := 120 }, { name := "Parts", type := 34, offset := 13, embedded := false, tag := "", pkgPath := "", byteOffset := 144 }, { name := "Code", type := 35, offset := 14, embedded := false, tag := "", pkgPath := "", byteOffset := 168 }, { name := "Data", type := 36, offset := 15, embedded := false, tag := "", pkgPath := "", byteOffset := 176 }]), 16, 200, (Go.Value.agg (rl [(7, (Go.Value.int Go.IntKind.i64 0)), (1, (Go.Value.slice none 0 0)), (1, (Go.Value.string { data := #[] })), (3, (Go.Value.int Go.IntKind.i64 0)), (2, (Go.Value.slice none 0 0)), (1, (Go.Value.int Go.IntKind.i64 0)), (1, (Go.Value.slice none 0 0))]))⟩
theorem tik38 : TIok Tryz.prog 38 ti38 := ⟨by kernel_rfl, by kernel_rfl⟩
def ti47 : TI := ⟨(Go.TypeDesc.struct #[{ name := "Kind", type := 3, offset := 0, embedded := false, tag := "", pkgPath := "", byteOffset := 0 }, { name := "A", type := 3, offset := 1, embedded := false, tag := "", pkgPath := "", byteOffset := 8 }, { name := "B", type := 3, offset := 2, embedded := false, tag := "", pkgPath := "", byteOffset := 16 }, { name := "C", type := 3, offset := 3, embedded := false, tag := "", pkgPath := "", byteOffset := 24 }, { name := "ID", type := 9, offset := 4, embedded := false, tag := "", pkgPath := "", byteOffset := 32 }, { name := "Data", type := 36, offset := 5, embedded := false, tag := "", pkgPath := "", byteOffset := 48 }]), 6, 72, (Go.Value.agg #[(Go.Value.int Go.IntKind.i64 0), (Go.Value.int Go.IntKind.i64 0), (Go.Value.int Go.IntKind.i64 0), (Go.Value.int Go.IntKind.i64 0), (Go.Value.string { data := #[] }), (Go.Value.slice none 0 0)])⟩
theorem tik47 : TIok Tryz.prog 47 ti47 := ⟨by kernel_rfl, by kernel_rfl⟩
def ti48 : TI := ⟨(Go.TypeDesc.pointer 122), 1, 8, (Go.Value.pointer none)⟩
theorem tik48 : TIok Tryz.prog 48 ti48 := ⟨by kernel_rfl, by kernel_rfl⟩
def ti51 : TI := ⟨(Go.TypeDesc.struct #[{ name := "E", type := 35, offset := 0, embedded := false, tag := "", pkgPath := "", byteOffset := 0 }, { name := "Done", type := 4, offset := 1, embedded := false, tag := "", pkgPath := "", byteOffset := 8 }, { name := "Data", type := 36, offset := 2, embedded := false, tag := "", pkgPath := "", byteOffset := 16 }, { name := "Heads", type := 33, offset := 3, embedded := false, tag := "", pkgPath := "", byteOffset := 40 }, { name := "List", type := 34, offset := 4, embedded := false, tag := "", pkgPath := "", byteOffset := 64 }]), 5, 88, (Go.Value.agg #[(Go.Value.int Go.IntKind.i64 0), (Go.Value.bool false), (Go.Value.slice none 0 0), (Go.Value.slice none 0 0), (Go.Value.slice none 0 0)])⟩
theorem tik51 : TIok Tryz.prog 51 ti51 := ⟨by kernel_rfl, by kernel_rfl⟩
def ti55 : TI := ⟨(Go.TypeDesc.struct #[{ name := "Session", type := 3, offset := 0, embedded := false, tag := "", pkgPath := "", byteOffset := 0 }, { name := "Decided", type := 3, offset := 1, embedded := false, tag := "", pkgPath := "", byteOffset := 8 }, { name := "Epoch", type := 3, offset := 2, embedded := false, tag := "", pkgPath := "", byteOffset := 16 }, { name := "Dir", type := 33, offset := 3, embedded := false, tag := "", pkgPath := "", byteOffset := 24 }, { name := "Up", type := 32, offset := 4, embedded := false, tag := "", pkgPath := "", byteOffset := 48 }, { name := "Commit", type := 34, offset := 5, embedded := false, tag := "", pkgPath := "", byteOffset := 72 }]), 6, 96, (Go.Value.agg #[(Go.Value.int Go.IntKind.i64 0), (Go.Value.int Go.IntKind.i64 0), (Go.Value.int Go.IntKind.i64 0), (Go.Value.slice none 0 0), (Go.Value.slice none 0 0), (Go.Value.slice none 0 0)])⟩
theorem tik55 : TIok Tryz.prog 55 ti55 := ⟨by kernel_rfl, by kernel_rfl⟩
def ti56 : TI := ⟨(Go.TypeDesc.pointer 127), 1, 8, (Go.Value.pointer none)⟩
theorem tik56 : TIok Tryz.prog 56 ti56 := ⟨by kernel_rfl, by kernel_rfl⟩
def ti67 : TI := ⟨(Go.TypeDesc.slice 70), 1, 24, (Go.Value.slice none 0 0)⟩
theorem tik67 : TIok Tryz.prog 67 ti67 := ⟨by kernel_rfl, by kernel_rfl⟩
def ti70 : TI := ⟨(Go.TypeDesc.struct #[{ name := "Kind", type := 3, offset := 0, embedded := false, tag := "", pkgPath := "", byteOffset := 0 }, { name := "N", type := 3, offset := 1, embedded := false, tag := "", pkgPath := "", byteOffset := 8 }, { name := "X", type := 47, offset := 2, embedded := false, tag := "", pkgPath := "", byteOffset := 16 }, { name := "M", type := 38, offset := 8, embedded := false, tag := "", pkgPath := "", byteOffset := 88 }]), 24, 288, (Go.Value.agg (rl [(6, (Go.Value.int Go.IntKind.i64 0)), (1, (Go.Value.string { data := #[] })), (1, (Go.Value.slice none 0 0)), (7, (Go.Value.int Go.IntKind.i64 0)), (1, (Go.Value.slice none 0 0)), (1, (Go.Value.string { data := #[] })), (3, (Go.Value.int Go.IntKind.i64 0)), (2, (Go.Value.slice none 0 0)), (1, (Go.Value.int Go.IntKind.i64 0)), (1, (Go.Value.slice none 0 0))]))⟩
theorem tik70 : TIok Tryz.prog 70 ti70 := ⟨by kernel_rfl, by kernel_rfl⟩
def ti74 : TI := ⟨(Go.TypeDesc.pointer 81), 1, 8, (Go.Value.pointer none)⟩
theorem tik74 : TIok Tryz.prog 74 ti74 := ⟨by kernel_rfl, by kernel_rfl⟩
def ti77 : TI := ⟨(Go.TypeDesc.pointer 90), 1, 8, (Go.Value.pointer none)⟩
theorem tik77 : TIok Tryz.prog 77 ti77 := ⟨by kernel_rfl, by kernel_rfl⟩
def ti79 : TI := ⟨(Go.TypeDesc.struct #[{ name := "ID", type := 9, offset := 0, embedded := false, tag := "", pkgPath := "", byteOffset := 0 }, { name := "Size", type := 3, offset := 1, embedded := false, tag := "", pkgPath := "", byteOffset := 16 }]), 2, 24, (Go.Value.agg #[(Go.Value.string { data := #[] }), (Go.Value.int Go.IntKind.i64 0)])⟩
theorem tik79 : TIok Tryz.prog 79 ti79 := ⟨by kernel_rfl, by kernel_rfl⟩
def ti81 : TI := ⟨(Go.TypeDesc.struct #[{ name := "P", type := 23, offset := 0, embedded := false, tag := "", pkgPath := "", byteOffset := 0 }, { name := "K", type := 77, offset := 5, embedded := false, tag := "", pkgPath := "", byteOffset := 40 }, { name := "Kind", type := 3, offset := 6, embedded := false, tag := "", pkgPath := "", byteOffset := 48 }, { name := "Session", type := 3, offset := 7, embedded := false, tag := "", pkgPath := "", byteOffset := 56 }, { name := "Phase", type := 3, offset := 8, embedded := false, tag := "", pkgPath := "", byteOffset := 64 }, { name := "Sort", type := 3, offset := 9, embedded := false, tag := "", pkgPath := "", byteOffset := 72 }, { name := "Target", type := 3, offset := 10, embedded := false, tag := "", pkgPath := "", byteOffset := 80 }, { name := "Head", type := 79, offset := 11, embedded := false, tag := "", pkgPath := "", byteOffset := 88 }, { name := "Parts", type := 34, offset := 13, embedded := false, tag := "", pkgPath := "", byteOffset := 112 }, { name := "Dealers", type := 34, offset := 14, embedded := false, tag := "", pkgPath := "", byteOffset := 136 }, { name := "Wrong", type := 34, offset := 15, embedded := false, tag := "", pkgPath := "", byteOffset := 160 }, { name := "Queue", type := 34, offset := 16, embedded := false, tag := "", pkgPath := "", byteOffset := 184 }, { name := "Got", type := 32, offset := 17, embedded := false, tag := "", pkgPath := "", byteOffset := 208 }, { name := "Rows", type := 31, offset := 18, embedded := false, tag := "", pkgPath := "", byteOffset := 232 }]), 19, 256, (Go.Value.agg (rl [(5, (Go.Value.int Go.IntKind.i64 0)), (1, (Go.Value.pointer none)), (5, (Go.Value.int Go.IntKind.i64 0)), (1, (Go.Value.string { data := #[] })), (1, (Go.Value.int Go.IntKind.i64 0)), (6, (Go.Value.slice none 0 0))]))⟩
theorem tik81 : TIok Tryz.prog 81 ti81 := ⟨by kernel_rfl, by kernel_rfl⟩
def ti84 : TI := ⟨(Go.TypeDesc.struct #[{ name := "Kind", type := 3, offset := 0, embedded := false, tag := "", pkgPath := "", byteOffset := 0 }, { name := "N", type := 3, offset := 1, embedded := false, tag := "", pkgPath := "", byteOffset := 8 }, { name := "H", type := 79, offset := 2, embedded := false, tag := "", pkgPath := "", byteOffset := 16 }, { name := "Parts", type := 34, offset := 4, embedded := false, tag := "", pkgPath := "", byteOffset := 40 }]), 5, 64, (Go.Value.agg #[(Go.Value.int Go.IntKind.i64 0), (Go.Value.int Go.IntKind.i64 0), (Go.Value.string { data := #[] }), (Go.Value.int Go.IntKind.i64 0), (Go.Value.slice none 0 0)])⟩
theorem tik84 : TIok Tryz.prog 84 ti84 := ⟨by kernel_rfl, by kernel_rfl⟩
def ti88 : TI := ⟨(Go.TypeDesc.pointer 149), 1, 8, (Go.Value.pointer none)⟩
theorem tik88 : TIok Tryz.prog 88 ti88 := ⟨by kernel_rfl, by kernel_rfl⟩
def ti90 : TI := ⟨(Go.TypeDesc.struct #[{ name := "N", type := 3, offset := 0, embedded := false, tag := "", pkgPath := "", byteOffset := 0 }, { name := "V", type := 55, offset := 1, embedded := false, tag := "", pkgPath := "", byteOffset := 8 }, { name := "D", type := 88, offset := 7, embedded := false, tag := "", pkgPath := "", byteOffset := 104 }, { name := "Off", type := 4, offset := 8, embedded := false, tag := "", pkgPath := "", byteOffset := 112 }]), 9, 120, (Go.Value.agg #[(Go.Value.int Go.IntKind.i64 0), (Go.Value.int Go.IntKind.i64 0), (Go.Value.int Go.IntKind.i64 0), (Go.Value.int Go.IntKind.i64 0), (Go.Value.slice none 0 0), (Go.Value.slice none 0 0), (Go.Value.slice none 0 0), (Go.Value.pointer none), (Go.Value.bool false)])⟩
theorem tik90 : TIok Tryz.prog 90 ti90 := ⟨by kernel_rfl, by kernel_rfl⟩
def ti91 : TI := ⟨(Go.TypeDesc.pointer 154), 1, 8, (Go.Value.pointer none)⟩
theorem tik91 : TIok Tryz.prog 91 ti91 := ⟨by kernel_rfl, by kernel_rfl⟩
def ti98 : TI := ⟨(Go.TypeDesc.pointer 164), 1, 8, (Go.Value.pointer none)⟩
theorem tik98 : TIok Tryz.prog 98 ti98 := ⟨by kernel_rfl, by kernel_rfl⟩
def ti100 : TI := ⟨(Go.TypeDesc.map 3 36), 1, 8, (Go.Value.map none)⟩
theorem tik100 : TIok Tryz.prog 100 ti100 := ⟨by kernel_rfl, by kernel_rfl⟩
def ti102 : TI := ⟨(Go.TypeDesc.struct #[{ name := "session", type := 3, offset := 0, embedded := false, tag := "", pkgPath := "shamrock/client", byteOffset := 0 }, { name := "dealt", type := 31, offset := 1, embedded := false, tag := "", pkgPath := "shamrock/client", byteOffset := 8 }, { name := "wanted", type := 4, offset := 2, embedded := false, tag := "", pkgPath := "shamrock/client", byteOffset := 32 }, { name := "size", type := 3, offset := 3, embedded := false, tag := "", pkgPath := "shamrock/client", byteOffset := 40 }, { name := "came", type := 100, offset := 4, embedded := false, tag := "", pkgPath := "shamrock/client", byteOffset := 48 }]), 5, 56, (Go.Value.agg #[(Go.Value.int Go.IntKind.i64 0), (Go.Value.slice none 0 0), (Go.Value.bool false), (Go.Value.int Go.IntKind.i64 0), (Go.Value.map none)])⟩
theorem tik102 : TIok Tryz.prog 102 ti102 := ⟨by kernel_rfl, by kernel_rfl⟩
def ti104 : TI := ⟨(Go.TypeDesc.struct #[{ name := "p", type := 23, offset := 0, embedded := false, tag := "", pkgPath := "shamrock/client", byteOffset := 0 }, { name := "f", type := 98, offset := 5, embedded := false, tag := "", pkgPath := "shamrock/client", byteOffset := 40 }, { name := "t", type := 91, offset := 6, embedded := false, tag := "", pkgPath := "shamrock/client", byteOffset := 48 }, { name := "now", type := 102, offset := 7, embedded := false, tag := "", pkgPath := "shamrock/client", byteOffset := 56 }]), 12, 112, (Go.Value.agg #[(Go.Value.int Go.IntKind.i64 0), (Go.Value.int Go.IntKind.i64 0), (Go.Value.int Go.IntKind.i64 0), (Go.Value.int Go.IntKind.i64 0), (Go.Value.int Go.IntKind.i64 0), (Go.Value.pointer none), (Go.Value.pointer none), (Go.Value.int Go.IntKind.i64 0), (Go.Value.slice none 0 0), (Go.Value.bool false), (Go.Value.int Go.IntKind.i64 0), (Go.Value.map none)])⟩
theorem tik104 : TIok Tryz.prog 104 ti104 := ⟨by kernel_rfl, by kernel_rfl⟩
def ti106 : TI := ⟨(Go.TypeDesc.func #[3] #[4] false), 1, 8, Go.Value.nilFunc⟩
theorem tik106 : TIok Tryz.prog 106 ti106 := ⟨by kernel_rfl, by kernel_rfl⟩
def ti120 : TI := ⟨(Go.TypeDesc.struct #[{ name := "kind", type := 3, offset := 0, embedded := false, tag := "", pkgPath := "shamrock/coord", byteOffset := 0 }, { name := "session", type := 3, offset := 1, embedded := false, tag := "", pkgPath := "shamrock/coord", byteOffset := 8 }, { name := "phase", type := 3, offset := 2, embedded := false, tag := "", pkgPath := "shamrock/coord", byteOffset := 16 }, { name := "sort", type := 3, offset := 3, embedded := false, tag := "", pkgPath := "shamrock/coord", byteOffset := 24 }, { name := "target", type := 3, offset := 4, embedded := false, tag := "", pkgPath := "shamrock/coord", byteOffset := 32 }, { name := "head", type := 79, offset := 5, embedded := false, tag := "", pkgPath := "shamrock/coord", byteOffset := 40 }, { name := "parts", type := 34, offset := 7, embedded := false, tag := "", pkgPath := "shamrock/coord", byteOffset := 64 }, { name := "dealers", type := 34, offset := 8, embedded := false, tag := "", pkgPath := "shamrock/coord", byteOffset := 88 }, { name := "list", type := 34, offset := 9, embedded := false, tag := "", pkgPath := "shamrock/coord", byteOffset := 112 }, { name := "queue", type := 34, offset := 10, embedded := false, tag := "", pkgPath := "shamrock/coord", byteOffset := 136 }, { name := "got", type := 100, offset := 11, embedded := false, tag := "", pkgPath := "shamrock/coord", byteOffset := 160 }]), 12, 168, (Go.Value.agg #[(Go.Value.int Go.IntKind.i64 0), (Go.Value.int Go.IntKind.i64 0), (Go.Value.int Go.IntKind.i64 0), (Go.Value.int Go.IntKind.i64 0), (Go.Value.int Go.IntKind.i64 0), (Go.Value.string { data := #[] }), (Go.Value.int Go.IntKind.i64 0), (Go.Value.slice none 0 0), (Go.Value.slice none 0 0), (Go.Value.slice none 0 0), (Go.Value.slice none 0 0), (Go.Value.map none)])⟩
theorem tik120 : TIok Tryz.prog 120 ti120 := ⟨by kernel_rfl, by kernel_rfl⟩
def ti122 : TI := ⟨(Go.TypeDesc.struct #[{ name := "p", type := 23, offset := 0, embedded := false, tag := "", pkgPath := "shamrock/coord", byteOffset := 0 }, { name := "f", type := 98, offset := 5, embedded := false, tag := "", pkgPath := "shamrock/coord", byteOffset := 40 }, { name := "b", type := 56, offset := 6, embedded := false, tag := "", pkgPath := "shamrock/coord", byteOffset := 48 }, { name := "now", type := 120, offset := 7, embedded := false, tag := "", pkgPath := "shamrock/coord", byteOffset := 56 }]), 19, 224, (Go.Value.agg (rl [(5, (Go.Value.int Go.IntKind.i64 0)), (2, (Go.Value.pointer none)), (5, (Go.Value.int Go.IntKind.i64 0)), (1, (Go.Value.string { data := #[] })), (1, (Go.Value.int Go.IntKind.i64 0)), (4, (Go.Value.slice none 0 0)), (1, (Go.Value.map none))]))⟩
theorem tik122 : TIok Tryz.prog 122 ti122 := ⟨by kernel_rfl, by kernel_rfl⟩
def ti125 : TI := ⟨(Go.TypeDesc.pointer 197), 1, 8, (Go.Value.pointer none)⟩
theorem tik125 : TIok Tryz.prog 125 ti125 := ⟨by kernel_rfl, by kernel_rfl⟩
def ti127 : TI := ⟨(Go.TypeDesc.struct #[{ name := "p", type := 23, offset := 0, embedded := false, tag := "", pkgPath := "shamrock/book", byteOffset := 0 }, { name := "s", type := 125, offset := 5, embedded := false, tag := "", pkgPath := "shamrock/book", byteOffset := 40 }, { name := "off", type := 4, offset := 6, embedded := false, tag := "", pkgPath := "shamrock/book", byteOffset := 48 }]), 7, 56, (Go.Value.agg #[(Go.Value.int Go.IntKind.i64 0), (Go.Value.int Go.IntKind.i64 0), (Go.Value.int Go.IntKind.i64 0), (Go.Value.int Go.IntKind.i64 0), (Go.Value.int Go.IntKind.i64 0), (Go.Value.pointer none), (Go.Value.bool false)])⟩
theorem tik127 : TIok Tryz.prog 127 ti127 := ⟨by kernel_rfl, by kernel_rfl⟩
def ti128 : TI := ⟨(Go.TypeDesc.func #[] #[36] false), 1, 8, Go.Value.nilFunc⟩
theorem tik128 : TIok Tryz.prog 128 ti128 := ⟨by kernel_rfl, by kernel_rfl⟩
def ti132 : TI := ⟨(Go.TypeDesc.pointer 134), 1, 8, (Go.Value.pointer none)⟩
theorem tik132 : TIok Tryz.prog 132 ti132 := ⟨by kernel_rfl, by kernel_rfl⟩
def ti134 : TI := ⟨(Go.TypeDesc.struct #[{ name := "Out", type := 36, offset := 0, embedded := false, tag := "", pkgPath := "", byteOffset := 0 }, { name := "Bad", type := 4, offset := 1, embedded := false, tag := "", pkgPath := "", byteOffset := 24 }]), 2, 32, (Go.Value.agg #[(Go.Value.slice none 0 0), (Go.Value.bool false)])⟩
theorem tik134 : TIok Tryz.prog 134 ti134 := ⟨by kernel_rfl, by kernel_rfl⟩
def ti149 : TI := ⟨(Go.TypeDesc.struct #[{ name := "Room", type := 3, offset := 0, embedded := false, tag := "", pkgPath := "", byteOffset := 0 }, { name := "Left", type := 3, offset := 1, embedded := false, tag := "", pkgPath := "", byteOffset := 8 }, { name := "Writes", type := 3, offset := 2, embedded := false, tag := "", pkgPath := "", byteOffset := 16 }, { name := "Gone", type := 4, offset := 3, embedded := false, tag := "", pkgPath := "", byteOffset := 24 }, { name := "Dirty", type := 4, offset := 4, embedded := false, tag := "", pkgPath := "", byteOffset := 25 }, { name := "Kept", type := 36, offset := 5, embedded := false, tag := "", pkgPath := "", byteOffset := 32 }]), 6, 56, (Go.Value.agg #[(Go.Value.int Go.IntKind.i64 0), (Go.Value.int Go.IntKind.i64 0), (Go.Value.int Go.IntKind.i64 0), (Go.Value.bool false), (Go.Value.bool false), (Go.Value.slice none 0 0)])⟩
theorem tik149 : TIok Tryz.prog 149 ti149 := ⟨by kernel_rfl, by kernel_rfl⟩
def ti152 : TI := ⟨(Go.TypeDesc.pointer 55), 1, 8, (Go.Value.pointer none)⟩
theorem tik152 : TIok Tryz.prog 152 ti152 := ⟨by kernel_rfl, by kernel_rfl⟩
def ti154 : TI := ⟨(Go.TypeDesc.struct #[{ name := "left", type := 36, offset := 0, embedded := false, tag := "", pkgPath := "shamrock/tape", byteOffset := 0 }, { name := "used", type := 3, offset := 1, embedded := false, tag := "", pkgPath := "shamrock/tape", byteOffset := 24 }]), 2, 32, (Go.Value.agg #[(Go.Value.slice none 0 0), (Go.Value.int Go.IntKind.i64 0)])⟩
theorem tik154 : TIok Tryz.prog 154 ti154 := ⟨by kernel_rfl, by kernel_rfl⟩
def ti161 : TI := ⟨(Go.TypeDesc.array 510 5), 510, 510, (Go.Value.agg (rl [(510, (Go.Value.int Go.IntKind.u8 0))]))⟩
theorem tik161 : TIok Tryz.prog 161 ti161 := ⟨by kernel_rfl, by kernel_rfl⟩
def ti162 : TI := ⟨(Go.TypeDesc.array 256 3), 256, 2048, (Go.Value.agg (rl [(256, (Go.Value.int Go.IntKind.i64 0))]))⟩
theorem tik162 : TIok Tryz.prog 162 ti162 := ⟨by kernel_rfl, by kernel_rfl⟩
def ti164 : TI := ⟨(Go.TypeDesc.struct #[{ name := "exp", type := 161, offset := 0, embedded := false, tag := "", pkgPath := "shamrock/gf", byteOffset := 0 }, { name := "log", type := 162, offset := 510, embedded := false, tag := "", pkgPath := "shamrock/gf", byteOffset := 512 }]), 766, 2560, (Go.Value.agg (rl [(510, (Go.Value.int Go.IntKind.u8 0)), (256, (Go.Value.int Go.IntKind.i64 0))]))⟩
theorem tik164 : TIok Tryz.prog 164 ti164 := ⟨by kernel_rfl, by kernel_rfl⟩
def ti165 : TI := ⟨(Go.TypeDesc.func #[221] #[] false), 1, 8, Go.Value.nilFunc⟩
theorem tik165 : TIok Tryz.prog 165 ti165 := ⟨by kernel_rfl, by kernel_rfl⟩
def ti166 : TI := ⟨(Go.TypeDesc.func #[221] #[] false), 1, 8, Go.Value.nilFunc⟩
theorem tik166 : TIok Tryz.prog 166 ti166 := ⟨by kernel_rfl, by kernel_rfl⟩
def ti169 : TI := ⟨(Go.TypeDesc.func #[106] #[] false), 1, 8, Go.Value.nilFunc⟩
theorem tik169 : TIok Tryz.prog 169 ti169 := ⟨by kernel_rfl, by kernel_rfl⟩
def ti170 : TI := ⟨(Go.TypeDesc.func #[106] #[] false), 1, 8, Go.Value.nilFunc⟩
theorem tik170 : TIok Tryz.prog 170 ti170 := ⟨by kernel_rfl, by kernel_rfl⟩
def ti180 : TI := ⟨(Go.TypeDesc.func #[5, 5] #[5] false), 1, 8, Go.Value.nilFunc⟩
theorem tik180 : TIok Tryz.prog 180 ti180 := ⟨by kernel_rfl, by kernel_rfl⟩
def ti185 : TI := ⟨(Go.TypeDesc.func #[152] #[35] false), 1, 8, Go.Value.nilFunc⟩
theorem tik185 : TIok Tryz.prog 185 ti185 := ⟨by kernel_rfl, by kernel_rfl⟩
def ti192 : TI := ⟨(Go.TypeDesc.struct #[{ name := "side", type := 3, offset := 0, embedded := false, tag := "", pkgPath := "shamrock/slot", byteOffset := 0 }, { name := "length", type := 3, offset := 1, embedded := false, tag := "", pkgPath := "shamrock/slot", byteOffset := 8 }]), 2, 16, (Go.Value.agg #[(Go.Value.int Go.IntKind.i64 0), (Go.Value.int Go.IntKind.i64 0)])⟩
theorem tik192 : TIok Tryz.prog 192 ti192 := ⟨by kernel_rfl, by kernel_rfl⟩
def ti195 : TI := ⟨(Go.TypeDesc.pointer 239), 1, 8, (Go.Value.pointer none)⟩
theorem tik195 : TIok Tryz.prog 195 ti195 := ⟨by kernel_rfl, by kernel_rfl⟩
def ti197 : TI := ⟨(Go.TypeDesc.struct #[{ name := "d", type := 195, offset := 0, embedded := false, tag := "", pkgPath := "shamrock/slot", byteOffset := 0 }, { name := "room", type := 3, offset := 1, embedded := false, tag := "", pkgPath := "shamrock/slot", byteOffset := 8 }]), 2, 16, (Go.Value.agg #[(Go.Value.pointer none), (Go.Value.int Go.IntKind.i64 0)])⟩
theorem tik197 : TIok Tryz.prog 197 ti197 := ⟨by kernel_rfl, by kernel_rfl⟩
def ti198 : TI := ⟨(Go.TypeDesc.pointer 241), 1, 8, (Go.Value.pointer none)⟩
theorem tik198 : TIok Tryz.prog 198 ti198 := ⟨by kernel_rfl, by kernel_rfl⟩
def ti201 : TI := ⟨(Go.TypeDesc.struct #[{ name := "Reader", type := 198, offset := 0, embedded := true, tag := "", pkgPath := "", byteOffset := 0 }, { name := "most", type := 3, offset := 1, embedded := false, tag := "", pkgPath := "shamrock/rec", byteOffset := 8 }]), 2, 16, (Go.Value.agg #[(Go.Value.pointer none), (Go.Value.int Go.IntKind.i64 0)])⟩
theorem tik201 : TIok Tryz.prog 201 ti201 := ⟨by kernel_rfl, by kernel_rfl⟩
def ti203 : TI := ⟨(Go.TypeDesc.func #[79, 34] #[35] false), 1, 8, Go.Value.nilFunc⟩
theorem tik203 : TIok Tryz.prog 203 ti203 := ⟨by kernel_rfl, by kernel_rfl⟩
def ti205 : TI := ⟨(Go.TypeDesc.func #[36] #[36, 4] false), 1, 8, Go.Value.nilFunc⟩
theorem tik205 : TIok Tryz.prog 205 ti205 := ⟨by kernel_rfl, by kernel_rfl⟩
def ti207 : TI := ⟨(Go.TypeDesc.map 3 3), 1, 8, (Go.Value.map none)⟩
theorem tik207 : TIok Tryz.prog 207 ti207 := ⟨by kernel_rfl, by kernel_rfl⟩
def ti215 : TI := ⟨(Go.TypeDesc.func #[98, 36] #[36] false), 1, 8, Go.Value.nilFunc⟩
theorem tik215 : TIok Tryz.prog 215 ti215 := ⟨by kernel_rfl, by kernel_rfl⟩
def ti216 : TI := ⟨(Go.TypeDesc.func #[256] #[] false), 1, 8, Go.Value.nilFunc⟩
theorem tik216 : TIok Tryz.prog 216 ti216 := ⟨by kernel_rfl, by kernel_rfl⟩
def ti217 : TI := ⟨(Go.TypeDesc.func #[256] #[] false), 1, 8, Go.Value.nilFunc⟩
theorem tik217 : TIok Tryz.prog 217 ti217 := ⟨by kernel_rfl, by kernel_rfl⟩
def ti218 : TI := ⟨(Go.TypeDesc.func #[23, 3, 3, 36] #[217] false), 1, 8, Go.Value.nilFunc⟩
theorem tik218 : TIok Tryz.prog 218 ti218 := ⟨by kernel_rfl, by kernel_rfl⟩
def ti219 : TI := ⟨(Go.TypeDesc.func #[98, 36, 36] #[36, 4] false), 1, 8, Go.Value.nilFunc⟩
theorem tik219 : TIok Tryz.prog 219 ti219 := ⟨by kernel_rfl, by kernel_rfl⟩
def ti221 : TI := ⟨(Go.TypeDesc.func #[3, 5] #[4] false), 1, 8, Go.Value.nilFunc⟩
theorem tik221 : TIok Tryz.prog 221 ti221 := ⟨by kernel_rfl, by kernel_rfl⟩
def ti228 : TI := ⟨(Go.TypeDesc.func #[36] #[4] false), 1, 8, Go.Value.nilFunc⟩
theorem tik228 : TIok Tryz.prog 228 ti228 := ⟨by kernel_rfl, by kernel_rfl⟩
def ti230 : TI := ⟨(Go.TypeDesc.int Go.IntKind.u64), 1, 8, (Go.Value.int Go.IntKind.u64 0)⟩
theorem tik230 : TIok Tryz.prog 230 ti230 := ⟨by kernel_rfl, by kernel_rfl⟩
def ti234 : TI := ⟨(Go.TypeDesc.func #[79, 9] #[3] false), 1, 8, Go.Value.nilFunc⟩
theorem tik234 : TIok Tryz.prog 234 ti234 := ⟨by kernel_rfl, by kernel_rfl⟩
def ti236 : TI := ⟨(Go.TypeDesc.func #[79] #[4] false), 1, 8, Go.Value.nilFunc⟩
theorem tik236 : TIok Tryz.prog 236 ti236 := ⟨by kernel_rfl, by kernel_rfl⟩
def ti239 : TI := ⟨(Go.TypeDesc.struct #[{ name := "blocks", type := 31, offset := 0, embedded := false, tag := "", pkgPath := "shamrock/disk", byteOffset := 0 }, { name := "fuse", type := 3, offset := 1, embedded := false, tag := "", pkgPath := "shamrock/disk", byteOffset := 24 }, { name := "down", type := 4, offset := 2, embedded := false, tag := "", pkgPath := "shamrock/disk", byteOffset := 32 }, { name := "writes", type := 3, offset := 3, embedded := false, tag := "", pkgPath := "shamrock/disk", byteOffset := 40 }]), 4, 48, (Go.Value.agg #[(Go.Value.slice none 0 0), (Go.Value.int Go.IntKind.i64 0), (Go.Value.bool false), (Go.Value.int Go.IntKind.i64 0)])⟩
theorem tik239 : TIok Tryz.prog 239 ti239 := ⟨by kernel_rfl, by kernel_rfl⟩
def ti241 : TI := ⟨(Go.TypeDesc.struct #[{ name := "left", type := 36, offset := 0, embedded := false, tag := "", pkgPath := "shamrock/word", byteOffset := 0 }, { name := "bad", type := 4, offset := 1, embedded := false, tag := "", pkgPath := "shamrock/word", byteOffset := 24 }]), 2, 32, (Go.Value.agg #[(Go.Value.slice none 0 0), (Go.Value.bool false)])⟩
theorem tik241 : TIok Tryz.prog 241 ti241 := ⟨by kernel_rfl, by kernel_rfl⟩
def ti243 : TI := ⟨(Go.TypeDesc.pointer 270), 1, 8, (Go.Value.pointer none)⟩
theorem tik243 : TIok Tryz.prog 243 ti243 := ⟨by kernel_rfl, by kernel_rfl⟩
def ti245 : TI := ⟨(Go.TypeDesc.struct #[{ name := "Writer", type := 243, offset := 0, embedded := true, tag := "", pkgPath := "", byteOffset := 0 }]), 1, 8, (Go.Value.agg #[(Go.Value.pointer none)])⟩
theorem tik245 : TIok Tryz.prog 245 ti245 := ⟨by kernel_rfl, by kernel_rfl⟩
def ti246 : TI := ⟨(Go.TypeDesc.struct #[{ name := "Writer", type := 243, offset := 0, embedded := true, tag := "", pkgPath := "", byteOffset := 0 }]), 1, 8, (Go.Value.agg #[(Go.Value.pointer none)])⟩
theorem tik246 : TIok Tryz.prog 246 ti246 := ⟨by kernel_rfl, by kernel_rfl⟩
def ti256 : TI := ⟨(Go.TypeDesc.func #[3, 36] #[4] false), 1, 8, Go.Value.nilFunc⟩
theorem tik256 : TIok Tryz.prog 256 ti256 := ⟨by kernel_rfl, by kernel_rfl⟩
def ti267 : TI := ⟨(Go.TypeDesc.func #[36, 3] #[36] false), 1, 8, Go.Value.nilFunc⟩
theorem tik267 : TIok Tryz.prog 267 ti267 := ⟨by kernel_rfl, by kernel_rfl⟩
def ti268 : TI := ⟨(Go.TypeDesc.func #[36] #[217] false), 1, 8, Go.Value.nilFunc⟩
theorem tik268 : TIok Tryz.prog 268 ti268 := ⟨by kernel_rfl, by kernel_rfl⟩
def ti270 : TI := ⟨(Go.TypeDesc.struct #[{ name := "out", type := 36, offset := 0, embedded := false, tag := "", pkgPath := "shamrock/word", byteOffset := 0 }, { name := "bad", type := 4, offset := 1, embedded := false, tag := "", pkgPath := "shamrock/word", byteOffset := 24 }]), 2, 32, (Go.Value.agg #[(Go.Value.slice none 0 0), (Go.Value.bool false)])⟩
theorem tik270 : TIok Tryz.prog 270 ti270 := ⟨by kernel_rfl, by kernel_rfl⟩
def ti280 : TI := ⟨(Go.TypeDesc.func #[3, 3] #[4] false), 1, 8, Go.Value.nilFunc⟩
theorem tik280 : TIok Tryz.prog 280 ti280 := ⟨by kernel_rfl, by kernel_rfl⟩
def ti283 : TI := ⟨(Go.TypeDesc.func #[284] #[3] false), 1, 8, Go.Value.nilFunc⟩
theorem tik283 : TIok Tryz.prog 283 ti283 := ⟨by kernel_rfl, by kernel_rfl⟩
def ti284 : TI := ⟨(Go.TypeDesc.int Go.IntKind.u32), 1, 4, (Go.Value.int Go.IntKind.u32 0)⟩
theorem tik284 : TIok Tryz.prog 284 ti284 := ⟨by kernel_rfl, by kernel_rfl⟩
def ti285 : TI := ⟨(Go.TypeDesc.func #[286] #[3] false), 1, 8, Go.Value.nilFunc⟩
theorem tik285 : TIok Tryz.prog 285 ti285 := ⟨by kernel_rfl, by kernel_rfl⟩
def ti287 : TI := ⟨(Go.TypeDesc.array 256 4), 256, 256, (Go.Value.agg (rl [(256, (Go.Value.bool false))]))⟩
theorem tik287 : TIok Tryz.prog 287 ti287 := ⟨by kernel_rfl, by kernel_rfl⟩
def ti299 : TI := ⟨(Go.TypeDesc.pointer 301), 1, 8, (Go.Value.pointer none)⟩
theorem tik299 : TIok Tryz.prog 299 ti299 := ⟨by kernel_rfl, by kernel_rfl⟩
def ti301 : TI := ⟨(Go.TypeDesc.struct #[{ name := "f", type := 98, offset := 0, embedded := false, tag := "", pkgPath := "shamrock/solve", byteOffset := 0 }, { name := "rows", type := 31, offset := 1, embedded := false, tag := "", pkgPath := "shamrock/solve", byteOffset := 8 }, { name := "own", type := 34, offset := 2, embedded := false, tag := "", pkgPath := "shamrock/solve", byteOffset := 32 }]), 3, 56, (Go.Value.agg #[(Go.Value.pointer none), (Go.Value.slice none 0 0), (Go.Value.slice none 0 0)])⟩
theorem tik301 : TIok Tryz.prog 301 ti301 := ⟨by kernel_rfl, by kernel_rfl⟩
def ti308 : TI := ⟨(Go.TypeDesc.struct #[{ name := "_interface", type := 17, offset := 0, embedded := false, tag := "", pkgPath := "runtime", byteOffset := 0 }, { name := "concrete", type := 17, offset := 1, embedded := false, tag := "", pkgPath := "runtime", byteOffset := 8 }, { name := "asserted", type := 17, offset := 2, embedded := false, tag := "", pkgPath := "runtime", byteOffset := 16 }, { name := "missingMethod", type := 9, offset := 3, embedded := false, tag := "", pkgPath := "runtime", byteOffset := 24 }]), 4, 40, (Go.Value.agg #[(Go.Value.pointer none), (Go.Value.pointer none), (Go.Value.pointer none), (Go.Value.string { data := #[] })])⟩
theorem tik308 : TIok Tryz.prog 308 ti308 := ⟨by kernel_rfl, by kernel_rfl⟩
def ti312 : TI := ⟨(Go.TypeDesc.int Go.IntKind.u8), 1, 1, (Go.Value.int Go.IntKind.u8 0)⟩
theorem tik312 : TIok Tryz.prog 312 ti312 := ⟨by kernel_rfl, by kernel_rfl⟩
def ti313 : TI := ⟨(Go.TypeDesc.int Go.IntKind.u8), 1, 1, (Go.Value.int Go.IntKind.u8 0)⟩
theorem tik313 : TIok Tryz.prog 313 ti313 := ⟨by kernel_rfl, by kernel_rfl⟩
def ti314 : TI := ⟨(Go.TypeDesc.func #[320, 320] #[4] false), 1, 8, Go.Value.nilFunc⟩
theorem tik314 : TIok Tryz.prog 314 ti314 := ⟨by kernel_rfl, by kernel_rfl⟩
def ti315 : TI := ⟨(Go.TypeDesc.pointer 5), 1, 8, (Go.Value.pointer none)⟩
theorem tik315 : TIok Tryz.prog 315 ti315 := ⟨by kernel_rfl, by kernel_rfl⟩
def ti316 : TI := ⟨(Go.TypeDesc.int Go.IntKind.i32), 1, 4, (Go.Value.int Go.IntKind.i32 0)⟩
theorem tik316 : TIok Tryz.prog 316 ti316 := ⟨by kernel_rfl, by kernel_rfl⟩
def ti317 : TI := ⟨(Go.TypeDesc.int Go.IntKind.i32), 1, 4, (Go.Value.int Go.IntKind.i32 0)⟩
theorem tik317 : TIok Tryz.prog 317 ti317 := ⟨by kernel_rfl, by kernel_rfl⟩
def ti319 : TI := ⟨(Go.TypeDesc.struct #[{ name := "Size_", type := 12, offset := 0, embedded := false, tag := "", pkgPath := "", byteOffset := 0 }, { name := "PtrBytes", type := 12, offset := 1, embedded := false, tag := "", pkgPath := "", byteOffset := 8 }, { name := "Hash", type := 284, offset := 2, embedded := false, tag := "", pkgPath := "", byteOffset := 16 }, { name := "TFlag", type := 312, offset := 3, embedded := false, tag := "", pkgPath := "", byteOffset := 20 }, { name := "Align_", type := 5, offset := 4, embedded := false, tag := "", pkgPath := "", byteOffset := 21 }, { name := "FieldAlign_", type := 5, offset := 5, embedded := false, tag := "", pkgPath := "", byteOffset := 22 }, { name := "Kind_", type := 313, offset := 6, embedded := false, tag := "", pkgPath := "", byteOffset := 23 }, { name := "Equal", type := 314, offset := 7, embedded := false, tag := "", pkgPath := "", byteOffset := 24 }, { name := "GCData", type := 315, offset := 8, embedded := false, tag := "", pkgPath := "", byteOffset := 32 }, { name := "Str", type := 316, offset := 9, embedded := false, tag := "", pkgPath := "", byteOffset := 40 }, { name := "PtrToThis", type := 317, offset := 10, embedded := false, tag := "", pkgPath := "", byteOffset := 44 }]), 11, 48, (Go.Value.agg #[(Go.Value.int Go.IntKind.u64 0), (Go.Value.int Go.IntKind.u64 0), (Go.Value.int Go.IntKind.u32 0), (Go.Value.int Go.IntKind.u8 0), (Go.Value.int Go.IntKind.u8 0), (Go.Value.int Go.IntKind.u8 0), (Go.Value.int Go.IntKind.u8 0), Go.Value.nilFunc, (Go.Value.pointer none), (Go.Value.int Go.IntKind.i32 0), (Go.Value.int Go.IntKind.i32 0)])⟩
theorem tik319 : TIok Tryz.prog 319 ti319 := ⟨by kernel_rfl, by kernel_rfl⟩
def tb : TT := (.node 149 (.node 47 (.node 14 (.node 7 (.node 4 (.node 2 (.leaf 1 ti1) (.node 3 (.leaf 2 ti2) (.leaf 3 ti3))) (.node 5 (.leaf 4 ti4) (.node 6 (.leaf 5 ti5) (.leaf 6 ti6)))) (.node 10 (.node 8 (.leaf 7 ti7) (.node 9 (.leaf 8 ti8) (.leaf 9 ti9))) (.node 12 (.node 11 (.leaf 10 ti10) (.leaf 11 ti11)) (.node 13 (.leaf 12 ti12) (.leaf 13 ti13))))) (.node 31 (.node 23 (.node 15 (.leaf 14 ti14) (.node 17 (.leaf 15 ti15) (.leaf 17 ti17))) (.node 24 (.leaf 23 ti23) (.node 27 (.leaf 24 ti24) (.leaf 27 ti27)))) (.node 34 (.node 32 (.leaf 31 ti31) (.node 33 (.leaf 32 ti32) (.leaf 33 ti33))) (.node 36 (.node 35 (.leaf 34 ti34) (.leaf 35 ti35)) (.node 38 (.leaf 36 ti36) (.leaf 38 ti38)))))) (.node 90 (.node 70 (.node 55 (.node 48 (.leaf 47 ti47) (.node 51 (.leaf 48 ti48) (.leaf 51 ti51))) (.node 56 (.leaf 55 ti55) (.node 67 (.leaf 56 ti56) (.leaf 67 ti67)))) (.node 79 (.node 74 (.leaf 70 ti70) (.node 77 (.leaf 74 ti74) (.leaf 77 ti77))) (.node 84 (.node 81 (.leaf 79 ti79) (.leaf 81 ti81)) (.node 88 (.leaf 84 ti84) (.leaf 88 ti88))))) (.node 120 (.node 100 (.node 91 (.leaf 90 ti90) (.node 98 (.leaf 91 ti91) (.leaf 98 ti98))) (.node 104 (.node 102 (.leaf 100 ti100) (.leaf 102 ti102)) (.node 106 (.leaf 104 ti104) (.leaf 106 ti106)))) (.node 127 (.node 122 (.leaf 120 ti120) (.node 125 (.leaf 122 ti122) (.leaf 125 ti125))) (.node 132 (.node 128 (.leaf 127 ti127) (.leaf 128 ti128)) (.node 134 (.leaf 132 ti132) (.leaf 134 ti134))))))) (.node 230 (.node 195 (.node 165 (.node 161 (.node 152 (.leaf 149 ti149) (.node 154 (.leaf 152 ti152) (.leaf 154 ti154))) (.node 162 (.leaf 161 ti161) (.node 164 (.leaf 162 ti162) (.leaf 164 ti164)))) (.node 170 (.node 166 (.leaf 165 ti165) (.node 169 (.leaf 166 ti166) (.leaf 169 ti169))) (.node 185 (.node 180 (.leaf 170 ti170) (.leaf 180 ti180)) (.node 192 (.leaf 185 ti185) (.leaf 192 ti192))))) (.node 215 (.node 201 (.node 197 (.leaf 195 ti195) (.node 198 (.leaf 197 ti197) (.leaf 198 ti198))) (.node 205 (.node 203 (.leaf 201 ti201) (.leaf 203 ti203)) (.node 207 (.leaf 205 ti205) (.leaf 207 ti207)))) (.node 218 (.node 216 (.leaf 215 ti215) (.node 217 (.leaf 216 ti216) (.leaf 217 ti217))) (.node 221 (.node 219 (.leaf 218 ti218) (.leaf 219 ti219)) (.node 228 (.leaf 221 ti221) (.leaf 228 ti228)))))) (.node 283 (.node 245 (.node 239 (.node 234 (.leaf 230 ti230) (.node 236 (.leaf 234 ti234) (.leaf 236 ti236))) (.node 241 (.leaf 239 ti239) (.node 243 (.leaf 241 ti241) (.leaf 243 ti243)))) (.node 267 (.node 246 (.leaf 245 ti245) (.node 256 (.leaf 246 ti246) (.leaf 256 ti256))) (.node 270 (.node 268 (.leaf 267 ti267) (.leaf 268 ti268)) (.node 280 (.leaf 270 ti270) (.leaf 280 ti280))))) (.node 312 (.node 287 (.node 284 (.leaf 283 ti283) (.node 285 (.leaf 284 ti284) (.leaf 285 ti285))) (.node 301 (.node 299 (.leaf 287 ti287) (.leaf 299 ti299)) (.node 308 (.leaf 301 ti301) (.leaf 308 ti308)))) (.node 315 (.node 313 (.leaf 312 ti312) (.node 314 (.leaf 313 ti313) (.leaf 314 ti314))) (.node 317 (.node 316 (.leaf 315 ti315) (.leaf 316 ti316)) (.node 319 (.leaf 317 ti317) (.leaf 319 ti319))))))))
theorem tok : TblOk Tryz.prog tb := ⟨⟨⟨⟨⟨⟨tik1, ⟨tik2, tik3⟩⟩, ⟨tik4, ⟨tik5, tik6⟩⟩⟩, ⟨⟨tik7, ⟨tik8, tik9⟩⟩, ⟨⟨tik10, tik11⟩, ⟨tik12, tik13⟩⟩⟩⟩, ⟨⟨⟨tik14, ⟨tik15, tik17⟩⟩, ⟨tik23, ⟨tik24, tik27⟩⟩⟩, ⟨⟨tik31, ⟨tik32, tik33⟩⟩, ⟨⟨tik34, tik35⟩, ⟨tik36, tik38⟩⟩⟩⟩⟩, ⟨⟨⟨⟨tik47, ⟨tik48, tik51⟩⟩, ⟨tik55, ⟨tik56, tik67⟩⟩⟩, ⟨⟨tik70, ⟨tik74, tik77⟩⟩, ⟨⟨tik79, tik81⟩, ⟨tik84, tik88⟩⟩⟩⟩, ⟨⟨⟨tik90, ⟨tik91, tik98⟩⟩, ⟨⟨tik100, tik102⟩, ⟨tik104, tik106⟩⟩⟩, ⟨⟨tik120, ⟨tik122, tik125⟩⟩, ⟨⟨tik127, tik128⟩, ⟨tik132, tik134⟩⟩⟩⟩⟩⟩, ⟨⟨⟨⟨⟨tik149, ⟨tik152, tik154⟩⟩, ⟨tik161, ⟨tik162, tik164⟩⟩⟩, ⟨⟨tik165, ⟨tik166, tik169⟩⟩, ⟨⟨tik170, tik180⟩, ⟨tik185, tik192⟩⟩⟩⟩, ⟨⟨⟨tik195, ⟨tik197, tik198⟩⟩, ⟨⟨tik201, tik203⟩, ⟨tik205, tik207⟩⟩⟩, ⟨⟨tik215, ⟨tik216, tik217⟩⟩, ⟨⟨tik218, tik219⟩, ⟨tik221, tik228⟩⟩⟩⟩⟩, ⟨⟨⟨⟨tik230, ⟨tik234, tik236⟩⟩, ⟨tik239, ⟨tik241, tik243⟩⟩⟩, ⟨⟨tik245, ⟨tik246, tik256⟩⟩, ⟨⟨tik267, tik268⟩, ⟨tik270, tik280⟩⟩⟩⟩, ⟨⟨⟨tik283, ⟨tik284, tik285⟩⟩, ⟨⟨tik287, tik299⟩, ⟨tik301, tik308⟩⟩⟩, ⟨⟨tik312, ⟨tik313, tik314⟩⟩, ⟨⟨tik315, tik316⟩, ⟨tik317, tik319⟩⟩⟩⟩⟩⟩⟩
instance : Tbl Tryz.prog := ⟨tb, tok⟩
open Go.Vc.Plan in
section
def h3 : Hd := ⟨190, [0, 1, 2, 3, 4, 8, 9, 10, 11, 12, 13, 14, 15, 16, 17, 18, 19, 20, 22, 46, 67, 111, 117, 123, 137, 143, 188], [(6, (ql [0, 1, 3, 4] (.e 2 [3, 4] (ql [6] (.e 5 [0, 1, 2, 6] (ql [7] .fin) .nil)) (.e 5 [0, 1] (.e 2 [3, 4, 5] (ql [6, 7] .fin) .nil) .nil)))), (16, (ql [0, 1, 2, 3, 4, 5, 6, 7, 8] (.e 9 [3, 4, 5] (ql [10] (.e 11 [] .fin .nil)) .nil))), (23, (ql [0, 1, 4, 5, 6, 7, 8] (.e 2 [0, 4, 5, 6, 7, 8] (.e 3 [4, 5, 6, 7, 8] (.e 9 [0, 1, 2, 3, 4] (.e 10 [] (ql [11, 12] .fin) .nil) .nil) (.e 9 [0, 1, 2, 4] (.e 3 [4, 5, 6, 7, 8, 9] (.e 10 [] (ql [11, 12] .fin) .nil) .nil) .nil)) (.e 9 [0, 1, 4] (.e 2 [0, 4, 5, 6, 7, 8, 9] (.e 3 [4, 5, 6, 7, 8, 9] (.e 10 [] (ql [11, 12] .fin) .nil) .nil) .nil) .nil)))), (25, (ql [0, 1, 2, 3, 4, 5, 6, 7, 8, 9, 10] (.e 11 [6, 7] (ql [12, 13, 14, 15, 16, 17, 18, 19, 20, 21, 22, 23, 24] .fin) .nil)))]⟩
def h4 : Hd := ⟨143, [0, 1, 2, 3, 4, 5, 10, 11, 12, 13, 14, 15, 16, 17, 18, 19, 20, 45, 62, 92, 123, 141], [(3, (ql [0, 2] (.e 1 [2] (.e 3 [] (ql [4, 5] .fin) .nil) .nil))), (14, (ql [0, 1, 2, 3, 4, 5, 6, 7, 8, 9, 10, 11, 12, 13, 14, 15] (.e 16 [10, 11, 12] (ql [17, 18, 19, 20, 21, 22, 23, 24, 25, 26] .fin) .nil)))]⟩
def h5 : Hd := ⟨99, [0, 1, 2, 3, 4, 5, 6, 8, 9, 10, 11, 13, 32, 43], [(11, (.e 0 [] (ql [1, 2, 3, 4, 5, 6, 7, 8, 9, 10, 11, 12, 13, 14, 15, 16, 17, 18, 19, 20, 21] (.e 22 [20] (.e 23 [20] (.e 24 [] (ql [25, 26, 27, 28, 29, 30, 31, 32, 33, 34, 35] .fin) .nil) .nil) .nil)) .nil))]⟩
def h6 : Hd := ⟨96, [0, 1, 2, 3, 4, 5, 6, 8, 9, 10, 11, 12, 13, 14, 15, 16, 33, 52], [(12, (.e 0 [] (ql [1, 2, 3] (.e 4 [] (ql [5, 6, 7, 8, 9, 10, 11, 12, 13, 14, 15, 16, 17, 18, 19, 20, 21, 22, 23] (.e 24 [22] (.e 25 [22] (.e 26 [] (ql [27, 28] .fin) .nil) .nil) .nil)) .nil)) .nil))]⟩
def h7 : Hd := ⟨94, [0, 1, 2, 4, 5, 6, 7, 8, 12, 19, 26, 27, 39, 51, 55, 65, 92], [(20, (ql [0, 1, 2, 3, 4, 5, 6, 7, 8, 9, 10, 11, 12, 13, 14, 15, 16, 17, 18, 19, 20, 21, 22, 23, 24] .fin))]⟩
def h8 : Hd := ⟨95, [0, 1, 2, 3, 4, 6, 7, 8, 9, 10, 11, 12, 13, 14, 15, 16], [(9, (.e 0 [] (ql [1, 2, 3] (.e 4 [] (ql [5, 6, 7, 8] (.e 9 [] (ql [10, 11, 12, 13] (.e 14 [] (ql [15, 16, 17, 18, 20] (.e 19 [20] (.e 21 [] (ql [22, 23, 24, 25, 26, 27, 28, 29, 30, 31, 32] (.e 33 [24, 25, 26, 27, 28, 29, 30, 31] (ql [34, 35, 36, 37, 38, 39, 40, 41, 42, 43, 44, 45, 46, 47] (.e 48 [] (ql [49, 50, 51] .fin) .nil)) .nil)) .nil) .nil)) .nil)) .nil)) .nil)) .nil))]⟩
def h9 : Hd := ⟨200, [0, 1, 2, 4, 5, 6, 7, 8, 9, 10, 11, 12, 13, 14, 18, 27, 35, 36, 52, 68, 74, 86, 98, 110, 120, 128, 198], [(3, (ql [0, 2] (.e 1 [2] (.e 3 [] (ql [4, 5] .fin) .nil) .nil))), (35, (ql [0, 2, 3] (.e 1 [2, 3] (.e 4 [] .fin .nil) .nil))), (36, (ql [0, 1, 2, 3, 4, 5, 6] (.e 7 [] .fin .nil))), (38, (ql [0, 1] (.e 2 [] (ql [3, 4, 5, 6] (.e 7 [] (ql [8, 9, 10, 11, 12, 13, 14, 15, 16, 17, 18, 19, 20, 21, 22, 23, 24, 25, 26, 27, 30, 31, 32, 33, 34, 35, 36] (.e 28 [30, 31, 32, 33, 34, 35, 36] (.e 29 [30, 31, 32, 33, 34, 35, 36] (.e 37 [] (ql [38, 39, 40, 41, 44, 45, 46, 47] (.e 42 [44, 45, 46, 47] (.e 43 [44, 45, 46, 47] (.e 48 [] (ql [49, 50] .fin) .nil) .nil) .nil)) .nil) .nil) .nil)) .nil)) .nil)))]⟩
def h10 : Hd := ⟨66, [0, 1, 2, 4, 13, 14, 15, 16, 24], []⟩
def h18 : Hd := ⟨64, [0, 1, 2, 3, 4, 5, 6], []⟩
def h19 : Hd := ⟨9, [0, 1, 2], [(1, (ql [0, 2] (.e 1 [0, 2] (.e 3 [0] (ql [4] (.e 5 [] (ql [6] .fin) .nil)) .nil) .nil)))]⟩
def h20 : Hd := ⟨75, [0, 1, 3, 4, 5, 6, 7, 8, 12, 19, 28, 29, 39, 50, 57], [(9, (ql [0, 1, 2, 3, 4, 5] (.e 6 [] (.e 7 [] (.e 8 [] (ql [9] .fin) .nil) .nil) .nil)))]⟩
def h22 : Hd := ⟨25, [0, 2, 3, 4, 7, 16], []⟩
def h23 : Hd := ⟨83, [0, 2, 3, 4, 5, 7, 10, 33, 36, 68], []⟩
def h24 : Hd := ⟨16, [0, 2, 3, 5], [(3, (ql [0, 1, 2, 3, 4, 5, 6, 7, 8, 9, 10, 11] .fin))]⟩
def h26 : Hd := ⟨68, [0, 1, 2, 3, 4], [(10, (ql [0, 1, 2, 3, 4, 5, 6, 7, 8, 9, 10] .fin))]⟩
def h27 : Hd := ⟨135, [0, 1, 3, 4, 5, 7, 8, 9, 13, 39, 58, 76, 101, 120], [(3, (ql [0] (.e 1 [] (ql [2, 3, 4, 5, 6, 7, 8, 9, 10, 11, 12, 13, 14, 15, 16, 17, 18, 19, 20] (.e 21 [] (ql [22, 23, 24] .fin) .nil)) .nil))), (9, (ql [0, 1, 2, 3, 4, 5, 6] (.e 7 [] (ql [8, 9, 10, 11, 12] .fin) .nil))), (11, (ql [0, 1, 2, 3, 4, 5, 6, 7, 8] (.e 9 [0, 1, 2, 3, 4, 5, 6] (.e 10 [] .fin .nil) .nil))), (13, (ql [0, 1, 2, 3, 4, 5, 6, 7, 8, 9, 10, 11, 12, 13, 14, 15, 16, 17] .fin))]⟩
def h29 : Hd := ⟨38, [0, 1, 2, 4, 5, 7, 20, 24, 37], []⟩
def h30 : Hd := ⟨7, [0, 2, 4], []⟩
def h32 : Hd := ⟨13, [0, 3], []⟩
def h43 : Hd := ⟨18, [0, 2], []⟩
def h51 : Hd := ⟨29, [0, 1, 2, 3, 6, 7, 8], [(5, (ql [0, 1, 2, 3, 4, 5, 6, 7, 8, 9, 11, 12] (.e 10 [2, 3, 4, 6, 11, 12] (ql [13] (.e 14 [] .fin .nil)) .nil)))]⟩
def h55 : Hd := ⟨22, [0, 1, 4, 5, 11, 18], []⟩
def h56 : Hd := ⟨8, [0, 2, 4], []⟩
def h65 : Hd := ⟨7, [0, 1, 2], [(1, (ql [0] (.e 1 [0] (ql [2] (.e 3 [] (ql [4] .fin) .nil)) .nil)))]⟩
def h66 : Hd := ⟨5, [0, 2], []⟩
def h67 : Hd := ⟨8, [0, 1, 3, 4], []⟩
def h68 : Hd := ⟨32, [0, 1, 4, 5, 6, 7, 13, 14, 15, 16, 25], []⟩
def h69 : Hd := ⟨113, [0, 1, 3, 4, 5, 6, 7, 8, 10, 11, 18, 28, 44, 52, 65, 87, 101], [(16, (ql [0, 1, 2, 3, 4, 5, 6, 7, 8, 9, 10, 11, 12] .fin)), (18, (ql [0, 1, 2, 3, 4, 5] (.e 6 [0, 1, 2, 3] (.e 7 [] (ql [8] .fin) .nil) .nil)))]⟩
def h70 : Hd := ⟨47, [0, 2, 3, 4, 5, 6, 9, 14, 20, 21, 22], [(10, (ql [0, 1, 2, 3, 4, 5, 6, 7] (.e 8 [0, 1, 2, 3] (.e 9 [] (ql [10, 11, 12, 13, 14] .fin) .nil) .nil)))]⟩
def h71 : Hd := ⟨30, [0, 2, 3, 4, 20, 21, 22], [(1, (ql [0, 1, 2, 3, 4, 6, 7, 8, 9, 10] (.e 5 [6, 7, 8, 9, 10] (.e 11 [0, 1, 2, 3, 4, 5] (ql [12] (.e 13 [0, 1, 2, 3, 4, 5, 6, 7, 8, 9, 10, 11, 12] (.e 14 [] .fin .nil) .nil)) (.e 13 [0, 1, 2, 3, 4, 5, 6, 7, 8, 9, 10] (.e 11 [0, 1, 2, 3, 4, 5, 13] (ql [12] (.e 14 [] .fin .nil)) .nil) .nil)) (.e 11 [0, 1, 2, 3, 4] (.e 5 [6, 7, 8, 9, 10, 11] (ql [12] (.e 13 [0, 1, 2, 3, 4, 5, 6, 7, 8, 9, 10, 11, 12] (.e 14 [] .fin .nil) .nil)) (.e 13 [0, 1, 2, 3, 4, 6, 7, 8, 9, 10, 11] (.e 5 [6, 7, 8, 9, 10, 11, 13] (ql [12] (.e 14 [] .fin .nil)) .nil) .nil)) (.e 13 [0, 1, 2, 3, 4, 6, 7, 8, 9, 10] (.e 5 [6, 7, 8, 9, 10, 13] (.e 11 [0, 1, 2, 3, 4, 5, 13] (ql [12] (.e 14 [] .fin .nil)) .nil) (.e 11 [0, 1, 2, 3, 4, 13] (.e 5 [6, 7, 8, 9, 10, 11, 13] (ql [12] (.e 14 [] .fin .nil)) .nil) .nil)) .nil)))))]⟩
def h72 : Hd := ⟨94, [0, 2, 3, 4, 5, 6, 7, 8, 27, 28, 29, 47, 48, 49, 61, 62, 63, 91], [(13, (ql [0, 1, 2, 3] (.e 4 [0, 1] (ql [5] (.e 6 [0, 1] (.e 7 [] (ql [8] (.e 9 [] .fin .nil)) .nil) .nil)) .nil))), (17, (ql [0, 1, 2, 3] (.e 4 [0, 1] (.e 5 [0, 1] (.e 6 [] (ql [7] (.e 8 [] .fin .nil)) .nil) .nil) .nil)))]⟩
def h73 : Hd := ⟨20, [0, 2], []⟩
def h74 : Hd := ⟨20, [0, 2], [(1, (ql [0, 1, 2, 3, 4, 5, 6, 7, 8, 9, 10, 11, 12, 13, 14, 15, 16, 17] .fin))]⟩
def h75 : Hd := ⟨11, [0, 2], [(1, (ql [0, 2, 3, 4, 5, 6] (.e 1 [2, 3, 4, 5, 6] (ql [7, 8] .fin) .nil)))]⟩
def h76 : Hd := ⟨12, [0, 1, 4, 5], []⟩
def h77 : Hd := ⟨39, [0, 2, 3], [(2, (ql [0, 1, 2, 3, 4, 5, 6, 7, 8, 9, 10, 11, 12] (.e 13 [0] (ql [14, 15, 16] (.e 17 [] .fin .nil)) .nil)))]⟩
def h78 : Hd := ⟨80, [0, 2, 3, 4, 10, 31, 32, 45, 70], [(2, (ql [0, 1, 2, 3, 4, 5, 6, 7, 8, 9, 10] (.e 11 [0, 1, 2, 3, 4, 5, 6, 7, 8, 9] (.e 12 [0] (.e 13 [] (ql [14, 15] (.e 16 [] (ql [17] .fin) .nil)) .nil) .nil) .nil))), (5, (ql [0, 1, 2, 3, 4, 5] (.e 6 [0, 1, 2, 3, 4] (.e 7 [0] (.e 8 [] (ql [9, 10] (.e 11 [] (ql [12] .fin) .nil)) .nil) .nil) .nil))), (8, (ql [0, 1, 2, 3, 4, 5, 6, 7, 8] (.e 9 [] (ql [10] .fin) .nil)))]⟩
def h80 : Hd := ⟨41, [0, 1, 4, 5, 6, 10], [(4, (ql [0, 1, 2, 3, 4, 5, 6, 8, 9, 10, 11] (.e 7 [0, 1, 8, 9, 10, 11] (ql [12, 13, 14, 15, 16, 17] (.e 18 [1, 13, 14, 15] (ql [19, 20] (.e 21 [] .fin .nil)) .nil)) .nil)))]⟩
def h81 : Hd := ⟨32, [0, 1, 4, 13], []⟩
def h82 : Hd := ⟨31, [0, 1, 4, 5], [(1, (ql [0, 1, 2, 3, 4, 5, 6, 8, 9, 10, 11] (.e 7 [0, 1, 8, 9, 10, 11] (ql [12, 13, 14, 15, 16, 17] (.e 18 [1, 13, 14, 15] (ql [19, 20] (.e 21 [] .fin .nil)) .nil)) .nil)))]⟩
def h83 : Hd := ⟨12, [0, 1], []⟩
def h84 : Hd := ⟨37, [0, 1, 4], []⟩
def h85 : Hd := ⟨8, [0, 2, 3, 4], []⟩
def h86 : Hd := ⟨69, [0, 1, 3, 4, 9, 10, 15, 20, 26, 27, 32], [(11, (ql [0, 1, 2, 3, 4, 5, 6, 7, 8, 9, 10, 11, 12, 13] .fin)), (12, (ql [0, 1, 2, 3, 4, 5, 6, 7, 8, 9] (.e 10 [4, 5] (ql [11] (.e 12 [] (ql [13, 14, 15, 16, 17, 18] (.e 19 [15, 16, 17] (ql [20, 21, 22] .fin) .nil)) .nil)) .nil)))]⟩
def h88 : Hd := ⟨75, [0, 2, 3, 4, 5, 6, 8, 10, 34, 40, 41, 42, 43, 64], []⟩
def h108 : Hd := ⟨12, [0, 2], []⟩
def h113 : Hd := ⟨8, [0, 2, 4], []⟩
def h114 : Hd := ⟨8, [0, 2, 4], []⟩
def h115 : Hd := ⟨1, [0], []⟩
def h116 : Hd := ⟨9, [0, 2, 3], []⟩
def h117 : Hd := ⟨4, [0, 1, 2], []⟩
def h118 : Hd := ⟨77, [0, 1, 2, 3, 4, 6, 10, 11, 12, 13, 14, 15, 16, 17, 19, 25, 29, 30, 31, 52, 57, 58, 59, 60], [(7, (ql [0, 1, 2, 3, 5, 6, 7, 8, 9, 10, 11, 12] (.e 4 [0, 1, 5, 6, 7, 8, 9, 10, 11, 12] (.e 13 [] (ql [14, 15, 16, 17, 18, 19, 20] .fin) .nil) .nil)))]⟩
def h126 : Hd := ⟨13, [0, 2], []⟩
def h127 : Hd := ⟨33, [0, 1, 4, 5, 6, 7, 9, 12, 20], []⟩
def h128 : Hd := ⟨38, [0, 1, 3, 4, 5, 6, 14, 18], []⟩
def h129 : Hd := ⟨14, [0, 1, 4, 5], []⟩
def h130 : Hd := ⟨15, [0, 2, 7], []⟩
def h131 : Hd := ⟨33, [0, 1, 2, 6, 7, 16], [(5, (ql [0, 1, 2, 3, 4, 5] (.e 6 [] (ql [7] .fin) .nil)))]⟩
def h132 : Hd := ⟨76, [0, 1, 3, 4, 5, 7, 15, 30, 39, 45], []⟩
def h133 : Hd := ⟨24, [0, 1, 3, 4, 5, 6, 7, 18], []⟩
def h134 : Hd := ⟨62, [0, 1, 2, 3, 4, 10, 11, 12, 13, 23], []⟩
def h135 : Hd := ⟨30, [0, 1, 2, 3, 4, 5, 12, 13, 17], []⟩
def h136 : Hd := ⟨8, [0, 1, 2, 3, 4], []⟩
def h137 : Hd := ⟨16, [0, 1, 4, 5], []⟩
def h138 : Hd := ⟨40, [0, 2, 3], [(2, (ql [0, 1, 2, 3, 4, 5, 6, 7, 8, 9, 10, 11, 12, 13, 14, 15, 16, 17, 18, 19, 20, 21, 22, 23, 24, 25, 26] (.e 27 [] .fin .nil)))]⟩
def h139 : Hd := ⟨7, [0, 2], []⟩
def h140 : Hd := ⟨18, [0, 1, 4, 5, 9], []⟩
def h141 : Hd := ⟨16, [0, 1, 2, 6], []⟩
def h142 : Hd := ⟨7, [0, 2], []⟩
def h143 : Hd := ⟨42, [0, 2, 3, 5, 15], [(7, (ql [0, 1, 2, 3, 4, 5, 6, 7, 8, 9, 10, 11, 12, 13, 14, 15, 16, 17, 18, 19, 20, 21, 22, 23] .fin))]⟩
def h144 : Hd := ⟨13, [0, 1, 2, 3, 10], []⟩
def h145 : Hd := ⟨24, [0, 2, 3, 5, 9], [(6, (ql [0, 1, 2, 3, 4, 5, 6, 7, 8, 9, 10] (.e 11 [] (.e 12 [] (.e 13 [] (ql [14] .fin) .nil) .nil) .nil)))]⟩
def h146 : Hd := ⟨76, [0, 1, 2, 3, 4, 6, 8, 24, 25, 26, 27, 49, 50, 51, 52], [(13, (ql [0, 1, 2] (.e 3 [0, 1] (.e 4 [] .fin .nil) .nil)))]⟩
def h147 : Hd := ⟨20, [0, 2], []⟩
def h148 : Hd := ⟨26, [0, 1, 4, 5, 10, 12, 13, 14, 24], [(6, (ql [0, 1, 2, 3, 4, 5, 6, 7, 8] .fin))]⟩
def h149 : Hd := ⟨10, [0, 2], []⟩
def h150 : Hd := ⟨10, [0, 1, 2, 3, 4, 5, 6], []⟩
def h151 : Hd := ⟨8, [0, 1, 2, 3, 4], []⟩
def h152 : Hd := ⟨105, [0, 2, 3, 4, 5, 7, 9, 10, 11, 12, 13, 16, 17, 18, 19, 51, 63, 79, 80, 81, 82, 87], [(8, (ql [0, 1, 2, 3, 4, 5, 6, 7, 8, 10, 11] (.e 9 [0, 1, 2, 3, 4, 5, 6, 7, 10, 11] (.e 12 [] (ql [13, 14, 15, 16, 17, 18, 19] .fin) .nil) .nil)))]⟩
def h153 : Hd := ⟨8, [0, 1, 2, 3, 4], []⟩
def h154 : Hd := ⟨50, [0, 2, 3, 4, 5, 7, 14], []⟩
def h155 : Hd := ⟨28, [0, 2, 3, 4, 10], []⟩
def h156 : Hd := ⟨18, [0, 2, 3, 6], []⟩
def h157 : Hd := ⟨9, [0, 1, 4], []⟩
def h158 : Hd := ⟨26, [0, 1, 4, 5, 10, 12, 13, 14, 24], [(6, (ql [0, 1, 2, 3, 4, 5, 6, 7, 8] .fin))]⟩
def h159 : Hd := ⟨29, [0, 2, 3, 5, 11, 12, 13, 14], [(5, (ql [0, 1, 2, 3, 4, 5, 6, 7] (.e 8 [0] (ql [9, 10] .fin) .nil)))]⟩
def h160 : Hd := ⟨87, [0, 1, 2, 3, 5, 8, 9, 30, 31, 48, 58], [(1, (ql [0, 1, 2, 3, 4, 5, 6, 7, 8, 9, 10, 11, 12, 13, 14, 15, 16, 17] (.e 18 [0, 1, 2, 3, 4, 5, 6, 7, 8, 9, 10, 11, 12, 13, 14, 15] (ql [19] (.e 20 [0, 1, 2, 3, 4, 5, 6, 7, 8, 9, 10, 11, 12, 13, 14, 15, 16, 17, 18, 19] (.e 21 [] .fin .nil) .nil)) (.e 20 [0, 1, 2, 3, 4, 5, 6, 7, 8, 9, 10, 11, 12, 13, 14, 15, 16, 17] (.e 18 [0, 1, 2, 3, 4, 5, 6, 7, 8, 9, 10, 11, 12, 13, 14, 15, 20] (ql [19] (.e 21 [] .fin .nil)) .nil) .nil)))), (4, (ql [0, 1, 2, 3, 4, 5, 6, 7, 8, 9, 10, 11, 12] (.e 13 [0, 1, 2, 3, 4, 5, 6, 7, 8, 9, 10, 11] (ql [14] (.e 15 [6, 7, 8, 9, 10, 11] (ql [16] (.e 17 [] .fin .nil)) .nil)) .nil))), (6, (ql [0, 1, 2, 3, 4, 5, 6] (.e 7 [0, 1, 2, 3, 4, 5] (ql [8] (.e 9 [] .fin .nil)) .nil))), (8, (ql [0, 1, 2, 3, 4, 5, 6, 7, 8, 9, 10, 11, 12, 13, 14, 16, 17, 18, 19, 20, 22] (.e 15 [0, 1, 2, 3, 4, 5, 6, 7, 8, 9, 16, 17, 18, 19, 20, 22] (.e 21 [0, 1, 2, 3, 4, 5, 6, 7, 8, 9, 22] (.e 23 [5, 6, 7, 8, 9] (ql [24] (.e 25 [] (ql [26] (.e 27 [] (ql [28] (.e 29 [] .fin .nil)) .nil)) .nil)) .nil) .nil) .nil)))]⟩
def h167 : Hd := ⟨11, [0, 2], []⟩
def h176 : Hd := ⟨17, [0, 2, 3, 4, 5, 11], []⟩
def h177 : Hd := ⟨10, [0, 2, 4], []⟩
def h178 : Hd := ⟨5, [0, 2], []⟩
def h180 : Hd := ⟨14, [0, 1, 3, 5, 7, 13], []⟩
def h181 : Hd := ⟨65, [0, 1, 2, 3, 4, 8, 9, 10, 32, 33, 34, 35, 36, 63], []⟩
def h182 : Hd := ⟨24, [0, 1, 4, 5, 7, 11, 12, 13, 14], []⟩
def h183 : Hd := ⟨90, [0, 1, 2, 3, 4, 10, 11, 12, 13, 14, 15, 40, 51, 62, 63, 64, 65, 66, 78, 87], [(12, (ql [0, 1, 2, 4, 5, 6, 7] (.e 3 [4, 5, 6, 7] (ql [8] .fin) .nil)))]⟩
def h184 : Hd := ⟨26, [0, 1, 4, 5, 7, 11, 12, 13, 14], []⟩
def h186 : Hd := ⟨21, [0, 1, 2, 3, 5, 6, 7, 9, 11, 13], []⟩
def h187 : Hd := ⟨6, [0, 2], []⟩
def h188 : Hd := ⟨9, [0, 1, 4], []⟩
def h191 : Hd := ⟨9, [0, 2], []⟩
def h197 : Hd := ⟨23, [0, 2, 3, 8, 9, 10], [(4, (ql [0, 1, 2, 3, 4] (.e 5 [0, 1, 2, 3, 4] (.e 6 [0, 1, 2, 3, 4] (.e 7 [0] (ql [8, 9] (.e 10 [] .fin .nil)) .nil) .nil) .nil)))]⟩
def h198 : Hd := ⟨98, [0, 1, 2, 4, 5, 6, 7, 8, 9, 10, 11, 12, 13, 14, 15, 18, 33, 34, 35, 47, 75, 79, 80, 81, 95], [(3, (ql [0, 1, 3, 4, 5, 6] (.e 2 [3, 4, 5, 6] (ql [7, 8] .fin) .nil))), (10, (ql [0, 1, 2, 3, 4, 5, 6, 8] (.e 7 [0, 1, 2, 3, 8] (.e 9 [] (ql [10] .fin) .nil) .nil))), (22, (ql [0, 1, 2, 3, 4, 5, 6, 7] (.e 8 [0, 1, 2, 3] (.e 9 [0, 1, 2, 3, 4, 5, 6, 7, 8] (.e 10 [] (ql [11] .fin) .nil) .nil) (.e 9 [0, 1, 2, 3, 4, 5, 6, 7] (.e 8 [0, 1, 2, 3, 9] (.e 10 [] (ql [11] .fin) .nil) .nil) .nil))))]⟩
def h199 : Hd := ⟨49, [0, 1, 2, 6, 7, 8, 9, 10, 11, 17, 31], []⟩
def h200 : Hd := ⟨9, [0, 1, 2, 4], []⟩
def h202 : Hd := ⟨19, [0, 1, 4, 5, 7, 8, 9, 16], []⟩
def h203 : Hd := ⟨8, [0, 1, 2, 3], []⟩
def h204 : Hd := ⟨13, [0, 2, 3, 4, 5, 10], []⟩
def h205 : Hd := ⟨23, [0, 1, 2, 4, 6, 7, 8, 9, 10, 15], []⟩
def h206 : Hd := ⟨16, [0, 1, 4], []⟩
def h207 : Hd := ⟨20, [0, 1, 4], []⟩
def h208 : Hd := ⟨39, [0, 1, 4, 5, 18], []⟩
def h209 : Hd := ⟨3, [0], []⟩
def h210 : Hd := ⟨17, [0, 1, 2, 5, 6, 7, 8, 9], []⟩
def h211 : Hd := ⟨37, [0, 1, 5, 8], []⟩
def h212 : Hd := ⟨38, [0, 1, 4, 6, 12], []⟩
def h213 : Hd := ⟨4, [0, 2, 3], []⟩
def h214 : Hd := ⟨18, [0, 2, 3, 11], []⟩
def h215 : Hd := ⟨59, [0, 1, 2, 3, 5, 6, 7, 15, 26, 35, 37], [(10, (ql [0, 1, 2, 3, 4, 5, 6] (.e 7 [0, 1, 2, 3, 4, 5] (.e 8 [0] (ql [9, 10] (.e 11 [] .fin .nil)) .nil) .nil)))]⟩
def h216 : Hd := ⟨95, [0, 1, 2, 6, 7, 8, 9, 16, 22, 31, 68], [(11, (ql [0, 1, 2, 3, 4, 5, 6, 7] (.e 8 [] .fin .nil))), (15, (ql [0, 1, 2, 3, 4, 5, 6, 7] (.e 8 [] .fin .nil)))]⟩
def h217 : Hd := ⟨42, [0, 1, 2, 6, 11, 12, 13, 17], [(4, (ql [0, 1, 2, 3, 4, 5, 6, 7, 8, 9] (.e 10 [] .fin .nil)))]⟩
def h218 : Hd := ⟨21, [0, 1, 2, 4, 9], []⟩
def h219 : Hd := ⟨32, [0, 1, 2, 4, 8], [(3, (ql [0, 1, 2, 3, 4, 5, 6, 7, 8, 9, 10, 11, 12, 13, 14, 15, 16, 17, 18, 19] (.e 20 [9, 10] (ql [21] (.e 22 [10] (ql [23, 24] (.e 25 [] .fin .nil)) .nil)) .nil)))]⟩
def h220 : Hd := ⟨19, [0, 1, 4, 5, 7, 8, 9, 16], []⟩
def h223 : Hd := ⟨61, [0, 1, 2, 6, 15, 33, 38], [(8, (ql [0, 1, 2, 3, 4, 5] (.e 6 [0, 1, 2, 3, 4] (ql [7] (.e 8 [] .fin .nil)) .nil)))]⟩
def h231 : Hd := ⟨9, [0, 2], []⟩
def h232 : Hd := ⟨31, [0, 1, 2, 6, 12], [(3, (ql [0, 1, 2, 3, 4, 5, 6, 7, 8, 9, 10, 11, 12, 13, 14, 15, 16, 17, 18] .fin))]⟩
def h234 : Hd := ⟨13, [0, 1, 2, 4, 5, 6, 7], []⟩
def h237 : Hd := ⟨18, [0, 2, 3, 5, 6, 7, 8, 9, 14], []⟩
def h238 : Hd := ⟨9, [0, 2], []⟩
def h239 : Hd := ⟨94, [0, 1, 2, 3, 4, 10, 11, 12, 13, 14, 15, 16, 17, 18, 19, 20, 21, 24, 25, 26, 60], [(6, (ql [0, 1, 2, 3, 4, 5, 6, 7, 8, 9, 10] (.e 11 [] (ql [12, 13, 14, 15, 16] .fin) .nil)))]⟩
def h240 : Hd := ⟨4, [0, 1, 2], []⟩
def h241 : Hd := ⟨19, [0, 1, 4, 5, 7, 8, 9, 16], []⟩
def h243 : Hd := ⟨4, [0, 1, 2], []⟩
def h245 : Hd := ⟨12, [0, 1, 3, 4], []⟩
def h251 : Hd := ⟨80, [0, 1, 2, 6, 7, 8, 9, 10, 12, 13, 14, 18, 37, 54, 55, 56], [(15, (ql [0, 1, 2, 3, 4, 5, 6, 7, 8, 9, 10, 11, 12, 13] (.e 14 [0, 1, 2, 3, 4, 5, 6, 7] (ql [15, 16] (.e 17 [] .fin .nil)) .nil)))]⟩
def h252 : Hd := ⟨20, [0, 1, 4, 5, 7], [(3, (ql [0, 1, 2, 3, 4, 5, 6, 7, 8, 9, 10, 11, 12, 13] .fin))]⟩
def h253 : Hd := ⟨19, [0, 2, 3, 15], []⟩
def h265 : Hd := ⟨65, [0, 1, 2, 3, 4, 5, 7, 8, 9, 10, 11, 12, 13, 14, 15, 16, 17, 30, 31, 32, 41, 42, 43, 46], [(11, (ql [0, 1, 2, 3, 4, 5, 6, 7, 8, 9] (.e 10 [0, 1, 2, 3, 4, 5, 6] (ql [11] (.e 12 [] .fin .nil)) .nil))), (13, (ql [0, 1, 2, 3] .fin))]⟩
def h266 : Hd := ⟨102, [0, 1, 2, 6, 7, 8, 9, 10, 11, 12, 13, 14, 24, 27, 35, 36, 37, 38, 74, 80, 81, 82, 83], [(10, (ql [0, 1, 2, 3, 4, 5, 7, 8, 9, 10] (.e 6 [0, 1, 2, 3, 4, 7, 8, 9, 10] (.e 11 [0, 1, 2, 3, 4, 5, 6] (.e 12 [0, 1, 2, 3, 4] (.e 13 [0, 1, 2, 3, 4] (.e 14 [0] (ql [15, 16] (.e 17 [] .fin .nil)) .nil) .nil) .nil) .nil) (.e 11 [0, 1, 2, 3, 4, 5] (.e 6 [0, 1, 2, 3, 4, 7, 8, 9, 10, 11] (.e 12 [0, 1, 2, 3, 4] (.e 13 [0, 1, 2, 3, 4] (.e 14 [0] (ql [15, 16] (.e 17 [] .fin .nil)) .nil) .nil) .nil) .nil) .nil)))), (13, (ql [0, 1, 2, 3, 4, 5, 6, 7, 8, 9, 10] (.e 11 [] .fin .nil))), (19, (ql [0, 1, 2, 3, 4, 5, 6, 7, 8, 9, 10, 11, 12] (.e 13 [] .fin .nil)))]⟩
def h267 : Hd := ⟨19, [0, 1, 3, 8, 18], []⟩
def h268 : Hd := ⟨24, [0, 1, 3, 4, 7, 8, 9, 22], []⟩
def h277 : Hd := ⟨8, [0, 1, 2, 3, 4, 5, 6], []⟩
def h278 : Hd := ⟨7, [0, 1, 2], []⟩
def h279 : Hd := ⟨115, [0, 1, 4, 5, 6, 7, 9, 10, 11, 12, 13, 29, 85, 86, 87, 88, 94], [(6, (ql [0, 1, 2, 3, 4, 5, 6, 7, 8, 9, 10, 11, 12, 13, 14, 15, 16, 17, 18, 19, 20, 21, 22, 23, 24, 25, 26, 27, 28] (.e 29 [9, 10, 11] (ql [30] (.e 31 [] .fin .nil)) .nil))), (7, (ql [0, 1, 2, 3, 4, 5, 6, 7, 8, 9, 10, 11, 12, 13] (.e 14 [] (ql [15, 16, 17, 18, 19] .fin) .nil))), (15, (ql [0, 1, 2, 3, 4, 5] (.e 6 [0, 1, 2, 3, 4] (.e 7 [0] (ql [8, 9] (.e 10 [] .fin .nil)) .nil) .nil)))]⟩
def h280 : Hd := ⟨9, [0, 1, 3], []⟩
def h283 : Hd := ⟨21, [0, 1, 2, 3, 5, 6, 7, 8, 9, 15], []⟩
def h284 : Hd := ⟨11, [0, 1, 3], []⟩
def h285 : Hd := ⟨9, [0, 1, 3], []⟩
def h286 : Hd := ⟨38, [0, 1, 2, 6, 7, 14, 15, 16, 17], [(3, (ql [0, 1, 2, 3, 4, 5, 6, 7, 8, 9, 10, 11, 12, 13] (.e 14 [0, 1, 2, 3, 4, 5, 6, 7] (ql [15] (.e 16 [] .fin .nil)) .nil)))]⟩
def h287 : Hd := ⟨43, [0, 1, 2, 3, 8, 9, 16, 17, 18, 19], [(3, (ql [0, 1, 2, 3, 4, 5, 6, 7, 8, 9, 10, 11, 12, 13, 14, 15] (.e 16 [0, 1, 2, 3, 4, 5, 6, 7, 8, 9] (ql [17, 18] (.e 19 [] .fin .nil)) .nil)))]⟩
end
end Go.Proofs.YtaikdcnifijcoaaGreat
