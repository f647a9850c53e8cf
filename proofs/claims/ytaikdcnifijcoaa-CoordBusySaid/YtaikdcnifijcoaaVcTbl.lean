/- The types' table of this seat, off the loaded program. -/
import Derived.Test.YtaikdcnifijcoaaVcCore
import Derived.Test.YtaikdcnifijcoaaProg
import Derived.KernelRfl
namespace Go.Proofs.Ytaikdcnifijcoaa
open Go.Vc
def ti1 : TI := ⟨(Go.TypeDesc.func #[] #[] false), 1, 8, Go.Value.nilFunc⟩
theorem tik1 : TIok Try.prog 1 ti1 := ⟨by kernel_rfl, by kernel_rfl⟩
def ti2 : TI := ⟨(Go.TypeDesc.int Go.IntKind.i64), 1, 8, (Go.Value.int Go.IntKind.i64 0)⟩
theorem tik2 : TIok Try.prog 2 ti2 := ⟨by kernel_rfl, by kernel_rfl⟩
def ti3 : TI := ⟨(Go.TypeDesc.int Go.IntKind.i64), 1, 8, (Go.Value.int Go.IntKind.i64 0)⟩
theorem tik3 : TIok Try.prog 3 ti3 := ⟨by kernel_rfl, by kernel_rfl⟩
def ti4 : TI := ⟨Go.TypeDesc.bool, 1, 1, (Go.Value.bool false)⟩
theorem tik4 : TIok Try.prog 4 ti4 := ⟨by kernel_rfl, by kernel_rfl⟩
def ti5 : TI := ⟨(Go.TypeDesc.int Go.IntKind.u8), 1, 1, (Go.Value.int Go.IntKind.u8 0)⟩
theorem tik5 : TIok Try.prog 5 ti5 := ⟨by kernel_rfl, by kernel_rfl⟩
def ti6 : TI := ⟨(Go.TypeDesc.int Go.IntKind.u8), 1, 1, (Go.Value.int Go.IntKind.u8 0)⟩
theorem tik6 : TIok Try.prog 6 ti6 := ⟨by kernel_rfl, by kernel_rfl⟩
def ti7 : TI := ⟨(Go.TypeDesc.struct #[{ name := "x", type := 2, offset := 0, embedded := false, tag := "", pkgPath := "runtime", byteOffset := 0 }, { name := "y", type := 3, offset := 1, embedded := false, tag := "", pkgPath := "runtime", byteOffset := 8 }, { name := "signed", type := 4, offset := 2, embedded := false, tag := "", pkgPath := "runtime", byteOffset := 16 }, { name := "code", type := 6, offset := 3, embedded := false, tag := "", pkgPath := "runtime", byteOffset := 17 }]), 4, 24, (Go.Value.agg #[(Go.Value.int Go.IntKind.i64 0), (Go.Value.int Go.IntKind.i64 0), (Go.Value.bool false), (Go.Value.int Go.IntKind.u8 0)])⟩
theorem tik7 : TIok Try.prog 7 ti7 := ⟨by kernel_rfl, by kernel_rfl⟩
def ti8 : TI := ⟨(Go.TypeDesc.struct #[{ name := "x", type := 2, offset := 0, embedded := false, tag := "", pkgPath := "runtime", byteOffset := 0 }, { name := "y", type := 3, offset := 1, embedded := false, tag := "", pkgPath := "runtime", byteOffset := 8 }, { name := "signed", type := 4, offset := 2, embedded := false, tag := "", pkgPath := "runtime", byteOffset := 16 }, { name := "code", type := 6, offset := 3, embedded := false, tag := "", pkgPath := "runtime", byteOffset := 17 }]), 4, 24, (Go.Value.agg #[(Go.Value.int Go.IntKind.i64 0), (Go.Value.int Go.IntKind.i64 0), (Go.Value.bool false), (Go.Value.int Go.IntKind.u8 0)])⟩
theorem tik8 : TIok Try.prog 8 ti8 := ⟨by kernel_rfl, by kernel_rfl⟩
def ti9 : TI := ⟨Go.TypeDesc.string, 1, 16, (Go.Value.string { data := #[] })⟩
theorem tik9 : TIok Try.prog 9 ti9 := ⟨by kernel_rfl, by kernel_rfl⟩
def ti10 : TI := ⟨Go.TypeDesc.string, 1, 16, (Go.Value.string { data := #[] })⟩
theorem tik10 : TIok Try.prog 10 ti10 := ⟨by kernel_rfl, by kernel_rfl⟩
def ti11 : TI := ⟨Go.TypeDesc.string, 1, 16, (Go.Value.string { data := #[] })⟩
theorem tik11 : TIok Try.prog 11 ti11 := ⟨by kernel_rfl, by kernel_rfl⟩
def ti12 : TI := ⟨(Go.TypeDesc.int Go.IntKind.u64), 1, 8, (Go.Value.int Go.IntKind.u64 0)⟩
theorem tik12 : TIok Try.prog 12 ti12 := ⟨by kernel_rfl, by kernel_rfl⟩
def ti13 : TI := ⟨(Go.TypeDesc.struct #[{ name := "msg", type := 9, offset := 0, embedded := false, tag := "", pkgPath := "runtime", byteOffset := 0 }, { name := "addr", type := 12, offset := 1, embedded := false, tag := "", pkgPath := "runtime", byteOffset := 16 }]), 2, 24, (Go.Value.agg #[(Go.Value.string { data := #[] }), (Go.Value.int Go.IntKind.u64 0)])⟩
theorem tik13 : TIok Try.prog 13 ti13 := ⟨by kernel_rfl, by kernel_rfl⟩
def ti14 : TI := ⟨(Go.TypeDesc.struct #[{ name := "msg", type := 9, offset := 0, embedded := false, tag := "", pkgPath := "runtime", byteOffset := 0 }, { name := "addr", type := 12, offset := 1, embedded := false, tag := "", pkgPath := "runtime", byteOffset := 16 }]), 2, 24, (Go.Value.agg #[(Go.Value.string { data := #[] }), (Go.Value.int Go.IntKind.u64 0)])⟩
theorem tik14 : TIok Try.prog 14 ti14 := ⟨by kernel_rfl, by kernel_rfl⟩
def ti15 : TI := ⟨(Go.TypeDesc.pointer 157), 1, 8, (Go.Value.pointer none)⟩
theorem tik15 : TIok Try.prog 15 ti15 := ⟨by kernel_rfl, by kernel_rfl⟩
def ti16 : TI := ⟨(Go.TypeDesc.pointer 160), 1, 8, (Go.Value.pointer none)⟩
theorem tik16 : TIok Try.prog 16 ti16 := ⟨by kernel_rfl, by kernel_rfl⟩
def ti17 : TI := ⟨(Go.TypeDesc.pointer 169), 1, 8, (Go.Value.pointer none)⟩
theorem tik17 : TIok Try.prog 17 ti17 := ⟨by kernel_rfl, by kernel_rfl⟩
def ti18 : TI := ⟨(Go.TypeDesc.struct #[{ name := "typ", type := 17, offset := 0, embedded := false, tag := "", pkgPath := "internal/runtime/maps", byteOffset := 0 }]), 1, 8, (Go.Value.agg #[(Go.Value.pointer none)])⟩
theorem tik18 : TIok Try.prog 18 ti18 := ⟨by kernel_rfl, by kernel_rfl⟩
def ti19 : TI := ⟨(Go.TypeDesc.struct #[{ name := "typ", type := 17, offset := 0, embedded := false, tag := "", pkgPath := "internal/runtime/maps", byteOffset := 0 }]), 1, 8, (Go.Value.agg #[(Go.Value.pointer none)])⟩
theorem tik19 : TIok Try.prog 19 ti19 := ⟨by kernel_rfl, by kernel_rfl⟩
def ti20 : TI := ⟨(Go.TypeDesc.interface #[]), 1, 16, Go.Value.nilIface⟩
theorem tik20 : TIok Try.prog 20 ti20 := ⟨by kernel_rfl, by kernel_rfl⟩
def ti21 : TI := ⟨(Go.TypeDesc.int Go.IntKind.i32), 1, 4, (Go.Value.int Go.IntKind.i32 0)⟩
theorem tik21 : TIok Try.prog 21 ti21 := ⟨by kernel_rfl, by kernel_rfl⟩
def ti22 : TI := ⟨(Go.TypeDesc.struct #[{ name := "N", type := 3, offset := 0, embedded := false, tag := "", pkgPath := "", byteOffset := 0 }, { name := "T", type := 3, offset := 1, embedded := false, tag := "", pkgPath := "", byteOffset := 8 }, { name := "K", type := 3, offset := 2, embedded := false, tag := "", pkgPath := "", byteOffset := 16 }, { name := "E", type := 3, offset := 3, embedded := false, tag := "", pkgPath := "", byteOffset := 24 }, { name := "Room", type := 3, offset := 4, embedded := false, tag := "", pkgPath := "", byteOffset := 32 }]), 5, 40, (Go.Value.agg #[(Go.Value.int Go.IntKind.i64 0), (Go.Value.int Go.IntKind.i64 0), (Go.Value.int Go.IntKind.i64 0), (Go.Value.int Go.IntKind.i64 0), (Go.Value.int Go.IntKind.i64 0)])⟩
theorem tik22 : TIok Try.prog 22 ti22 := ⟨by kernel_rfl, by kernel_rfl⟩
def ti23 : TI := ⟨(Go.TypeDesc.struct #[{ name := "N", type := 3, offset := 0, embedded := false, tag := "", pkgPath := "", byteOffset := 0 }, { name := "T", type := 3, offset := 1, embedded := false, tag := "", pkgPath := "", byteOffset := 8 }, { name := "K", type := 3, offset := 2, embedded := false, tag := "", pkgPath := "", byteOffset := 16 }, { name := "E", type := 3, offset := 3, embedded := false, tag := "", pkgPath := "", byteOffset := 24 }, { name := "Room", type := 3, offset := 4, embedded := false, tag := "", pkgPath := "", byteOffset := 32 }]), 5, 40, (Go.Value.agg #[(Go.Value.int Go.IntKind.i64 0), (Go.Value.int Go.IntKind.i64 0), (Go.Value.int Go.IntKind.i64 0), (Go.Value.int Go.IntKind.i64 0), (Go.Value.int Go.IntKind.i64 0)])⟩
theorem tik23 : TIok Try.prog 23 ti23 := ⟨by kernel_rfl, by kernel_rfl⟩
def ti24 : TI := ⟨(Go.TypeDesc.slice 5), 1, 24, (Go.Value.slice none 0 0)⟩
theorem tik24 : TIok Try.prog 24 ti24 := ⟨by kernel_rfl, by kernel_rfl⟩
def ti25 : TI := ⟨(Go.TypeDesc.struct #[{ name := "Kind", type := 3, offset := 0, embedded := false, tag := "", pkgPath := "", byteOffset := 0 }, { name := "A", type := 3, offset := 1, embedded := false, tag := "", pkgPath := "", byteOffset := 8 }, { name := "B", type := 3, offset := 2, embedded := false, tag := "", pkgPath := "", byteOffset := 16 }, { name := "C", type := 3, offset := 3, embedded := false, tag := "", pkgPath := "", byteOffset := 24 }, { name := "ID", type := 9, offset := 4, embedded := false, tag := "", pkgPath := "", byteOffset := 32 }, { name := "Data", type := 24, offset := 5, embedded := false, tag := "", pkgPath := "", byteOffset := 48 }]), 6, 72, (Go.Value.agg #[(Go.Value.int Go.IntKind.i64 0), (Go.Value.int Go.IntKind.i64 0), (Go.Value.int Go.IntKind.i64 0), (Go.Value.int Go.IntKind.i64 0), (Go.Value.string { data := #[] }), (Go.Value.slice none 0 0)])⟩
theorem tik25 : TIok Try.prog 25 ti25 := ⟨by kernel_rfl, by kernel_rfl⟩
def ti26 : TI := ⟨(Go.TypeDesc.struct #[{ name := "Kind", type := 3, offset := 0, embedded := false, tag := "", pkgPath := "", byteOffset := 0 }, { name := "A", type := 3, offset := 1, embedded := false, tag := "", pkgPath := "", byteOffset := 8 }, { name := "B", type := 3, offset := 2, embedded := false, tag := "", pkgPath := "", byteOffset := 16 }, { name := "C", type := 3, offset := 3, embedded := false, tag := "", pkgPath := "", byteOffset := 24 }, { name := "ID", type := 9, offset := 4, embedded := false, tag := "", pkgPath := "", byteOffset := 32 }, { name := "Data", type := 24, offset := 5, embedded := false, tag := "", pkgPath := "", byteOffset := 48 }]), 6, 72, (Go.Value.agg #[(Go.Value.int Go.IntKind.i64 0), (Go.Value.int Go.IntKind.i64 0), (Go.Value.int Go.IntKind.i64 0), (Go.Value.int Go.IntKind.i64 0), (Go.Value.string { data := #[] }), (Go.Value.slice none 0 0)])⟩
theorem tik26 : TIok Try.prog 26 ti26 := ⟨by kernel_rfl, by kernel_rfl⟩
def ti27 : TI := ⟨(Go.TypeDesc.func #[23] #[4] false), 1, 8, Go.Value.nilFunc⟩
theorem tik27 : TIok Try.prog 27 ti27 := ⟨by kernel_rfl, by kernel_rfl⟩
def ti28 : TI := ⟨(Go.TypeDesc.func #[] #[4] false), 1, 8, Go.Value.nilFunc⟩
theorem tik28 : TIok Try.prog 28 ti28 := ⟨by kernel_rfl, by kernel_rfl⟩
def ti29 : TI := ⟨(Go.TypeDesc.pointer 60), 1, 8, (Go.Value.pointer none)⟩
theorem tik29 : TIok Try.prog 29 ti29 := ⟨by kernel_rfl, by kernel_rfl⟩
def ti30 : TI := ⟨(Go.TypeDesc.func #[23] #[29] false), 1, 8, Go.Value.nilFunc⟩
theorem tik30 : TIok Try.prog 30 ti30 := ⟨by kernel_rfl, by kernel_rfl⟩
def ti31 : TI := ⟨(Go.TypeDesc.int Go.IntKind.i64), 1, 8, (Go.Value.int Go.IntKind.i64 0)⟩
theorem tik31 : TIok Try.prog 31 ti31 := ⟨by kernel_rfl, by kernel_rfl⟩
def ti32 : TI := ⟨(Go.TypeDesc.slice 55), 1, 24, (Go.Value.slice none 0 0)⟩
theorem tik32 : TIok Try.prog 32 ti32 := ⟨by kernel_rfl, by kernel_rfl⟩
def ti33 : TI := ⟨(Go.TypeDesc.slice 3), 1, 24, (Go.Value.slice none 0 0)⟩
theorem tik33 : TIok Try.prog 33 ti33 := ⟨by kernel_rfl, by kernel_rfl⟩
def ti34 : TI := ⟨(Go.TypeDesc.struct #[{ name := "E", type := 31, offset := 0, embedded := false, tag := "", pkgPath := "", byteOffset := 0 }, { name := "Done", type := 4, offset := 1, embedded := false, tag := "", pkgPath := "", byteOffset := 8 }, { name := "Data", type := 24, offset := 2, embedded := false, tag := "", pkgPath := "", byteOffset := 16 }, { name := "Heads", type := 32, offset := 3, embedded := false, tag := "", pkgPath := "", byteOffset := 40 }, { name := "List", type := 33, offset := 4, embedded := false, tag := "", pkgPath := "", byteOffset := 64 }]), 5, 88, (Go.Value.agg #[(Go.Value.int Go.IntKind.i64 0), (Go.Value.bool false), (Go.Value.slice none 0 0), (Go.Value.slice none 0 0), (Go.Value.slice none 0 0)])⟩
theorem tik34 : TIok Try.prog 34 ti34 := ⟨by kernel_rfl, by kernel_rfl⟩
def ti35 : TI := ⟨(Go.TypeDesc.struct #[{ name := "E", type := 31, offset := 0, embedded := false, tag := "", pkgPath := "", byteOffset := 0 }, { name := "Done", type := 4, offset := 1, embedded := false, tag := "", pkgPath := "", byteOffset := 8 }, { name := "Data", type := 24, offset := 2, embedded := false, tag := "", pkgPath := "", byteOffset := 16 }, { name := "Heads", type := 32, offset := 3, embedded := false, tag := "", pkgPath := "", byteOffset := 40 }, { name := "List", type := 33, offset := 4, embedded := false, tag := "", pkgPath := "", byteOffset := 64 }]), 5, 88, (Go.Value.agg #[(Go.Value.int Go.IntKind.i64 0), (Go.Value.bool false), (Go.Value.slice none 0 0), (Go.Value.slice none 0 0), (Go.Value.slice none 0 0)])⟩
theorem tik35 : TIok Try.prog 35 ti35 := ⟨by kernel_rfl, by kernel_rfl⟩
def ti36 : TI := ⟨(Go.TypeDesc.slice 50), 1, 24, (Go.Value.slice none 0 0)⟩
theorem tik36 : TIok Try.prog 36 ti36 := ⟨by kernel_rfl, by kernel_rfl⟩
def ti38 : TI := ⟨(Go.TypeDesc.func #[26] #[35, 36] false), 1, 8, Go.Value.nilFunc⟩
theorem tik38 : TIok Try.prog 38 ti38 := ⟨by kernel_rfl, by kernel_rfl⟩
def ti40 : TI := ⟨(Go.TypeDesc.func #[] #[3, 3] false), 1, 8, Go.Value.nilFunc⟩
theorem tik40 : TIok Try.prog 40 ti40 := ⟨by kernel_rfl, by kernel_rfl⟩
def ti41 : TI := ⟨(Go.TypeDesc.slice 4), 1, 24, (Go.Value.slice none 0 0)⟩
theorem tik41 : TIok Try.prog 41 ti41 := ⟨by kernel_rfl, by kernel_rfl⟩
def ti42 : TI := ⟨(Go.TypeDesc.struct #[{ name := "Session", type := 3, offset := 0, embedded := false, tag := "", pkgPath := "", byteOffset := 0 }, { name := "Decided", type := 3, offset := 1, embedded := false, tag := "", pkgPath := "", byteOffset := 8 }, { name := "Epoch", type := 3, offset := 2, embedded := false, tag := "", pkgPath := "", byteOffset := 16 }, { name := "Dir", type := 32, offset := 3, embedded := false, tag := "", pkgPath := "", byteOffset := 24 }, { name := "Up", type := 41, offset := 4, embedded := false, tag := "", pkgPath := "", byteOffset := 48 }, { name := "Commit", type := 33, offset := 5, embedded := false, tag := "", pkgPath := "", byteOffset := 72 }]), 6, 96, (Go.Value.agg #[(Go.Value.int Go.IntKind.i64 0), (Go.Value.int Go.IntKind.i64 0), (Go.Value.int Go.IntKind.i64 0), (Go.Value.slice none 0 0), (Go.Value.slice none 0 0), (Go.Value.slice none 0 0)])⟩
theorem tik42 : TIok Try.prog 42 ti42 := ⟨by kernel_rfl, by kernel_rfl⟩
def ti43 : TI := ⟨(Go.TypeDesc.struct #[{ name := "Session", type := 3, offset := 0, embedded := false, tag := "", pkgPath := "", byteOffset := 0 }, { name := "Decided", type := 3, offset := 1, embedded := false, tag := "", pkgPath := "", byteOffset := 8 }, { name := "Epoch", type := 3, offset := 2, embedded := false, tag := "", pkgPath := "", byteOffset := 16 }, { name := "Dir", type := 32, offset := 3, embedded := false, tag := "", pkgPath := "", byteOffset := 24 }, { name := "Up", type := 41, offset := 4, embedded := false, tag := "", pkgPath := "", byteOffset := 48 }, { name := "Commit", type := 33, offset := 5, embedded := false, tag := "", pkgPath := "", byteOffset := 72 }]), 6, 96, (Go.Value.agg #[(Go.Value.int Go.IntKind.i64 0), (Go.Value.int Go.IntKind.i64 0), (Go.Value.int Go.IntKind.i64 0), (Go.Value.slice none 0 0), (Go.Value.slice none 0 0), (Go.Value.slice none 0 0)])⟩
theorem tik43 : TIok Try.prog 43 ti43 := ⟨by kernel_rfl, by kernel_rfl⟩
def ti44 : TI := ⟨(Go.TypeDesc.pointer 66), 1, 8, (Go.Value.pointer none)⟩
theorem tik44 : TIok Try.prog 44 ti44 := ⟨by kernel_rfl, by kernel_rfl⟩
def ti45 : TI := ⟨(Go.TypeDesc.func #[] #[44] false), 1, 8, Go.Value.nilFunc⟩
theorem tik45 : TIok Try.prog 45 ti45 := ⟨by kernel_rfl, by kernel_rfl⟩
def ti46 : TI := ⟨(Go.TypeDesc.func #[] #[43] false), 1, 8, Go.Value.nilFunc⟩
theorem tik46 : TIok Try.prog 46 ti46 := ⟨by kernel_rfl, by kernel_rfl⟩
def ti47 : TI := ⟨(Go.TypeDesc.func #[43, 43] #[4] false), 1, 8, Go.Value.nilFunc⟩
theorem tik47 : TIok Try.prog 47 ti47 := ⟨by kernel_rfl, by kernel_rfl⟩
def ti48 : TI := ⟨(Go.TypeDesc.func #[23, 26, 26] #[4] false), 1, 8, Go.Value.nilFunc⟩
theorem tik48 : TIok Try.prog 48 ti48 := ⟨by kernel_rfl, by kernel_rfl⟩
def ti49 : TI := ⟨(Go.TypeDesc.struct #[{ name := "Kind", type := 3, offset := 0, embedded := false, tag := "", pkgPath := "", byteOffset := 0 }, { name := "From", type := 3, offset := 1, embedded := false, tag := "", pkgPath := "", byteOffset := 8 }, { name := "To", type := 3, offset := 2, embedded := false, tag := "", pkgPath := "", byteOffset := 16 }, { name := "Session", type := 3, offset := 3, embedded := false, tag := "", pkgPath := "", byteOffset := 24 }, { name := "Decided", type := 3, offset := 4, embedded := false, tag := "", pkgPath := "", byteOffset := 32 }, { name := "Commit", type := 3, offset := 5, embedded := false, tag := "", pkgPath := "", byteOffset := 40 }, { name := "Epoch", type := 3, offset := 6, embedded := false, tag := "", pkgPath := "", byteOffset := 48 }, { name := "Heads", type := 32, offset := 7, embedded := false, tag := "", pkgPath := "", byteOffset := 56 }, { name := "ID", type := 9, offset := 8, embedded := false, tag := "", pkgPath := "", byteOffset := 80 }, { name := "Size", type := 3, offset := 9, embedded := false, tag := "", pkgPath := "", byteOffset := 96 }, { name := "Sort", type := 3, offset := 10, embedded := false, tag := "", pkgPath := "", byteOffset := 104 }, { name := "Target", type := 3, offset := 11, embedded := false, tag := "", pkgPath := "", byteOffset := 112 }, { name := "Dealers", type := 33, offset := 12, embedded := false, tag := "", pkgPath := "", byteOffset := 120 }, { name := "Parts", type := 33, offset := 13, embedded := false, tag := "", pkgPath := "", byteOffset := 144 }, { name := "Code", type := 31, offset := 14, embedded := false, tag := "", pkgPath := "", byteOffset := 168 }, { name := "Data", type := 24, offset := 15, embedded := false, tag := "", pkgPath := "", byteOffset := 176 }]), 16, 200, (Go.Value.agg (rl [(7, (Go.Value.int Go.IntKind.i64 0)), (1, (Go.Value.slice none 0 0)), (1, (Go.Value.string { data := #[] })), (3, (Go.Value.int Go.IntKind.i64 0)), (2, (Go.Value.slice none 0 0)), (1, (Go.Value.int Go.IntKind.i64 0)), (1, (Go.Value.slice none 0 0))]))⟩
theorem tik49 : TIok Try.prog 49 ti49 := ⟨by kernel_rfl, by kernel_rfl⟩
def ti50 : TI := ⟨(Go.TypeDesc.struct #[{ name := "Kind", type := 3, offset := 0, embedded := false, tag := "", pkgPath := "", byteOffset := 0 }, { name := "From", type := 3, offset := 1, embedded := false, tag := "", pkgPath := "", byteOffset := 8 }, { name := "To", type := 3, offset := 2, embedded := false, tag := "", pkgPath := "", byteOffset := 16 }, { name := "Session", type := 3, offset := 3, embedded := false, tag := "", pkgPath := "", byteOffset := 24 }, { name := "Decided", type := 3, offset := 4, embedded := false, tag := "", pkgPath := "", byteOffset := 32 }, { name := "Commit", type := 3, offset := 5, embedded := false, tag := "", pkgPath := "", byteOffset := 40 }, { name := "Epoch", type := 3, offset := 6, embedded := false, tag := "", pkgPath := "", byteOffset := 48 }, { name := "Heads", type := 32, offset := 7, embedded := false, tag := "", pkgPath := "", byteOffset := 56 }, { name := "ID", type := 9, offset := 8, embedded := false, tag := "", pkgPath := "", byteOffset := 80 }, { name := "Size", type := 3, offset := 9, embedded := false, tag := "", pkgPath := "", byteOffset := 96 }, { name := "Sort", type := 3, offset := 10, embedded := false, tag := "", pkgPath := "", byteOffset := 104 }, { name := "Target", type := 3, offset := 11, embedded := false, tag := "", pkgPath := "", byteOffset := 112 }, { name := "Dealers", type := 33, offset := 12, embedded := false, tag := "", pkgPath := "", byteOffset := 120 }, { name := "Parts", type := 33, offset := 13, embedded := false, tag := "", pkgPath := "", byteOffset := 144 }, { name := "Code", type := 31, offset := 14, embedded := false, tag := "", pkgPath := "", byteOffset := 168 }, { name := "Data", type := 24, offset := 15, embedded := false, tag := "", pkgPath := "", byteOffset := 176 }]), 16, 200, (Go.Value.agg (rl [(7, (Go.Value.int Go.IntKind.i64 0)), (1, (Go.Value.slice none 0 0)), (1, (Go.Value.string { data := #[] })), (3, (Go.Value.int Go.IntKind.i64 0)), (2, (Go.Value.slice none 0 0)), (1, (Go.Value.int Go.IntKind.i64 0)), (1, (Go.Value.slice none 0 0))]))⟩
theorem tik50 : TIok Try.prog 50 ti50 := ⟨by kernel_rfl, by kernel_rfl⟩
def ti51 : TI := ⟨(Go.TypeDesc.pointer 75), 1, 8, (Go.Value.pointer none)⟩
theorem tik51 : TIok Try.prog 51 ti51 := ⟨by kernel_rfl, by kernel_rfl⟩
def ti52 : TI := ⟨(Go.TypeDesc.func #[] #[51] false), 1, 8, Go.Value.nilFunc⟩
theorem tik52 : TIok Try.prog 52 ti52 := ⟨by kernel_rfl, by kernel_rfl⟩
def ti53 : TI := ⟨(Go.TypeDesc.func #[23] #[44] false), 1, 8, Go.Value.nilFunc⟩
theorem tik53 : TIok Try.prog 53 ti53 := ⟨by kernel_rfl, by kernel_rfl⟩
def ti54 : TI := ⟨(Go.TypeDesc.struct #[{ name := "ID", type := 9, offset := 0, embedded := false, tag := "", pkgPath := "", byteOffset := 0 }, { name := "Size", type := 3, offset := 1, embedded := false, tag := "", pkgPath := "", byteOffset := 16 }]), 2, 24, (Go.Value.agg #[(Go.Value.string { data := #[] }), (Go.Value.int Go.IntKind.i64 0)])⟩
theorem tik54 : TIok Try.prog 54 ti54 := ⟨by kernel_rfl, by kernel_rfl⟩
def ti55 : TI := ⟨(Go.TypeDesc.struct #[{ name := "ID", type := 9, offset := 0, embedded := false, tag := "", pkgPath := "", byteOffset := 0 }, { name := "Size", type := 3, offset := 1, embedded := false, tag := "", pkgPath := "", byteOffset := 16 }]), 2, 24, (Go.Value.agg #[(Go.Value.string { data := #[] }), (Go.Value.int Go.IntKind.i64 0)])⟩
theorem tik55 : TIok Try.prog 55 ti55 := ⟨by kernel_rfl, by kernel_rfl⟩
def ti56 : TI := ⟨(Go.TypeDesc.map 3 24), 1, 8, (Go.Value.map none)⟩
theorem tik56 : TIok Try.prog 56 ti56 := ⟨by kernel_rfl, by kernel_rfl⟩
def ti57 : TI := ⟨(Go.TypeDesc.struct #[{ name := "kind", type := 3, offset := 0, embedded := false, tag := "", pkgPath := "shamrock/coord", byteOffset := 0 }, { name := "session", type := 3, offset := 1, embedded := false, tag := "", pkgPath := "shamrock/coord", byteOffset := 8 }, { name := "phase", type := 3, offset := 2, embedded := false, tag := "", pkgPath := "shamrock/coord", byteOffset := 16 }, { name := "sort", type := 3, offset := 3, embedded := false, tag := "", pkgPath := "shamrock/coord", byteOffset := 24 }, { name := "target", type := 3, offset := 4, embedded := false, tag := "", pkgPath := "shamrock/coord", byteOffset := 32 }, { name := "head", type := 55, offset := 5, embedded := false, tag := "", pkgPath := "shamrock/coord", byteOffset := 40 }, { name := "parts", type := 33, offset := 7, embedded := false, tag := "", pkgPath := "shamrock/coord", byteOffset := 64 }, { name := "dealers", type := 33, offset := 8, embedded := false, tag := "", pkgPath := "shamrock/coord", byteOffset := 88 }, { name := "list", type := 33, offset := 9, embedded := false, tag := "", pkgPath := "shamrock/coord", byteOffset := 112 }, { name := "queue", type := 33, offset := 10, embedded := false, tag := "", pkgPath := "shamrock/coord", byteOffset := 136 }, { name := "got", type := 56, offset := 11, embedded := false, tag := "", pkgPath := "shamrock/coord", byteOffset := 160 }]), 12, 168, (Go.Value.agg #[(Go.Value.int Go.IntKind.i64 0), (Go.Value.int Go.IntKind.i64 0), (Go.Value.int Go.IntKind.i64 0), (Go.Value.int Go.IntKind.i64 0), (Go.Value.int Go.IntKind.i64 0), (Go.Value.string { data := #[] }), (Go.Value.int Go.IntKind.i64 0), (Go.Value.slice none 0 0), (Go.Value.slice none 0 0), (Go.Value.slice none 0 0), (Go.Value.slice none 0 0), (Go.Value.map none)])⟩
theorem tik57 : TIok Try.prog 57 ti57 := ⟨by kernel_rfl, by kernel_rfl⟩
def ti58 : TI := ⟨(Go.TypeDesc.struct #[{ name := "kind", type := 3, offset := 0, embedded := false, tag := "", pkgPath := "shamrock/coord", byteOffset := 0 }, { name := "session", type := 3, offset := 1, embedded := false, tag := "", pkgPath := "shamrock/coord", byteOffset := 8 }, { name := "phase", type := 3, offset := 2, embedded := false, tag := "", pkgPath := "shamrock/coord", byteOffset := 16 }, { name := "sort", type := 3, offset := 3, embedded := false, tag := "", pkgPath := "shamrock/coord", byteOffset := 24 }, { name := "target", type := 3, offset := 4, embedded := false, tag := "", pkgPath := "shamrock/coord", byteOffset := 32 }, { name := "head", type := 55, offset := 5, embedded := false, tag := "", pkgPath := "shamrock/coord", byteOffset := 40 }, { name := "parts", type := 33, offset := 7, embedded := false, tag := "", pkgPath := "shamrock/coord", byteOffset := 64 }, { name := "dealers", type := 33, offset := 8, embedded := false, tag := "", pkgPath := "shamrock/coord", byteOffset := 88 }, { name := "list", type := 33, offset := 9, embedded := false, tag := "", pkgPath := "shamrock/coord", byteOffset := 112 }, { name := "queue", type := 33, offset := 10, embedded := false, tag := "", pkgPath := "shamrock/coord", byteOffset := 136 }, { name := "got", type := 56, offset := 11, embedded := false, tag := "", pkgPath := "shamrock/coord", byteOffset := 160 }]), 12, 168, (Go.Value.agg #[(Go.Value.int Go.IntKind.i64 0), (Go.Value.int Go.IntKind.i64 0), (Go.Value.int Go.IntKind.i64 0), (Go.Value.int Go.IntKind.i64 0), (Go.Value.int Go.IntKind.i64 0), (Go.Value.string { data := #[] }), (Go.Value.int Go.IntKind.i64 0), (Go.Value.slice none 0 0), (Go.Value.slice none 0 0), (Go.Value.slice none 0 0), (Go.Value.slice none 0 0), (Go.Value.map none)])⟩
theorem tik58 : TIok Try.prog 58 ti58 := ⟨by kernel_rfl, by kernel_rfl⟩
def ti59 : TI := ⟨(Go.TypeDesc.struct #[{ name := "p", type := 23, offset := 0, embedded := false, tag := "", pkgPath := "shamrock/coord", byteOffset := 0 }, { name := "f", type := 51, offset := 5, embedded := false, tag := "", pkgPath := "shamrock/coord", byteOffset := 40 }, { name := "b", type := 44, offset := 6, embedded := false, tag := "", pkgPath := "shamrock/coord", byteOffset := 48 }, { name := "now", type := 58, offset := 7, embedded := false, tag := "", pkgPath := "shamrock/coord", byteOffset := 56 }]), 19, 224, (Go.Value.agg (rl [(5, (Go.Value.int Go.IntKind.i64 0)), (2, (Go.Value.pointer none)), (5, (Go.Value.int Go.IntKind.i64 0)), (1, (Go.Value.string { data := #[] })), (1, (Go.Value.int Go.IntKind.i64 0)), (4, (Go.Value.slice none 0 0)), (1, (Go.Value.map none))]))⟩
theorem tik59 : TIok Try.prog 59 ti59 := ⟨by kernel_rfl, by kernel_rfl⟩
def ti60 : TI := ⟨(Go.TypeDesc.struct #[{ name := "p", type := 23, offset := 0, embedded := false, tag := "", pkgPath := "shamrock/coord", byteOffset := 0 }, { name := "f", type := 51, offset := 5, embedded := false, tag := "", pkgPath := "shamrock/coord", byteOffset := 40 }, { name := "b", type := 44, offset := 6, embedded := false, tag := "", pkgPath := "shamrock/coord", byteOffset := 48 }, { name := "now", type := 58, offset := 7, embedded := false, tag := "", pkgPath := "shamrock/coord", byteOffset := 56 }]), 19, 224, (Go.Value.agg (rl [(5, (Go.Value.int Go.IntKind.i64 0)), (2, (Go.Value.pointer none)), (5, (Go.Value.int Go.IntKind.i64 0)), (1, (Go.Value.string { data := #[] })), (1, (Go.Value.int Go.IntKind.i64 0)), (4, (Go.Value.slice none 0 0)), (1, (Go.Value.map none))]))⟩
theorem tik60 : TIok Try.prog 60 ti60 := ⟨by kernel_rfl, by kernel_rfl⟩
def ti61 : TI := ⟨(Go.TypeDesc.func #[31] #[35] false), 1, 8, Go.Value.nilFunc⟩
theorem tik61 : TIok Try.prog 61 ti61 := ⟨by kernel_rfl, by kernel_rfl⟩
def ti62 : TI := ⟨(Go.TypeDesc.func #[9] #[31] false), 1, 8, Go.Value.nilFunc⟩
theorem tik62 : TIok Try.prog 62 ti62 := ⟨by kernel_rfl, by kernel_rfl⟩
def ti63 : TI := ⟨(Go.TypeDesc.func #[3] #[33] false), 1, 8, Go.Value.nilFunc⟩
theorem tik63 : TIok Try.prog 63 ti63 := ⟨by kernel_rfl, by kernel_rfl⟩
def ti64 : TI := ⟨(Go.TypeDesc.pointer 100), 1, 8, (Go.Value.pointer none)⟩
theorem tik64 : TIok Try.prog 64 ti64 := ⟨by kernel_rfl, by kernel_rfl⟩
def ti65 : TI := ⟨(Go.TypeDesc.struct #[{ name := "p", type := 23, offset := 0, embedded := false, tag := "", pkgPath := "shamrock/book", byteOffset := 0 }, { name := "s", type := 64, offset := 5, embedded := false, tag := "", pkgPath := "shamrock/book", byteOffset := 40 }, { name := "off", type := 4, offset := 6, embedded := false, tag := "", pkgPath := "shamrock/book", byteOffset := 48 }]), 7, 56, (Go.Value.agg #[(Go.Value.int Go.IntKind.i64 0), (Go.Value.int Go.IntKind.i64 0), (Go.Value.int Go.IntKind.i64 0), (Go.Value.int Go.IntKind.i64 0), (Go.Value.int Go.IntKind.i64 0), (Go.Value.pointer none), (Go.Value.bool false)])⟩
theorem tik65 : TIok Try.prog 65 ti65 := ⟨by kernel_rfl, by kernel_rfl⟩
def ti66 : TI := ⟨(Go.TypeDesc.struct #[{ name := "p", type := 23, offset := 0, embedded := false, tag := "", pkgPath := "shamrock/book", byteOffset := 0 }, { name := "s", type := 64, offset := 5, embedded := false, tag := "", pkgPath := "shamrock/book", byteOffset := 40 }, { name := "off", type := 4, offset := 6, embedded := false, tag := "", pkgPath := "shamrock/book", byteOffset := 48 }]), 7, 56, (Go.Value.agg #[(Go.Value.int Go.IntKind.i64 0), (Go.Value.int Go.IntKind.i64 0), (Go.Value.int Go.IntKind.i64 0), (Go.Value.int Go.IntKind.i64 0), (Go.Value.int Go.IntKind.i64 0), (Go.Value.pointer none), (Go.Value.bool false)])⟩
theorem tik66 : TIok Try.prog 66 ti66 := ⟨by kernel_rfl, by kernel_rfl⟩
def ti67 : TI := ⟨(Go.TypeDesc.func #[] #[24] false), 1, 8, Go.Value.nilFunc⟩
theorem tik67 : TIok Try.prog 67 ti67 := ⟨by kernel_rfl, by kernel_rfl⟩
def ti69 : TI := ⟨(Go.TypeDesc.func #[24] #[43, 4] false), 1, 8, Go.Value.nilFunc⟩
theorem tik69 : TIok Try.prog 69 ti69 := ⟨by kernel_rfl, by kernel_rfl⟩
def ti71 : TI := ⟨(Go.TypeDesc.func #[43] #[24, 4] false), 1, 8, Go.Value.nilFunc⟩
theorem tik71 : TIok Try.prog 71 ti71 := ⟨by kernel_rfl, by kernel_rfl⟩
def ti72 : TI := ⟨(Go.TypeDesc.array 510 5), 510, 510, (Go.Value.agg (rl [(510, (Go.Value.int Go.IntKind.u8 0))]))⟩
theorem tik72 : TIok Try.prog 72 ti72 := ⟨by kernel_rfl, by kernel_rfl⟩
def ti73 : TI := ⟨(Go.TypeDesc.array 256 3), 256, 2048, (Go.Value.agg (rl [(256, (Go.Value.int Go.IntKind.i64 0))]))⟩
theorem tik73 : TIok Try.prog 73 ti73 := ⟨by kernel_rfl, by kernel_rfl⟩
def ti74 : TI := ⟨(Go.TypeDesc.struct #[{ name := "exp", type := 72, offset := 0, embedded := false, tag := "", pkgPath := "shamrock/gf", byteOffset := 0 }, { name := "log", type := 73, offset := 510, embedded := false, tag := "", pkgPath := "shamrock/gf", byteOffset := 512 }]), 766, 2560, (Go.Value.agg (rl [(510, (Go.Value.int Go.IntKind.u8 0)), (256, (Go.Value.int Go.IntKind.i64 0))]))⟩
theorem tik74 : TIok Try.prog 74 ti74 := ⟨by kernel_rfl, by kernel_rfl⟩
def ti75 : TI := ⟨(Go.TypeDesc.struct #[{ name := "exp", type := 72, offset := 0, embedded := false, tag := "", pkgPath := "shamrock/gf", byteOffset := 0 }, { name := "log", type := 73, offset := 510, embedded := false, tag := "", pkgPath := "shamrock/gf", byteOffset := 512 }]), 766, 2560, (Go.Value.agg (rl [(510, (Go.Value.int Go.IntKind.u8 0)), (256, (Go.Value.int Go.IntKind.i64 0))]))⟩
theorem tik75 : TIok Try.prog 75 ti75 := ⟨by kernel_rfl, by kernel_rfl⟩
def ti76 : TI := ⟨(Go.TypeDesc.func #[114] #[] false), 1, 8, Go.Value.nilFunc⟩
theorem tik76 : TIok Try.prog 76 ti76 := ⟨by kernel_rfl, by kernel_rfl⟩
def ti77 : TI := ⟨(Go.TypeDesc.func #[114] #[] false), 1, 8, Go.Value.nilFunc⟩
theorem tik77 : TIok Try.prog 77 ti77 := ⟨by kernel_rfl, by kernel_rfl⟩
def ti78 : TI := ⟨(Go.TypeDesc.func #[] #[77] false), 1, 8, Go.Value.nilFunc⟩
theorem tik78 : TIok Try.prog 78 ti78 := ⟨by kernel_rfl, by kernel_rfl⟩
def ti79 : TI := ⟨(Go.TypeDesc.func #[3] #[64] false), 1, 8, Go.Value.nilFunc⟩
theorem tik79 : TIok Try.prog 79 ti79 := ⟨by kernel_rfl, by kernel_rfl⟩
def ti80 : TI := ⟨(Go.TypeDesc.func #[84] #[31] false), 1, 8, Go.Value.nilFunc⟩
theorem tik80 : TIok Try.prog 80 ti80 := ⟨by kernel_rfl, by kernel_rfl⟩
def ti81 : TI := ⟨(Go.TypeDesc.pointer 43), 1, 8, (Go.Value.pointer none)⟩
theorem tik81 : TIok Try.prog 81 ti81 := ⟨by kernel_rfl, by kernel_rfl⟩
def ti83 : TI := ⟨(Go.TypeDesc.func #[81, 9] #[3, 4] false), 1, 8, Go.Value.nilFunc⟩
theorem tik83 : TIok Try.prog 83 ti83 := ⟨by kernel_rfl, by kernel_rfl⟩
def ti84 : TI := ⟨(Go.TypeDesc.func #[81] #[31] false), 1, 8, Go.Value.nilFunc⟩
theorem tik84 : TIok Try.prog 84 ti84 := ⟨by kernel_rfl, by kernel_rfl⟩
def ti85 : TI := ⟨(Go.TypeDesc.func #[32, 3, 3] #[32] false), 1, 8, Go.Value.nilFunc⟩
theorem tik85 : TIok Try.prog 85 ti85 := ⟨by kernel_rfl, by kernel_rfl⟩
def ti87 : TI := ⟨(Go.TypeDesc.func #[9] #[55, 4] false), 1, 8, Go.Value.nilFunc⟩
theorem tik87 : TIok Try.prog 87 ti87 := ⟨by kernel_rfl, by kernel_rfl⟩
def ti88 : TI := ⟨(Go.TypeDesc.func #[31] #[35, 36] false), 1, 8, Go.Value.nilFunc⟩
theorem tik88 : TIok Try.prog 88 ti88 := ⟨by kernel_rfl, by kernel_rfl⟩
def ti89 : TI := ⟨(Go.TypeDesc.func #[3, 3, 3, 33] #[35, 36] false), 1, 8, Go.Value.nilFunc⟩
theorem tik89 : TIok Try.prog 89 ti89 := ⟨by kernel_rfl, by kernel_rfl⟩
def ti90 : TI := ⟨(Go.TypeDesc.func #[3, 3, 3, 3, 33] #[35, 36] false), 1, 8, Go.Value.nilFunc⟩
theorem tik90 : TIok Try.prog 90 ti90 := ⟨by kernel_rfl, by kernel_rfl⟩
def ti91 : TI := ⟨(Go.TypeDesc.func #[] #[3] false), 1, 8, Go.Value.nilFunc⟩
theorem tik91 : TIok Try.prog 91 ti91 := ⟨by kernel_rfl, by kernel_rfl⟩
def ti92 : TI := ⟨(Go.TypeDesc.func #[33] #[31] false), 1, 8, Go.Value.nilFunc⟩
theorem tik92 : TIok Try.prog 92 ti92 := ⟨by kernel_rfl, by kernel_rfl⟩
def ti93 : TI := ⟨(Go.TypeDesc.func #[3] #[35, 36] false), 1, 8, Go.Value.nilFunc⟩
theorem tik93 : TIok Try.prog 93 ti93 := ⟨by kernel_rfl, by kernel_rfl⟩
def ti94 : TI := ⟨(Go.TypeDesc.struct #[{ name := "side", type := 3, offset := 0, embedded := false, tag := "", pkgPath := "shamrock/slot", byteOffset := 0 }, { name := "length", type := 3, offset := 1, embedded := false, tag := "", pkgPath := "shamrock/slot", byteOffset := 8 }]), 2, 16, (Go.Value.agg #[(Go.Value.int Go.IntKind.i64 0), (Go.Value.int Go.IntKind.i64 0)])⟩
theorem tik94 : TIok Try.prog 94 ti94 := ⟨by kernel_rfl, by kernel_rfl⟩
def ti95 : TI := ⟨(Go.TypeDesc.struct #[{ name := "side", type := 3, offset := 0, embedded := false, tag := "", pkgPath := "shamrock/slot", byteOffset := 0 }, { name := "length", type := 3, offset := 1, embedded := false, tag := "", pkgPath := "shamrock/slot", byteOffset := 8 }]), 2, 16, (Go.Value.agg #[(Go.Value.int Go.IntKind.i64 0), (Go.Value.int Go.IntKind.i64 0)])⟩
theorem tik95 : TIok Try.prog 95 ti95 := ⟨by kernel_rfl, by kernel_rfl⟩
def ti96 : TI := ⟨(Go.TypeDesc.func #[] #[95] false), 1, 8, Go.Value.nilFunc⟩
theorem tik96 : TIok Try.prog 96 ti96 := ⟨by kernel_rfl, by kernel_rfl⟩
def ti97 : TI := ⟨(Go.TypeDesc.func #[3] #[3] false), 1, 8, Go.Value.nilFunc⟩
theorem tik97 : TIok Try.prog 97 ti97 := ⟨by kernel_rfl, by kernel_rfl⟩
def ti98 : TI := ⟨(Go.TypeDesc.pointer 131), 1, 8, (Go.Value.pointer none)⟩
theorem tik98 : TIok Try.prog 98 ti98 := ⟨by kernel_rfl, by kernel_rfl⟩
def ti99 : TI := ⟨(Go.TypeDesc.struct #[{ name := "d", type := 98, offset := 0, embedded := false, tag := "", pkgPath := "shamrock/slot", byteOffset := 0 }, { name := "room", type := 3, offset := 1, embedded := false, tag := "", pkgPath := "shamrock/slot", byteOffset := 8 }]), 2, 16, (Go.Value.agg #[(Go.Value.pointer none), (Go.Value.int Go.IntKind.i64 0)])⟩
theorem tik99 : TIok Try.prog 99 ti99 := ⟨by kernel_rfl, by kernel_rfl⟩
def ti100 : TI := ⟨(Go.TypeDesc.struct #[{ name := "d", type := 98, offset := 0, embedded := false, tag := "", pkgPath := "shamrock/slot", byteOffset := 0 }, { name := "room", type := 3, offset := 1, embedded := false, tag := "", pkgPath := "shamrock/slot", byteOffset := 8 }]), 2, 16, (Go.Value.agg #[(Go.Value.pointer none), (Go.Value.int Go.IntKind.i64 0)])⟩
theorem tik100 : TIok Try.prog 100 ti100 := ⟨by kernel_rfl, by kernel_rfl⟩
def ti101 : TI := ⟨(Go.TypeDesc.func #[3] #[24, 4] false), 1, 8, Go.Value.nilFunc⟩
theorem tik101 : TIok Try.prog 101 ti101 := ⟨by kernel_rfl, by kernel_rfl⟩
def ti102 : TI := ⟨(Go.TypeDesc.func #[3, 3] #[3] false), 1, 8, Go.Value.nilFunc⟩
theorem tik102 : TIok Try.prog 102 ti102 := ⟨by kernel_rfl, by kernel_rfl⟩
def ti103 : TI := ⟨(Go.TypeDesc.pointer 133), 1, 8, (Go.Value.pointer none)⟩
theorem tik103 : TIok Try.prog 103 ti103 := ⟨by kernel_rfl, by kernel_rfl⟩
def ti104 : TI := ⟨(Go.TypeDesc.func #[24] #[103] false), 1, 8, Go.Value.nilFunc⟩
theorem tik104 : TIok Try.prog 104 ti104 := ⟨by kernel_rfl, by kernel_rfl⟩
def ti105 : TI := ⟨(Go.TypeDesc.struct #[{ name := "Reader", type := 103, offset := 0, embedded := true, tag := "", pkgPath := "", byteOffset := 0 }, { name := "most", type := 3, offset := 1, embedded := false, tag := "", pkgPath := "shamrock/rec", byteOffset := 8 }]), 2, 16, (Go.Value.agg #[(Go.Value.pointer none), (Go.Value.int Go.IntKind.i64 0)])⟩
theorem tik105 : TIok Try.prog 105 ti105 := ⟨by kernel_rfl, by kernel_rfl⟩
def ti106 : TI := ⟨(Go.TypeDesc.struct #[{ name := "Reader", type := 103, offset := 0, embedded := true, tag := "", pkgPath := "", byteOffset := 0 }, { name := "most", type := 3, offset := 1, embedded := false, tag := "", pkgPath := "shamrock/rec", byteOffset := 8 }]), 2, 16, (Go.Value.agg #[(Go.Value.pointer none), (Go.Value.int Go.IntKind.i64 0)])⟩
theorem tik106 : TIok Try.prog 106 ti106 := ⟨by kernel_rfl, by kernel_rfl⟩
def ti107 : TI := ⟨(Go.TypeDesc.func #[24, 24] #[4] false), 1, 8, Go.Value.nilFunc⟩
theorem tik107 : TIok Try.prog 107 ti107 := ⟨by kernel_rfl, by kernel_rfl⟩
def ti108 : TI := ⟨(Go.TypeDesc.pointer 110), 1, 8, (Go.Value.pointer none)⟩
theorem tik108 : TIok Try.prog 108 ti108 := ⟨by kernel_rfl, by kernel_rfl⟩
def ti109 : TI := ⟨(Go.TypeDesc.struct #[{ name := "Out", type := 24, offset := 0, embedded := false, tag := "", pkgPath := "", byteOffset := 0 }, { name := "Bad", type := 4, offset := 1, embedded := false, tag := "", pkgPath := "", byteOffset := 24 }]), 2, 32, (Go.Value.agg #[(Go.Value.slice none 0 0), (Go.Value.bool false)])⟩
theorem tik109 : TIok Try.prog 109 ti109 := ⟨by kernel_rfl, by kernel_rfl⟩
def ti110 : TI := ⟨(Go.TypeDesc.struct #[{ name := "Out", type := 24, offset := 0, embedded := false, tag := "", pkgPath := "", byteOffset := 0 }, { name := "Bad", type := 4, offset := 1, embedded := false, tag := "", pkgPath := "", byteOffset := 24 }]), 2, 32, (Go.Value.agg #[(Go.Value.slice none 0 0), (Go.Value.bool false)])⟩
theorem tik110 : TIok Try.prog 110 ti110 := ⟨by kernel_rfl, by kernel_rfl⟩
def ti111 : TI := ⟨(Go.TypeDesc.func #[33] #[] true), 1, 8, Go.Value.nilFunc⟩
theorem tik111 : TIok Try.prog 111 ti111 := ⟨by kernel_rfl, by kernel_rfl⟩
def ti112 : TI := ⟨(Go.TypeDesc.func #[32] #[] false), 1, 8, Go.Value.nilFunc⟩
theorem tik112 : TIok Try.prog 112 ti112 := ⟨by kernel_rfl, by kernel_rfl⟩
def ti113 : TI := ⟨(Go.TypeDesc.func #[33] #[] false), 1, 8, Go.Value.nilFunc⟩
theorem tik113 : TIok Try.prog 113 ti113 := ⟨by kernel_rfl, by kernel_rfl⟩
def ti114 : TI := ⟨(Go.TypeDesc.func #[3, 5] #[4] false), 1, 8, Go.Value.nilFunc⟩
theorem tik114 : TIok Try.prog 114 ti114 := ⟨by kernel_rfl, by kernel_rfl⟩
def ti115 : TI := ⟨(Go.TypeDesc.func #[5] #[5] false), 1, 8, Go.Value.nilFunc⟩
theorem tik115 : TIok Try.prog 115 ti115 := ⟨by kernel_rfl, by kernel_rfl⟩
def ti116 : TI := ⟨(Go.TypeDesc.func #[3] #[98] false), 1, 8, Go.Value.nilFunc⟩
theorem tik116 : TIok Try.prog 116 ti116 := ⟨by kernel_rfl, by kernel_rfl⟩
def ti117 : TI := ⟨(Go.TypeDesc.func #[24] #[31] false), 1, 8, Go.Value.nilFunc⟩
theorem tik117 : TIok Try.prog 117 ti117 := ⟨by kernel_rfl, by kernel_rfl⟩
def ti118 : TI := ⟨(Go.TypeDesc.func #[32, 9, 120] #[3, 4] false), 1, 8, Go.Value.nilFunc⟩
theorem tik118 : TIok Try.prog 118 ti118 := ⟨by kernel_rfl, by kernel_rfl⟩
def ti119 : TI := ⟨(Go.TypeDesc.func #[9, 9] #[3] false), 1, 8, Go.Value.nilFunc⟩
theorem tik119 : TIok Try.prog 119 ti119 := ⟨by kernel_rfl, by kernel_rfl⟩
def ti120 : TI := ⟨(Go.TypeDesc.func #[55, 9] #[3] false), 1, 8, Go.Value.nilFunc⟩
theorem tik120 : TIok Try.prog 120 ti120 := ⟨by kernel_rfl, by kernel_rfl⟩
def ti121 : TI := ⟨(Go.TypeDesc.func #[32, 122] #[3] false), 1, 8, Go.Value.nilFunc⟩
theorem tik121 : TIok Try.prog 121 ti121 := ⟨by kernel_rfl, by kernel_rfl⟩
def ti122 : TI := ⟨(Go.TypeDesc.func #[55] #[4] false), 1, 8, Go.Value.nilFunc⟩
theorem tik122 : TIok Try.prog 122 ti122 := ⟨by kernel_rfl, by kernel_rfl⟩
def ti124 : TI := ⟨(Go.TypeDesc.func #[] #[3, 31] false), 1, 8, Go.Value.nilFunc⟩
theorem tik124 : TIok Try.prog 124 ti124 := ⟨by kernel_rfl, by kernel_rfl⟩
def ti125 : TI := ⟨(Go.TypeDesc.func #[] #[36] false), 1, 8, Go.Value.nilFunc⟩
theorem tik125 : TIok Try.prog 125 ti125 := ⟨by kernel_rfl, by kernel_rfl⟩
def ti126 : TI := ⟨(Go.TypeDesc.func #[3] #[4] false), 1, 8, Go.Value.nilFunc⟩
theorem tik126 : TIok Try.prog 126 ti126 := ⟨by kernel_rfl, by kernel_rfl⟩
def ti127 : TI := ⟨(Go.TypeDesc.int Go.IntKind.u64), 1, 8, (Go.Value.int Go.IntKind.u64 0)⟩
theorem tik127 : TIok Try.prog 127 ti127 := ⟨by kernel_rfl, by kernel_rfl⟩
def ti128 : TI := ⟨(Go.TypeDesc.func #[24] #[24] false), 1, 8, Go.Value.nilFunc⟩
theorem tik128 : TIok Try.prog 128 ti128 := ⟨by kernel_rfl, by kernel_rfl⟩
def ti129 : TI := ⟨(Go.TypeDesc.slice 24), 1, 24, (Go.Value.slice none 0 0)⟩
theorem tik129 : TIok Try.prog 129 ti129 := ⟨by kernel_rfl, by kernel_rfl⟩
def ti130 : TI := ⟨(Go.TypeDesc.struct #[{ name := "blocks", type := 129, offset := 0, embedded := false, tag := "", pkgPath := "shamrock/disk", byteOffset := 0 }, { name := "fuse", type := 3, offset := 1, embedded := false, tag := "", pkgPath := "shamrock/disk", byteOffset := 24 }, { name := "down", type := 4, offset := 2, embedded := false, tag := "", pkgPath := "shamrock/disk", byteOffset := 32 }, { name := "writes", type := 3, offset := 3, embedded := false, tag := "", pkgPath := "shamrock/disk", byteOffset := 40 }]), 4, 48, (Go.Value.agg #[(Go.Value.slice none 0 0), (Go.Value.int Go.IntKind.i64 0), (Go.Value.bool false), (Go.Value.int Go.IntKind.i64 0)])⟩
theorem tik130 : TIok Try.prog 130 ti130 := ⟨by kernel_rfl, by kernel_rfl⟩
def ti131 : TI := ⟨(Go.TypeDesc.struct #[{ name := "blocks", type := 129, offset := 0, embedded := false, tag := "", pkgPath := "shamrock/disk", byteOffset := 0 }, { name := "fuse", type := 3, offset := 1, embedded := false, tag := "", pkgPath := "shamrock/disk", byteOffset := 24 }, { name := "down", type := 4, offset := 2, embedded := false, tag := "", pkgPath := "shamrock/disk", byteOffset := 32 }, { name := "writes", type := 3, offset := 3, embedded := false, tag := "", pkgPath := "shamrock/disk", byteOffset := 40 }]), 4, 48, (Go.Value.agg #[(Go.Value.slice none 0 0), (Go.Value.int Go.IntKind.i64 0), (Go.Value.bool false), (Go.Value.int Go.IntKind.i64 0)])⟩
theorem tik131 : TIok Try.prog 131 ti131 := ⟨by kernel_rfl, by kernel_rfl⟩
def ti132 : TI := ⟨(Go.TypeDesc.struct #[{ name := "left", type := 24, offset := 0, embedded := false, tag := "", pkgPath := "shamrock/word", byteOffset := 0 }, { name := "bad", type := 4, offset := 1, embedded := false, tag := "", pkgPath := "shamrock/word", byteOffset := 24 }]), 2, 32, (Go.Value.agg #[(Go.Value.slice none 0 0), (Go.Value.bool false)])⟩
theorem tik132 : TIok Try.prog 132 ti132 := ⟨by kernel_rfl, by kernel_rfl⟩
def ti133 : TI := ⟨(Go.TypeDesc.struct #[{ name := "left", type := 24, offset := 0, embedded := false, tag := "", pkgPath := "shamrock/word", byteOffset := 0 }, { name := "bad", type := 4, offset := 1, embedded := false, tag := "", pkgPath := "shamrock/word", byteOffset := 24 }]), 2, 32, (Go.Value.agg #[(Go.Value.slice none 0 0), (Go.Value.bool false)])⟩
theorem tik133 : TIok Try.prog 133 ti133 := ⟨by kernel_rfl, by kernel_rfl⟩
def ti134 : TI := ⟨(Go.TypeDesc.func #[3] #[24] false), 1, 8, Go.Value.nilFunc⟩
theorem tik134 : TIok Try.prog 134 ti134 := ⟨by kernel_rfl, by kernel_rfl⟩
def ti135 : TI := ⟨(Go.TypeDesc.pointer 150), 1, 8, (Go.Value.pointer none)⟩
theorem tik135 : TIok Try.prog 135 ti135 := ⟨by kernel_rfl, by kernel_rfl⟩
def ti136 : TI := ⟨(Go.TypeDesc.func #[] #[135] false), 1, 8, Go.Value.nilFunc⟩
theorem tik136 : TIok Try.prog 136 ti136 := ⟨by kernel_rfl, by kernel_rfl⟩
def ti137 : TI := ⟨(Go.TypeDesc.struct #[{ name := "Writer", type := 135, offset := 0, embedded := true, tag := "", pkgPath := "", byteOffset := 0 }]), 1, 8, (Go.Value.agg #[(Go.Value.pointer none)])⟩
theorem tik137 : TIok Try.prog 137 ti137 := ⟨by kernel_rfl, by kernel_rfl⟩
def ti138 : TI := ⟨(Go.TypeDesc.struct #[{ name := "Writer", type := 135, offset := 0, embedded := true, tag := "", pkgPath := "", byteOffset := 0 }]), 1, 8, (Go.Value.agg #[(Go.Value.pointer none)])⟩
theorem tik138 : TIok Try.prog 138 ti138 := ⟨by kernel_rfl, by kernel_rfl⟩
def ti139 : TI := ⟨(Go.TypeDesc.func #[24] #[] false), 1, 8, Go.Value.nilFunc⟩
theorem tik139 : TIok Try.prog 139 ti139 := ⟨by kernel_rfl, by kernel_rfl⟩
def ti140 : TI := ⟨(Go.TypeDesc.func #[3] #[] false), 1, 8, Go.Value.nilFunc⟩
theorem tik140 : TIok Try.prog 140 ti140 := ⟨by kernel_rfl, by kernel_rfl⟩
def ti141 : TI := ⟨(Go.TypeDesc.func #[4] #[3] false), 1, 8, Go.Value.nilFunc⟩
theorem tik141 : TIok Try.prog 141 ti141 := ⟨by kernel_rfl, by kernel_rfl⟩
def ti142 : TI := ⟨(Go.TypeDesc.func #[] #[24, 4] false), 1, 8, Go.Value.nilFunc⟩
theorem tik142 : TIok Try.prog 142 ti142 := ⟨by kernel_rfl, by kernel_rfl⟩
def ti143 : TI := ⟨(Go.TypeDesc.func #[152] #[] false), 1, 8, Go.Value.nilFunc⟩
theorem tik143 : TIok Try.prog 143 ti143 := ⟨by kernel_rfl, by kernel_rfl⟩
def ti144 : TI := ⟨(Go.TypeDesc.func #[152] #[] false), 1, 8, Go.Value.nilFunc⟩
theorem tik144 : TIok Try.prog 144 ti144 := ⟨by kernel_rfl, by kernel_rfl⟩
def ti145 : TI := ⟨(Go.TypeDesc.func #[24] #[144] false), 1, 8, Go.Value.nilFunc⟩
theorem tik145 : TIok Try.prog 145 ti145 := ⟨by kernel_rfl, by kernel_rfl⟩
def ti146 : TI := ⟨(Go.TypeDesc.func #[3, 24] #[31] false), 1, 8, Go.Value.nilFunc⟩
theorem tik146 : TIok Try.prog 146 ti146 := ⟨by kernel_rfl, by kernel_rfl⟩
def ti147 : TI := ⟨(Go.TypeDesc.map 3 3), 1, 8, (Go.Value.map none)⟩
theorem tik147 : TIok Try.prog 147 ti147 := ⟨by kernel_rfl, by kernel_rfl⟩
def ti148 : TI := ⟨(Go.TypeDesc.func #[43, 3, 3] #[50] false), 1, 8, Go.Value.nilFunc⟩
theorem tik148 : TIok Try.prog 148 ti148 := ⟨by kernel_rfl, by kernel_rfl⟩
def ti149 : TI := ⟨(Go.TypeDesc.struct #[{ name := "out", type := 24, offset := 0, embedded := false, tag := "", pkgPath := "shamrock/word", byteOffset := 0 }, { name := "bad", type := 4, offset := 1, embedded := false, tag := "", pkgPath := "shamrock/word", byteOffset := 24 }]), 2, 32, (Go.Value.agg #[(Go.Value.slice none 0 0), (Go.Value.bool false)])⟩
theorem tik149 : TIok Try.prog 149 ti149 := ⟨by kernel_rfl, by kernel_rfl⟩
def ti150 : TI := ⟨(Go.TypeDesc.struct #[{ name := "out", type := 24, offset := 0, embedded := false, tag := "", pkgPath := "shamrock/word", byteOffset := 0 }, { name := "bad", type := 4, offset := 1, embedded := false, tag := "", pkgPath := "shamrock/word", byteOffset := 24 }]), 2, 32, (Go.Value.agg #[(Go.Value.slice none 0 0), (Go.Value.bool false)])⟩
theorem tik150 : TIok Try.prog 150 ti150 := ⟨by kernel_rfl, by kernel_rfl⟩
def ti151 : TI := ⟨(Go.TypeDesc.func #[24] #[24, 4] false), 1, 8, Go.Value.nilFunc⟩
theorem tik151 : TIok Try.prog 151 ti151 := ⟨by kernel_rfl, by kernel_rfl⟩
def ti152 : TI := ⟨(Go.TypeDesc.func #[3, 24] #[4] false), 1, 8, Go.Value.nilFunc⟩
theorem tik152 : TIok Try.prog 152 ti152 := ⟨by kernel_rfl, by kernel_rfl⟩
def ti153 : TI := ⟨(Go.TypeDesc.func #[32] #[32] false), 1, 8, Go.Value.nilFunc⟩
theorem tik153 : TIok Try.prog 153 ti153 := ⟨by kernel_rfl, by kernel_rfl⟩
def ti154 : TI := ⟨(Go.TypeDesc.func #[33] #[33] false), 1, 8, Go.Value.nilFunc⟩
theorem tik154 : TIok Try.prog 154 ti154 := ⟨by kernel_rfl, by kernel_rfl⟩
def ti155 : TI := ⟨(Go.TypeDesc.func #[] #[9] false), 1, 8, Go.Value.nilFunc⟩
theorem tik155 : TIok Try.prog 155 ti155 := ⟨by kernel_rfl, by kernel_rfl⟩
def ti156 : TI := ⟨(Go.TypeDesc.struct #[{ name := "_interface", type := 17, offset := 0, embedded := false, tag := "", pkgPath := "runtime", byteOffset := 0 }, { name := "concrete", type := 17, offset := 1, embedded := false, tag := "", pkgPath := "runtime", byteOffset := 8 }, { name := "asserted", type := 17, offset := 2, embedded := false, tag := "", pkgPath := "runtime", byteOffset := 16 }, { name := "missingMethod", type := 9, offset := 3, embedded := false, tag := "", pkgPath := "runtime", byteOffset := 24 }]), 4, 40, (Go.Value.agg #[(Go.Value.pointer none), (Go.Value.pointer none), (Go.Value.pointer none), (Go.Value.string { data := #[] })])⟩
theorem tik156 : TIok Try.prog 156 ti156 := ⟨by kernel_rfl, by kernel_rfl⟩
def ti157 : TI := ⟨(Go.TypeDesc.struct #[{ name := "_interface", type := 17, offset := 0, embedded := false, tag := "", pkgPath := "runtime", byteOffset := 0 }, { name := "concrete", type := 17, offset := 1, embedded := false, tag := "", pkgPath := "runtime", byteOffset := 8 }, { name := "asserted", type := 17, offset := 2, embedded := false, tag := "", pkgPath := "runtime", byteOffset := 16 }, { name := "missingMethod", type := 9, offset := 3, embedded := false, tag := "", pkgPath := "runtime", byteOffset := 24 }]), 4, 40, (Go.Value.agg #[(Go.Value.pointer none), (Go.Value.pointer none), (Go.Value.pointer none), (Go.Value.string { data := #[] })])⟩
theorem tik157 : TIok Try.prog 157 ti157 := ⟨by kernel_rfl, by kernel_rfl⟩
def ti158 : TI := ⟨(Go.TypeDesc.array 0 16), 0, 0, (Go.Value.agg #[])⟩
theorem tik158 : TIok Try.prog 158 ti158 := ⟨by kernel_rfl, by kernel_rfl⟩
def ti159 : TI := ⟨(Go.TypeDesc.struct #[{ name := "_", type := 158, offset := 0, embedded := false, tag := "", pkgPath := "runtime", byteOffset := 0 }]), 0, 0, (Go.Value.agg #[])⟩
theorem tik159 : TIok Try.prog 159 ti159 := ⟨by kernel_rfl, by kernel_rfl⟩
def ti160 : TI := ⟨(Go.TypeDesc.struct #[{ name := "_", type := 158, offset := 0, embedded := false, tag := "", pkgPath := "runtime", byteOffset := 0 }]), 0, 0, (Go.Value.agg #[])⟩
theorem tik160 : TIok Try.prog 160 ti160 := ⟨by kernel_rfl, by kernel_rfl⟩
def ti161 : TI := ⟨(Go.TypeDesc.int Go.IntKind.u32), 1, 4, (Go.Value.int Go.IntKind.u32 0)⟩
theorem tik161 : TIok Try.prog 161 ti161 := ⟨by kernel_rfl, by kernel_rfl⟩
def ti162 : TI := ⟨(Go.TypeDesc.int Go.IntKind.u8), 1, 1, (Go.Value.int Go.IntKind.u8 0)⟩
theorem tik162 : TIok Try.prog 162 ti162 := ⟨by kernel_rfl, by kernel_rfl⟩
def ti163 : TI := ⟨(Go.TypeDesc.int Go.IntKind.u8), 1, 1, (Go.Value.int Go.IntKind.u8 0)⟩
theorem tik163 : TIok Try.prog 163 ti163 := ⟨by kernel_rfl, by kernel_rfl⟩
def ti164 : TI := ⟨(Go.TypeDesc.func #[171, 171] #[4] false), 1, 8, Go.Value.nilFunc⟩
theorem tik164 : TIok Try.prog 164 ti164 := ⟨by kernel_rfl, by kernel_rfl⟩
def ti165 : TI := ⟨(Go.TypeDesc.pointer 5), 1, 8, (Go.Value.pointer none)⟩
theorem tik165 : TIok Try.prog 165 ti165 := ⟨by kernel_rfl, by kernel_rfl⟩
def ti166 : TI := ⟨(Go.TypeDesc.int Go.IntKind.i32), 1, 4, (Go.Value.int Go.IntKind.i32 0)⟩
theorem tik166 : TIok Try.prog 166 ti166 := ⟨by kernel_rfl, by kernel_rfl⟩
def ti167 : TI := ⟨(Go.TypeDesc.int Go.IntKind.i32), 1, 4, (Go.Value.int Go.IntKind.i32 0)⟩
theorem tik167 : TIok Try.prog 167 ti167 := ⟨by kernel_rfl, by kernel_rfl⟩
def ti168 : TI := ⟨(Go.TypeDesc.struct #[{ name := "Size_", type := 12, offset := 0, embedded := false, tag := "", pkgPath := "", byteOffset := 0 }, { name := "PtrBytes", type := 12, offset := 1, embedded := false, tag := "", pkgPath := "", byteOffset := 8 }, { name := "Hash", type := 161, offset := 2, embedded := false, tag := "", pkgPath := "", byteOffset := 16 }, { name := "TFlag", type := 162, offset := 3, embedded := false, tag := "", pkgPath := "", byteOffset := 20 }, { name := "Align_", type := 5, offset := 4, embedded := false, tag := "", pkgPath := "", byteOffset := 21 }, { name := "FieldAlign_", type := 5, offset := 5, embedded := false, tag := "", pkgPath := "", byteOffset := 22 }, { name := "Kind_", type := 163, offset := 6, embedded := false, tag := "", pkgPath := "", byteOffset := 23 }, { name := "Equal", type := 164, offset := 7, embedded := false, tag := "", pkgPath := "", byteOffset := 24 }, { name := "GCData", type := 165, offset := 8, embedded := false, tag := "", pkgPath := "", byteOffset := 32 }, { name := "Str", type := 166, offset := 9, embedded := false, tag := "", pkgPath := "", byteOffset := 40 }, { name := "PtrToThis", type := 167, offset := 10, embedded := false, tag := "", pkgPath := "", byteOffset := 44 }]), 11, 48, (Go.Value.agg #[(Go.Value.int Go.IntKind.u64 0), (Go.Value.int Go.IntKind.u64 0), (Go.Value.int Go.IntKind.u32 0), (Go.Value.int Go.IntKind.u8 0), (Go.Value.int Go.IntKind.u8 0), (Go.Value.int Go.IntKind.u8 0), (Go.Value.int Go.IntKind.u8 0), Go.Value.nilFunc, (Go.Value.pointer none), (Go.Value.int Go.IntKind.i32 0), (Go.Value.int Go.IntKind.i32 0)])⟩
theorem tik168 : TIok Try.prog 168 ti168 := ⟨by kernel_rfl, by kernel_rfl⟩
def ti169 : TI := ⟨(Go.TypeDesc.struct #[{ name := "Size_", type := 12, offset := 0, embedded := false, tag := "", pkgPath := "", byteOffset := 0 }, { name := "PtrBytes", type := 12, offset := 1, embedded := false, tag := "", pkgPath := "", byteOffset := 8 }, { name := "Hash", type := 161, offset := 2, embedded := false, tag := "", pkgPath := "", byteOffset := 16 }, { name := "TFlag", type := 162, offset := 3, embedded := false, tag := "", pkgPath := "", byteOffset := 20 }, { name := "Align_", type := 5, offset := 4, embedded := false, tag := "", pkgPath := "", byteOffset := 21 }, { name := "FieldAlign_", type := 5, offset := 5, embedded := false, tag := "", pkgPath := "", byteOffset := 22 }, { name := "Kind_", type := 163, offset := 6, embedded := false, tag := "", pkgPath := "", byteOffset := 23 }, { name := "Equal", type := 164, offset := 7, embedded := false, tag := "", pkgPath := "", byteOffset := 24 }, { name := "GCData", type := 165, offset := 8, embedded := false, tag := "", pkgPath := "", byteOffset := 32 }, { name := "Str", type := 166, offset := 9, embedded := false, tag := "", pkgPath := "", byteOffset := 40 }, { name := "PtrToThis", type := 167, offset := 10, embedded := false, tag := "", pkgPath := "", byteOffset := 44 }]), 11, 48, (Go.Value.agg #[(Go.Value.int Go.IntKind.u64 0), (Go.Value.int Go.IntKind.u64 0), (Go.Value.int Go.IntKind.u32 0), (Go.Value.int Go.IntKind.u8 0), (Go.Value.int Go.IntKind.u8 0), (Go.Value.int Go.IntKind.u8 0), (Go.Value.int Go.IntKind.u8 0), Go.Value.nilFunc, (Go.Value.pointer none), (Go.Value.int Go.IntKind.i32 0), (Go.Value.int Go.IntKind.i32 0)])⟩
theorem tik169 : TIok Try.prog 169 ti169 := ⟨by kernel_rfl, by kernel_rfl⟩
def ti170 : TI := ⟨(Go.TypeDesc.func #[5] #[5, 4] false), 1, 8, Go.Value.nilFunc⟩
theorem tik170 : TIok Try.prog 170 ti170 := ⟨by kernel_rfl, by kernel_rfl⟩
def ti171 : TI := ⟨Go.TypeDesc.unsafePointer, 1, 8, (Go.Value.pointer none)⟩
theorem tik171 : TIok Try.prog 171 ti171 := ⟨by kernel_rfl, by kernel_rfl⟩
def tb : TT := (.node 89 (.node 44 (.node 21 (.node 11 (.node 6 (.node 3 (.node 2 (.leaf 1 ti1) (.leaf 2 ti2)) (.node 4 (.leaf 3 ti3) (.node 5 (.leaf 4 ti4) (.leaf 5 ti5)))) (.node 8 (.node 7 (.leaf 6 ti6) (.leaf 7 ti7)) (.node 9 (.leaf 8 ti8) (.node 10 (.leaf 9 ti9) (.leaf 10 ti10))))) (.node 16 (.node 13 (.node 12 (.leaf 11 ti11) (.leaf 12 ti12)) (.node 14 (.leaf 13 ti13) (.node 15 (.leaf 14 ti14) (.leaf 15 ti15)))) (.node 18 (.node 17 (.leaf 16 ti16) (.leaf 17 ti17)) (.node 19 (.leaf 18 ti18) (.node 20 (.leaf 19 ti19) (.leaf 20 ti20)))))) (.node 31 (.node 26 (.node 23 (.node 22 (.leaf 21 ti21) (.leaf 22 ti22)) (.node 24 (.leaf 23 ti23) (.node 25 (.leaf 24 ti24) (.leaf 25 ti25)))) (.node 28 (.node 27 (.leaf 26 ti26) (.leaf 27 ti27)) (.node 29 (.leaf 28 ti28) (.node 30 (.leaf 29 ti29) (.leaf 30 ti30))))) (.node 36 (.node 33 (.node 32 (.leaf 31 ti31) (.leaf 32 ti32)) (.node 34 (.leaf 33 ti33) (.node 35 (.leaf 34 ti34) (.leaf 35 ti35)))) (.node 41 (.node 38 (.leaf 36 ti36) (.node 40 (.leaf 38 ti38) (.leaf 40 ti40))) (.node 42 (.leaf 41 ti41) (.node 43 (.leaf 42 ti42) (.leaf 43 ti43))))))) (.node 64 (.node 54 (.node 49 (.node 46 (.node 45 (.leaf 44 ti44) (.leaf 45 ti45)) (.node 47 (.leaf 46 ti46) (.node 48 (.leaf 47 ti47) (.leaf 48 ti48)))) (.node 51 (.node 50 (.leaf 49 ti49) (.leaf 50 ti50)) (.node 52 (.leaf 51 ti51) (.node 53 (.leaf 52 ti52) (.leaf 53 ti53))))) (.node 59 (.node 56 (.node 55 (.leaf 54 ti54) (.leaf 55 ti55)) (.node 57 (.leaf 56 ti56) (.node 58 (.leaf 57 ti57) (.leaf 58 ti58)))) (.node 61 (.node 60 (.leaf 59 ti59) (.leaf 60 ti60)) (.node 62 (.leaf 61 ti61) (.node 63 (.leaf 62 ti62) (.leaf 63 ti63)))))) (.node 76 (.node 71 (.node 66 (.node 65 (.leaf 64 ti64) (.leaf 65 ti65)) (.node 67 (.leaf 66 ti66) (.node 69 (.leaf 67 ti67) (.leaf 69 ti69)))) (.node 73 (.node 72 (.leaf 71 ti71) (.leaf 72 ti72)) (.node 74 (.leaf 73 ti73) (.node 75 (.leaf 74 ti74) (.leaf 75 ti75))))) (.node 81 (.node 78 (.node 77 (.leaf 76 ti76) (.leaf 77 ti77)) (.node 79 (.leaf 78 ti78) (.node 80 (.leaf 79 ti79) (.leaf 80 ti80)))) (.node 85 (.node 83 (.leaf 81 ti81) (.node 84 (.leaf 83 ti83) (.leaf 84 ti84))) (.node 87 (.leaf 85 ti85) (.node 88 (.leaf 87 ti87) (.leaf 88 ti88)))))))) (.node 131 (.node 109 (.node 99 (.node 94 (.node 91 (.node 90 (.leaf 89 ti89) (.leaf 90 ti90)) (.node 92 (.leaf 91 ti91) (.node 93 (.leaf 92 ti92) (.leaf 93 ti93)))) (.node 96 (.node 95 (.leaf 94 ti94) (.leaf 95 ti95)) (.node 97 (.leaf 96 ti96) (.node 98 (.leaf 97 ti97) (.leaf 98 ti98))))) (.node 104 (.node 101 (.node 100 (.leaf 99 ti99) (.leaf 100 ti100)) (.node 102 (.leaf 101 ti101) (.node 103 (.leaf 102 ti102) (.leaf 103 ti103)))) (.node 106 (.node 105 (.leaf 104 ti104) (.leaf 105 ti105)) (.node 107 (.leaf 106 ti106) (.node 108 (.leaf 107 ti107) (.leaf 108 ti108)))))) (.node 119 (.node 114 (.node 111 (.node 110 (.leaf 109 ti109) (.leaf 110 ti110)) (.node 112 (.leaf 111 ti111) (.node 113 (.leaf 112 ti112) (.leaf 113 ti113)))) (.node 116 (.node 115 (.leaf 114 ti114) (.leaf 115 ti115)) (.node 117 (.leaf 116 ti116) (.node 118 (.leaf 117 ti117) (.leaf 118 ti118))))) (.node 125 (.node 121 (.node 120 (.leaf 119 ti119) (.leaf 120 ti120)) (.node 122 (.leaf 121 ti121) (.node 124 (.leaf 122 ti122) (.leaf 124 ti124)))) (.node 128 (.node 126 (.leaf 125 ti125) (.node 127 (.leaf 126 ti126) (.leaf 127 ti127))) (.node 129 (.leaf 128 ti128) (.node 130 (.leaf 129 ti129) (.leaf 130 ti130))))))) (.node 151 (.node 141 (.node 136 (.node 133 (.node 132 (.leaf 131 ti131) (.leaf 132 ti132)) (.node 134 (.leaf 133 ti133) (.node 135 (.leaf 134 ti134) (.leaf 135 ti135)))) (.node 138 (.node 137 (.leaf 136 ti136) (.leaf 137 ti137)) (.node 139 (.leaf 138 ti138) (.node 140 (.leaf 139 ti139) (.leaf 140 ti140))))) (.node 146 (.node 143 (.node 142 (.leaf 141 ti141) (.leaf 142 ti142)) (.node 144 (.leaf 143 ti143) (.node 145 (.leaf 144 ti144) (.leaf 145 ti145)))) (.node 148 (.node 147 (.leaf 146 ti146) (.leaf 147 ti147)) (.node 149 (.leaf 148 ti148) (.node 150 (.leaf 149 ti149) (.leaf 150 ti150)))))) (.node 161 (.node 156 (.node 153 (.node 152 (.leaf 151 ti151) (.leaf 152 ti152)) (.node 154 (.leaf 153 ti153) (.node 155 (.leaf 154 ti154) (.leaf 155 ti155)))) (.node 158 (.node 157 (.leaf 156 ti156) (.leaf 157 ti157)) (.node 159 (.leaf 158 ti158) (.node 160 (.leaf 159 ti159) (.leaf 160 ti160))))) (.node 166 (.node 163 (.node 162 (.leaf 161 ti161) (.leaf 162 ti162)) (.node 164 (.leaf 163 ti163) (.node 165 (.leaf 164 ti164) (.leaf 165 ti165)))) (.node 169 (.node 167 (.leaf 166 ti166) (.node 168 (.leaf 167 ti167) (.leaf 168 ti168))) (.node 170 (.leaf 169 ti169) (.node 171 (.leaf 170 ti170) (.leaf 171 ti171)))))))))
theorem tok : TblOk Try.prog tb := ⟨⟨⟨⟨⟨⟨⟨tik1, tik2⟩, ⟨tik3, ⟨tik4, tik5⟩⟩⟩, ⟨⟨tik6, tik7⟩, ⟨tik8, ⟨tik9, tik10⟩⟩⟩⟩, ⟨⟨⟨tik11, tik12⟩, ⟨tik13, ⟨tik14, tik15⟩⟩⟩, ⟨⟨tik16, tik17⟩, ⟨tik18, ⟨tik19, tik20⟩⟩⟩⟩⟩, ⟨⟨⟨⟨tik21, tik22⟩, ⟨tik23, ⟨tik24, tik25⟩⟩⟩, ⟨⟨tik26, tik27⟩, ⟨tik28, ⟨tik29, tik30⟩⟩⟩⟩, ⟨⟨⟨tik31, tik32⟩, ⟨tik33, ⟨tik34, tik35⟩⟩⟩, ⟨⟨tik36, ⟨tik38, tik40⟩⟩, ⟨tik41, ⟨tik42, tik43⟩⟩⟩⟩⟩⟩, ⟨⟨⟨⟨⟨tik44, tik45⟩, ⟨tik46, ⟨tik47, tik48⟩⟩⟩, ⟨⟨tik49, tik50⟩, ⟨tik51, ⟨tik52, tik53⟩⟩⟩⟩, ⟨⟨⟨tik54, tik55⟩, ⟨tik56, ⟨tik57, tik58⟩⟩⟩, ⟨⟨tik59, tik60⟩, ⟨tik61, ⟨tik62, tik63⟩⟩⟩⟩⟩, ⟨⟨⟨⟨tik64, tik65⟩, ⟨tik66, ⟨tik67, tik69⟩⟩⟩, ⟨⟨tik71, tik72⟩, ⟨tik73, ⟨tik74, tik75⟩⟩⟩⟩, ⟨⟨⟨tik76, tik77⟩, ⟨tik78, ⟨tik79, tik80⟩⟩⟩, ⟨⟨tik81, ⟨tik83, tik84⟩⟩, ⟨tik85, ⟨tik87, tik88⟩⟩⟩⟩⟩⟩⟩, ⟨⟨⟨⟨⟨⟨tik89, tik90⟩, ⟨tik91, ⟨tik92, tik93⟩⟩⟩, ⟨⟨tik94, tik95⟩, ⟨tik96, ⟨tik97, tik98⟩⟩⟩⟩, ⟨⟨⟨tik99, tik100⟩, ⟨tik101, ⟨tik102, tik103⟩⟩⟩, ⟨⟨tik104, tik105⟩, ⟨tik106, ⟨tik107, tik108⟩⟩⟩⟩⟩, ⟨⟨⟨⟨tik109, tik110⟩, ⟨tik111, ⟨tik112, tik113⟩⟩⟩, ⟨⟨tik114, tik115⟩, ⟨tik116, ⟨tik117, tik118⟩⟩⟩⟩, ⟨⟨⟨tik119, tik120⟩, ⟨tik121, ⟨tik122, tik124⟩⟩⟩, ⟨⟨tik125, ⟨tik126, tik127⟩⟩, ⟨tik128, ⟨tik129, tik130⟩⟩⟩⟩⟩⟩, ⟨⟨⟨⟨⟨tik131, tik132⟩, ⟨tik133, ⟨tik134, tik135⟩⟩⟩, ⟨⟨tik136, tik137⟩, ⟨tik138, ⟨tik139, tik140⟩⟩⟩⟩, ⟨⟨⟨tik141, tik142⟩, ⟨tik143, ⟨tik144, tik145⟩⟩⟩, ⟨⟨tik146, tik147⟩, ⟨tik148, ⟨tik149, tik150⟩⟩⟩⟩⟩, ⟨⟨⟨⟨tik151, tik152⟩, ⟨tik153, ⟨tik154, tik155⟩⟩⟩, ⟨⟨tik156, tik157⟩, ⟨tik158, ⟨tik159, tik160⟩⟩⟩⟩, ⟨⟨⟨tik161, tik162⟩, ⟨tik163, ⟨tik164, tik165⟩⟩⟩, ⟨⟨tik166, ⟨tik167, tik168⟩⟩, ⟨tik169, ⟨tik170, tik171⟩⟩⟩⟩⟩⟩⟩⟩
instance : Tbl Try.prog := ⟨tb, tok⟩
open Go.Vc.Plan in
section
def h3 : Hd := ⟨83, [0, 1, 2, 3, 4, 5, 6, 7, 8, 9, 10, 11, 12, 13, 14, 22, 35], [(11, (.e 0 [] (ql [1, 2, 3, 4, 5, 6, 7, 8, 9, 10, 11, 12, 13, 14, 15, 16, 17, 18, 19, 20, 21, 22, 23, 24, 25, 26, 27] (.e 28 [26] (.e 29 [26] (.e 30 [] (ql [31, 32] .fin) .nil) .nil) .nil)) .nil))]⟩
def h4 : Hd := ⟨66, [0, 1, 2, 4, 13, 14, 15, 16, 24], []⟩
def h5 : Hd := ⟨64, [0, 1, 2, 3, 4, 5, 6], []⟩
def h6 : Hd := ⟨9, [0, 1, 2], [(1, (ql [0, 2] (.e 1 [0, 2] (.e 3 [0] (ql [4] (.e 5 [] (ql [6] .fin) .nil)) .nil) .nil)))]⟩
def h7 : Hd := ⟨75, [0, 1, 3, 4, 5, 6, 7, 8, 12, 19, 28, 29, 39, 50, 57], [(9, (ql [0, 1, 2, 3, 4, 5] (.e 6 [] (.e 7 [] (.e 8 [] (ql [9] .fin) .nil) .nil) .nil)))]⟩
def h8 : Hd := ⟨16, [0, 2, 3, 5], [(3, (ql [0, 1, 2, 3, 4, 5, 6, 7, 8, 9, 10, 11] .fin))]⟩
def h9 : Hd := ⟨9, [0, 2, 4], []⟩
def h10 : Hd := ⟨25, [0, 2, 3, 4, 7, 16], []⟩
def h11 : Hd := ⟨24, [0, 1, 2, 3, 4, 5, 7], []⟩
def h12 : Hd := ⟨29, [0, 1, 2, 3, 6, 7, 8], [(5, (ql [0, 1, 2, 3, 4, 5, 6, 7, 8, 9, 11, 12] (.e 10 [2, 3, 4, 6, 11, 12] (ql [13] (.e 14 [] .fin .nil)) .nil)))]⟩
def h13 : Hd := ⟨7, [0, 1, 2], [(1, (ql [0] (.e 1 [0] (ql [2] (.e 3 [] (ql [4] .fin) .nil)) .nil)))]⟩
def h14 : Hd := ⟨5, [0, 2], []⟩
def h15 : Hd := ⟨18, [0, 2], []⟩
def h16 : Hd := ⟨8, [0, 1, 3, 4], []⟩
def h17 : Hd := ⟨32, [0, 1, 4, 5, 6, 7, 13, 14, 15, 16, 25], []⟩
def h18 : Hd := ⟨113, [0, 1, 3, 4, 5, 6, 7, 8, 10, 11, 18, 28, 44, 52, 65, 87, 101], [(16, (ql [0, 1, 2, 3, 4, 5, 6, 7, 8, 9, 10, 11, 12] .fin)), (18, (ql [0, 1, 2, 3, 4, 5] (.e 6 [0, 1, 2, 3] (.e 7 [] (ql [8] .fin) .nil) .nil)))]⟩
def h19 : Hd := ⟨47, [0, 2, 3, 4, 5, 6, 9, 14, 20, 21, 22], [(10, (ql [0, 1, 2, 3, 4, 5, 6, 7] (.e 8 [0, 1, 2, 3] (.e 9 [] (ql [10, 11, 12, 13, 14] .fin) .nil) .nil)))]⟩
def h20 : Hd := ⟨30, [0, 2, 3, 4, 20, 21, 22], [(1, (ql [0, 1, 2, 3, 4, 6, 7, 8, 9, 10] (.e 5 [6, 7, 8, 9, 10] (.e 11 [0, 1, 2, 3, 4, 5] (ql [12] (.e 13 [0, 1, 2, 3, 4, 5, 6, 7, 8, 9, 10, 11, 12] (.e 14 [] .fin .nil) .nil)) (.e 13 [0, 1, 2, 3, 4, 5, 6, 7, 8, 9, 10] (.e 11 [0, 1, 2, 3, 4, 5, 13] (ql [12] (.e 14 [] .fin .nil)) .nil) .nil)) (.e 11 [0, 1, 2, 3, 4] (.e 5 [6, 7, 8, 9, 10, 11] (ql [12] (.e 13 [0, 1, 2, 3, 4, 5, 6, 7, 8, 9, 10, 11, 12] (.e 14 [] .fin .nil) .nil)) (.e 13 [0, 1, 2, 3, 4, 6, 7, 8, 9, 10, 11] (.e 5 [6, 7, 8, 9, 10, 11, 13] (ql [12] (.e 14 [] .fin .nil)) .nil) .nil)) (.e 13 [0, 1, 2, 3, 4, 6, 7, 8, 9, 10] (.e 5 [6, 7, 8, 9, 10, 13] (.e 11 [0, 1, 2, 3, 4, 5, 13] (ql [12] (.e 14 [] .fin .nil)) .nil) (.e 11 [0, 1, 2, 3, 4, 13] (.e 5 [6, 7, 8, 9, 10, 11, 13] (ql [12] (.e 14 [] .fin .nil)) .nil) .nil)) .nil)))))]⟩
def h21 : Hd := ⟨94, [0, 2, 3, 4, 5, 6, 7, 8, 27, 28, 29, 47, 48, 49, 61, 62, 63, 91], [(13, (ql [0, 1, 2, 3] (.e 4 [0, 1] (ql [5] (.e 6 [0, 1] (.e 7 [] (ql [8] (.e 9 [] .fin .nil)) .nil) .nil)) .nil))), (17, (ql [0, 1, 2, 3] (.e 4 [0, 1] (.e 5 [0, 1] (.e 6 [] (ql [7] (.e 8 [] .fin .nil)) .nil) .nil) .nil)))]⟩
def h22 : Hd := ⟨57, [0, 1, 2, 3, 4, 5, 6, 32, 39], [(13, (ql [0, 1, 2, 3, 4, 5, 6, 7, 8, 9, 10] .fin))]⟩
def h23 : Hd := ⟨1, [0], []⟩
def h24 : Hd := ⟨13, [0, 2], []⟩
def h25 : Hd := ⟨12, [0, 2], []⟩
def h26 : Hd := ⟨33, [0, 1, 4, 5, 6, 7, 9, 12, 20], []⟩
def h27 : Hd := ⟨38, [0, 1, 3, 4, 5, 6, 14, 18], []⟩
def h28 : Hd := ⟨14, [0, 1, 4, 5], []⟩
def h29 : Hd := ⟨15, [0, 2, 7], []⟩
def h30 : Hd := ⟨33, [0, 1, 2, 6, 7, 16], [(5, (ql [0, 1, 2, 3, 4, 5] (.e 6 [] (ql [7] .fin) .nil)))]⟩
def h31 : Hd := ⟨76, [0, 1, 3, 4, 5, 7, 15, 30, 39, 45], []⟩
def h32 : Hd := ⟨24, [0, 1, 3, 4, 5, 6, 7, 18], []⟩
def h33 : Hd := ⟨12, [0, 1, 4, 5], []⟩
def h34 : Hd := ⟨62, [0, 1, 2, 3, 4, 10, 11, 12, 13, 23], []⟩
def h35 : Hd := ⟨30, [0, 1, 2, 3, 4, 5, 12, 13, 17], []⟩
def h36 : Hd := ⟨11, [0, 2], [(1, (ql [0, 2, 3, 4, 5, 6] (.e 1 [2, 3, 4, 5, 6] (ql [7, 8] .fin) .nil)))]⟩
def h37 : Hd := ⟨20, [0, 2], [(1, (ql [0, 1, 2, 3, 4, 5, 6, 7, 8, 9, 10, 11, 12, 13, 14, 15, 16, 17] .fin))]⟩
def h38 : Hd := ⟨8, [0, 1, 2, 3, 4], []⟩
def h39 : Hd := ⟨16, [0, 1, 4, 5], []⟩
def h40 : Hd := ⟨40, [0, 2, 3], [(2, (ql [0, 1, 2, 3, 4, 5, 6, 7, 8, 9, 10, 11, 12, 13, 14, 15, 16, 17, 18, 19, 20, 21, 22, 23, 24, 25, 26] (.e 27 [] .fin .nil)))]⟩
def h41 : Hd := ⟨7, [0, 2], []⟩
def h42 : Hd := ⟨18, [0, 1, 4, 5, 9], []⟩
def h43 : Hd := ⟨16, [0, 1, 2, 6], []⟩
def h44 : Hd := ⟨7, [0, 2], []⟩
def h45 : Hd := ⟨42, [0, 2, 3, 5, 15], [(7, (ql [0, 1, 2, 3, 4, 5, 6, 7, 8, 9, 10, 11, 12, 13, 14, 15, 16, 17, 18, 19, 20, 21, 22, 23] .fin))]⟩
def h46 : Hd := ⟨13, [0, 1, 2, 3, 10], []⟩
def h47 : Hd := ⟨24, [0, 2, 3, 5, 9], [(6, (ql [0, 1, 2, 3, 4, 5, 6, 7, 8, 9, 10] (.e 11 [] (.e 12 [] (.e 13 [] (ql [14] .fin) .nil) .nil) .nil)))]⟩
def h48 : Hd := ⟨76, [0, 1, 2, 3, 4, 6, 8, 24, 25, 26, 27, 49, 50, 51, 52], [(13, (ql [0, 1, 2] (.e 3 [0, 1] (.e 4 [] .fin .nil) .nil)))]⟩
def h49 : Hd := ⟨20, [0, 2], []⟩
def h50 : Hd := ⟨26, [0, 1, 4, 5, 10, 12, 13, 14, 24], [(6, (ql [0, 1, 2, 3, 4, 5, 6, 7, 8] .fin))]⟩
def h51 : Hd := ⟨41, [0, 1, 4, 5, 6, 10], [(4, (ql [0, 1, 2, 3, 4, 5, 6, 8, 9, 10, 11] (.e 7 [0, 1, 8, 9, 10, 11] (ql [12, 13, 14, 15, 16, 17] (.e 18 [1, 13, 14, 15] (ql [19, 20] (.e 21 [] .fin .nil)) .nil)) .nil)))]⟩
def h52 : Hd := ⟨32, [0, 1, 4, 13], []⟩
def h53 : Hd := ⟨12, [0, 1], []⟩
def h54 : Hd := ⟨17, [0, 2, 3, 4, 5, 11], []⟩
def h55 : Hd := ⟨10, [0, 2, 4], []⟩
def h56 : Hd := ⟨23, [0, 2, 3, 8, 9, 10], [(4, (ql [0, 1, 2, 3, 4] (.e 5 [0, 1, 2, 3, 4] (.e 6 [0, 1, 2, 3, 4] (.e 7 [0] (ql [8, 9] (.e 10 [] .fin .nil)) .nil) .nil) .nil)))]⟩
def h57 : Hd := ⟨11, [0, 2], []⟩
def h58 : Hd := ⟨98, [0, 1, 2, 4, 5, 6, 7, 8, 9, 10, 11, 12, 13, 14, 15, 18, 33, 34, 35, 47, 75, 79, 80, 81, 95], [(3, (ql [0, 1, 3, 4, 5, 6] (.e 2 [3, 4, 5, 6] (ql [7, 8] .fin) .nil))), (10, (ql [0, 1, 2, 3, 4, 5, 6, 8] (.e 7 [0, 1, 2, 3, 8] (.e 9 [] (ql [10] .fin) .nil) .nil))), (22, (ql [0, 1, 2, 3, 4, 5, 6, 7] (.e 8 [0, 1, 2, 3] (.e 9 [0, 1, 2, 3, 4, 5, 6, 7, 8] (.e 10 [] (ql [11] .fin) .nil) .nil) (.e 9 [0, 1, 2, 3, 4, 5, 6, 7] (.e 8 [0, 1, 2, 3, 9] (.e 10 [] (ql [11] .fin) .nil) .nil) .nil))))]⟩
def h59 : Hd := ⟨49, [0, 1, 2, 6, 7, 8, 9, 10, 11, 17, 31], []⟩
def h60 : Hd := ⟨9, [0, 1, 2, 4], []⟩
def h61 : Hd := ⟨8, [0, 1, 4], []⟩
def h62 : Hd := ⟨19, [0, 1, 4, 5, 7, 8, 9, 16], []⟩
def h63 : Hd := ⟨8, [0, 1, 2, 3], []⟩
def h64 : Hd := ⟨13, [0, 2, 3, 4, 5, 10], []⟩
def h65 : Hd := ⟨75, [0, 2, 3, 4, 5, 6, 8, 10, 34, 40, 41, 42, 43, 64], []⟩
def h66 : Hd := ⟨23, [0, 1, 2, 4, 6, 7, 8, 9, 10, 15], []⟩
def h67 : Hd := ⟨16, [0, 1, 4], []⟩
def h68 : Hd := ⟨20, [0, 1, 4], []⟩
def h69 : Hd := ⟨8, [0, 2, 4], []⟩
def h70 : Hd := ⟨39, [0, 1, 4, 5, 18], []⟩
def h71 : Hd := ⟨9, [0, 2], []⟩
def h72 : Hd := ⟨3, [0], []⟩
def h73 : Hd := ⟨17, [0, 1, 2, 5, 6, 7, 8, 9], []⟩
def h74 : Hd := ⟨37, [0, 1, 5, 8], []⟩
def h75 : Hd := ⟨38, [0, 1, 4, 6, 12], []⟩
def h76 : Hd := ⟨4, [0, 2, 3], []⟩
def h77 : Hd := ⟨18, [0, 2, 3, 11], []⟩
def h78 : Hd := ⟨28, [0, 2, 3, 4, 10], []⟩
def h79 : Hd := ⟨31, [0, 1, 4, 5], [(1, (ql [0, 1, 2, 3, 4, 5, 6, 8, 9, 10, 11] (.e 7 [0, 1, 8, 9, 10, 11] (ql [12, 13, 14, 15, 16, 17] (.e 18 [1, 13, 14, 15] (ql [19, 20] (.e 21 [] .fin .nil)) .nil)) .nil)))]⟩
def h80 : Hd := ⟨4, [0, 1, 2], []⟩
def h81 : Hd := ⟨61, [0, 1, 2, 6, 15, 33, 38], [(8, (ql [0, 1, 2, 3, 4, 5] (.e 6 [0, 1, 2, 3, 4] (ql [7] (.e 8 [] .fin .nil)) .nil)))]⟩
def h82 : Hd := ⟨8, [0, 1, 4], []⟩
def h83 : Hd := ⟨12, [0, 1, 3, 4], []⟩
def h84 : Hd := ⟨87, [0, 1, 2, 3, 5, 8, 9, 30, 31, 48, 58], [(1, (ql [0, 1, 2, 3, 4, 5, 6, 7, 8, 9, 10, 11, 12, 13, 14, 15, 16, 17] (.e 18 [0, 1, 2, 3, 4, 5, 6, 7, 8, 9, 10, 11, 12, 13, 14, 15] (ql [19] (.e 20 [0, 1, 2, 3, 4, 5, 6, 7, 8, 9, 10, 11, 12, 13, 14, 15, 16, 17, 18, 19] (.e 21 [] .fin .nil) .nil)) (.e 20 [0, 1, 2, 3, 4, 5, 6, 7, 8, 9, 10, 11, 12, 13, 14, 15, 16, 17] (.e 18 [0, 1, 2, 3, 4, 5, 6, 7, 8, 9, 10, 11, 12, 13, 14, 15, 20] (ql [19] (.e 21 [] .fin .nil)) .nil) .nil)))), (4, (ql [0, 1, 2, 3, 4, 5, 6, 7, 8, 9, 10, 11, 12] (.e 13 [0, 1, 2, 3, 4, 5, 6, 7, 8, 9, 10, 11] (ql [14] (.e 15 [6, 7, 8, 9, 10, 11] (ql [16] (.e 17 [] .fin .nil)) .nil)) .nil))), (6, (ql [0, 1, 2, 3, 4, 5, 6] (.e 7 [0, 1, 2, 3, 4, 5] (ql [8] (.e 9 [] .fin .nil)) .nil))), (8, (ql [0, 1, 2, 3, 4, 5, 6, 7, 8, 9, 10, 11, 12, 13, 14, 16, 17, 18, 19, 20, 22] (.e 15 [0, 1, 2, 3, 4, 5, 6, 7, 8, 9, 16, 17, 18, 19, 20, 22] (.e 21 [0, 1, 2, 3, 4, 5, 6, 7, 8, 9, 22] (.e 23 [5, 6, 7, 8, 9] (ql [24] (.e 25 [] (ql [26] (.e 27 [] (ql [28] (.e 29 [] .fin .nil)) .nil)) .nil)) .nil) .nil) .nil)))]⟩
def h85 : Hd := ⟨18, [0, 2, 3, 6], []⟩
def h86 : Hd := ⟨24, [0, 1, 3, 4, 7, 8, 9, 22], []⟩
def h88 : Hd := ⟨8, [0, 2, 4], []⟩
def h89 : Hd := ⟨8, [0, 2, 4], []⟩
end
end Go.Proofs.Ytaikdcnifijcoaa
