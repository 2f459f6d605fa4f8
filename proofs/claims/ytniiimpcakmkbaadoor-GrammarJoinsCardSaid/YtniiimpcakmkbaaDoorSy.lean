/- The types of this seat for Vm. -/
import Derived.Test.YtniiimpcakmkbaaDoorWP
import Derived.KernelRfl
import Derived.Test.YtniiimpcakmkbaaDoorProg
namespace Go.Proofs.YtniiimpcakmkbaaDoor
open Go Vm
def vt1 : TI := { desc := Go.TypeDesc.func #[] #[] false, size := 1, bytes := 8, ag := false, zero := [.c .nf], sh := some [.any] }
theorem vt1_ok : TIok Tryd.prog 1 vt1 := tiok (f := Tryd.t1) Tryd.underlying1 (by kernel_rfl) rfl rfl rfl (by kernel_rfl) (by kernel_rfl) rfl rfl
def vt2 : TI := { desc := Go.TypeDesc.int Go.IntKind.i64, size := 1, bytes := 8, ag := false, zero := [.c (.int .i64 0)], sh := some [.int .i64] }
theorem vt2_ok : TIok Tryd.prog 2 vt2 := tiok (f := Tryd.t2) Tryd.underlying2 (by kernel_rfl) rfl rfl rfl (by kernel_rfl) (by kernel_rfl) rfl rfl
def vt3 : TI := { desc := Go.TypeDesc.int Go.IntKind.i64, size := 1, bytes := 8, ag := false, zero := [.c (.int .i64 0)], sh := some [.int .i64] }
theorem vt3_ok : TIok Tryd.prog 3 vt3 := tiok (f := Tryd.t3) Tryd.underlying3 (by kernel_rfl) rfl rfl rfl (by kernel_rfl) (by kernel_rfl) rfl rfl
def vt4 : TI := { desc := Go.TypeDesc.bool, size := 1, bytes := 1, ag := false, zero := [.c (.bool false)], sh := some [.bool] }
theorem vt4_ok : TIok Tryd.prog 4 vt4 := tiok (f := Tryd.t4) Tryd.underlying4 (by kernel_rfl) rfl rfl rfl (by kernel_rfl) (by kernel_rfl) rfl rfl
def vt5 : TI := { desc := Go.TypeDesc.int Go.IntKind.u8, size := 1, bytes := 1, ag := false, zero := [.c (.int .u8 0)], sh := some [.int .u8] }
theorem vt5_ok : TIok Tryd.prog 5 vt5 := tiok (f := Tryd.t5) Tryd.underlying5 (by kernel_rfl) rfl rfl rfl (by kernel_rfl) (by kernel_rfl) rfl rfl
def vt6 : TI := { desc := Go.TypeDesc.int Go.IntKind.u8, size := 1, bytes := 1, ag := false, zero := [.c (.int .u8 0)], sh := some [.int .u8] }
theorem vt6_ok : TIok Tryd.prog 6 vt6 := tiok (f := Tryd.t6) Tryd.underlying6 (by kernel_rfl) rfl rfl rfl (by kernel_rfl) (by kernel_rfl) rfl rfl
def vt7 : TI := { desc := Go.TypeDesc.struct #[{ name := "x", type := 2, offset := 0, embedded := false, tag := "", pkgPath := "runtime", byteOffset := 0 }, { name := "y", type := 3, offset := 1, embedded := false, tag := "", pkgPath := "runtime", byteOffset := 8 }, { name := "signed", type := 4, offset := 2, embedded := false, tag := "", pkgPath := "runtime", byteOffset := 16 }, { name := "code", type := 6, offset := 3, embedded := false, tag := "", pkgPath := "runtime", byteOffset := 17 }], size := 4, bytes := 24, ag := true, zero := [.c (.int .i64 0), .c (.int .i64 0), .c (.bool false), .c (.int .u8 0)], sh := some [.int .i64, .int .i64, .bool, .int .u8] }
theorem vt7_ok : TIok Tryd.prog 7 vt7 := tiok (f := Tryd.t7) Tryd.underlying7 (by kernel_rfl) rfl rfl rfl (by kernel_rfl) (by kernel_rfl) rfl rfl
def vt8 : TI := { desc := Go.TypeDesc.struct #[{ name := "x", type := 2, offset := 0, embedded := false, tag := "", pkgPath := "runtime", byteOffset := 0 }, { name := "y", type := 3, offset := 1, embedded := false, tag := "", pkgPath := "runtime", byteOffset := 8 }, { name := "signed", type := 4, offset := 2, embedded := false, tag := "", pkgPath := "runtime", byteOffset := 16 }, { name := "code", type := 6, offset := 3, embedded := false, tag := "", pkgPath := "runtime", byteOffset := 17 }], size := 4, bytes := 24, ag := true, zero := [.c (.int .i64 0), .c (.int .i64 0), .c (.bool false), .c (.int .u8 0)], sh := some [.int .i64, .int .i64, .bool, .int .u8] }
theorem vt8_ok : TIok Tryd.prog 8 vt8 := tiok (f := Tryd.t8) Tryd.underlying8 (by kernel_rfl) rfl rfl rfl (by kernel_rfl) (by kernel_rfl) rfl rfl
def vt9 : TI := { desc := Go.TypeDesc.string, size := 1, bytes := 16, ag := false, zero := [.c (.str .empty)], sh := some [.str] }
theorem vt9_ok : TIok Tryd.prog 9 vt9 := tiok (f := Tryd.t9) Tryd.underlying9 (by kernel_rfl) rfl rfl rfl (by kernel_rfl) (by kernel_rfl) rfl rfl
def vt10 : TI := { desc := Go.TypeDesc.string, size := 1, bytes := 16, ag := false, zero := [.c (.str .empty)], sh := some [.str] }
theorem vt10_ok : TIok Tryd.prog 10 vt10 := tiok (f := Tryd.t10) Tryd.underlying10 (by kernel_rfl) rfl rfl rfl (by kernel_rfl) (by kernel_rfl) rfl rfl
def vt11 : TI := { desc := Go.TypeDesc.string, size := 1, bytes := 16, ag := false, zero := [.c (.str .empty)], sh := some [.str] }
theorem vt11_ok : TIok Tryd.prog 11 vt11 := tiok (f := Tryd.t11) Tryd.underlying11 (by kernel_rfl) rfl rfl rfl (by kernel_rfl) (by kernel_rfl) rfl rfl
def vt12 : TI := { desc := Go.TypeDesc.int Go.IntKind.u64, size := 1, bytes := 8, ag := false, zero := [.c (.int .u64 0)], sh := some [.int .u64] }
theorem vt12_ok : TIok Tryd.prog 12 vt12 := tiok (f := Tryd.t12) Tryd.underlying12 (by kernel_rfl) rfl rfl rfl (by kernel_rfl) (by kernel_rfl) rfl rfl
def vt13 : TI := { desc := Go.TypeDesc.struct #[{ name := "msg", type := 9, offset := 0, embedded := false, tag := "", pkgPath := "runtime", byteOffset := 0 }, { name := "addr", type := 12, offset := 1, embedded := false, tag := "", pkgPath := "runtime", byteOffset := 16 }], size := 2, bytes := 24, ag := true, zero := [.c (.str .empty), .c (.int .u64 0)], sh := some [.str, .int .u64] }
theorem vt13_ok : TIok Tryd.prog 13 vt13 := tiok (f := Tryd.t13) Tryd.underlying13 (by kernel_rfl) rfl rfl rfl (by kernel_rfl) (by kernel_rfl) rfl rfl
def vt14 : TI := { desc := Go.TypeDesc.struct #[{ name := "msg", type := 9, offset := 0, embedded := false, tag := "", pkgPath := "runtime", byteOffset := 0 }, { name := "addr", type := 12, offset := 1, embedded := false, tag := "", pkgPath := "runtime", byteOffset := 16 }], size := 2, bytes := 24, ag := true, zero := [.c (.str .empty), .c (.int .u64 0)], sh := some [.str, .int .u64] }
theorem vt14_ok : TIok Tryd.prog 14 vt14 := tiok (f := Tryd.t14) Tryd.underlying14 (by kernel_rfl) rfl rfl rfl (by kernel_rfl) (by kernel_rfl) rfl rfl
def vt15 : TI := { desc := Go.TypeDesc.pointer 174, size := 1, bytes := 8, ag := false, zero := [.c .np], sh := some [.any] }
theorem vt15_ok : TIok Tryd.prog 15 vt15 := tiok (f := Tryd.t15) Tryd.underlying15 (by kernel_rfl) rfl rfl rfl (by kernel_rfl) (by kernel_rfl) rfl rfl
def vt16 : TI := { desc := Go.TypeDesc.pointer 177, size := 1, bytes := 8, ag := false, zero := [.c .np], sh := some [.any] }
theorem vt16_ok : TIok Tryd.prog 16 vt16 := tiok (f := Tryd.t16) Tryd.underlying16 (by kernel_rfl) rfl rfl rfl (by kernel_rfl) (by kernel_rfl) rfl rfl
def vt17 : TI := { desc := Go.TypeDesc.pointer 184, size := 1, bytes := 8, ag := false, zero := [.c .np], sh := some [.any] }
theorem vt17_ok : TIok Tryd.prog 17 vt17 := tiok (f := Tryd.t17) Tryd.underlying17 (by kernel_rfl) rfl rfl rfl (by kernel_rfl) (by kernel_rfl) rfl rfl
def vt18 : TI := { desc := Go.TypeDesc.struct #[{ name := "typ", type := 17, offset := 0, embedded := false, tag := "", pkgPath := "internal/runtime/maps", byteOffset := 0 }], size := 1, bytes := 8, ag := true, zero := [.c .np], sh := some [.any] }
theorem vt18_ok : TIok Tryd.prog 18 vt18 := tiok (f := Tryd.t18) Tryd.underlying18 (by kernel_rfl) rfl rfl rfl (by kernel_rfl) (by kernel_rfl) rfl rfl
def vt19 : TI := { desc := Go.TypeDesc.struct #[{ name := "typ", type := 17, offset := 0, embedded := false, tag := "", pkgPath := "internal/runtime/maps", byteOffset := 0 }], size := 1, bytes := 8, ag := true, zero := [.c .np], sh := some [.any] }
theorem vt19_ok : TIok Tryd.prog 19 vt19 := tiok (f := Tryd.t19) Tryd.underlying19 (by kernel_rfl) rfl rfl rfl (by kernel_rfl) (by kernel_rfl) rfl rfl
def vt20 : TI := { desc := Go.TypeDesc.interface #[], size := 1, bytes := 16, ag := false, zero := [.c .ni], sh := some [.any] }
theorem vt20_ok : TIok Tryd.prog 20 vt20 := tiok (f := Tryd.t20) Tryd.underlying20 (by kernel_rfl) rfl rfl rfl (by kernel_rfl) (by kernel_rfl) rfl rfl
def vt21 : TI := { desc := Go.TypeDesc.int Go.IntKind.i32, size := 1, bytes := 4, ag := false, zero := [.c (.int .i32 0)], sh := some [.int .i32] }
theorem vt21_ok : TIok Tryd.prog 21 vt21 := tiok (f := Tryd.t21) Tryd.underlying21 (by kernel_rfl) rfl rfl rfl (by kernel_rfl) (by kernel_rfl) rfl rfl
def vt22 : TI := { desc := Go.TypeDesc.func #[] #[4] false, size := 1, bytes := 8, ag := false, zero := [.c .nf], sh := some [.any] }
theorem vt22_ok : TIok Tryd.prog 22 vt22 := tiok (f := Tryd.t22) Tryd.underlying22 (by kernel_rfl) rfl rfl rfl (by kernel_rfl) (by kernel_rfl) rfl rfl
def vt23 : TI := { desc := Go.TypeDesc.slice 33, size := 1, bytes := 24, ag := false, zero := [.s 33 4], sh := some [.sl 4] }
theorem vt23_ok : TIok Tryd.prog 23 vt23 := tiok (f := Tryd.t23) Tryd.underlying23 (by kernel_rfl) rfl rfl rfl (by kernel_rfl) (by kernel_rfl) rfl rfl
def vt24 : TI := { desc := Go.TypeDesc.struct #[{ name := "Line", type := 3, offset := 0, embedded := false, tag := "", pkgPath := "", byteOffset := 0 }, { name := "Column", type := 3, offset := 1, embedded := false, tag := "", pkgPath := "", byteOffset := 8 }], size := 2, bytes := 16, ag := true, zero := [.c (.int .i64 0), .c (.int .i64 0)], sh := some [.int .i64, .int .i64] }
theorem vt24_ok : TIok Tryd.prog 24 vt24 := tiok (f := Tryd.t24) Tryd.underlying24 (by kernel_rfl) rfl rfl rfl (by kernel_rfl) (by kernel_rfl) rfl rfl
def vt25 : TI := { desc := Go.TypeDesc.struct #[{ name := "Line", type := 3, offset := 0, embedded := false, tag := "", pkgPath := "", byteOffset := 0 }, { name := "Column", type := 3, offset := 1, embedded := false, tag := "", pkgPath := "", byteOffset := 8 }], size := 2, bytes := 16, ag := true, zero := [.c (.int .i64 0), .c (.int .i64 0)], sh := some [.int .i64, .int .i64] }
theorem vt25_ok : TIok Tryd.prog 25 vt25 := tiok (f := Tryd.t25) Tryd.underlying25 (by kernel_rfl) rfl rfl rfl (by kernel_rfl) (by kernel_rfl) rfl rfl
def vt26 : TI := { desc := Go.TypeDesc.int Go.IntKind.i64, size := 1, bytes := 8, ag := false, zero := [.c (.int .i64 0)], sh := some [.int .i64] }
theorem vt26_ok : TIok Tryd.prog 26 vt26 := tiok (f := Tryd.t26) Tryd.underlying26 (by kernel_rfl) rfl rfl rfl (by kernel_rfl) (by kernel_rfl) rfl rfl
def vt28 : TI := { desc := Go.TypeDesc.func #[9] #[23, 25, 26] false, size := 1, bytes := 8, ag := false, zero := [.c .nf], sh := some [.any] }
theorem vt28_ok : TIok Tryd.prog 28 vt28 := tiok (f := Tryd.t28) Tryd.underlying28 (by kernel_rfl) rfl rfl rfl (by kernel_rfl) (by kernel_rfl) rfl rfl
def vt29 : TI := { desc := Go.TypeDesc.slice 35, size := 1, bytes := 24, ag := false, zero := [.s 35 4], sh := some [.sl 4] }
theorem vt29_ok : TIok Tryd.prog 29 vt29 := tiok (f := Tryd.t29) Tryd.underlying29 (by kernel_rfl) rfl rfl rfl (by kernel_rfl) (by kernel_rfl) rfl rfl
def vt31 : TI := { desc := Go.TypeDesc.func #[9] #[29, 3, 3, 3] false, size := 1, bytes := 8, ag := false, zero := [.c .nf], sh := some [.any] }
theorem vt31_ok : TIok Tryd.prog 31 vt31 := tiok (f := Tryd.t31) Tryd.underlying31 (by kernel_rfl) rfl rfl rfl (by kernel_rfl) (by kernel_rfl) rfl rfl
def vt32 : TI := { desc := Go.TypeDesc.struct #[{ name := "Kind", type := 3, offset := 0, embedded := false, tag := "", pkgPath := "", byteOffset := 0 }, { name := "Text", type := 9, offset := 1, embedded := false, tag := "", pkgPath := "", byteOffset := 8 }, { name := "At", type := 25, offset := 2, embedded := false, tag := "", pkgPath := "", byteOffset := 24 }], size := 4, bytes := 40, ag := true, zero := [.c (.int .i64 0), .c (.str .empty), .c (.int .i64 0), .c (.int .i64 0)], sh := some [.int .i64, .str, .int .i64, .int .i64] }
theorem vt32_ok : TIok Tryd.prog 32 vt32 := tiok (f := Tryd.t32) Tryd.underlying32 (by kernel_rfl) rfl rfl rfl (by kernel_rfl) (by kernel_rfl) rfl rfl
def vt33 : TI := { desc := Go.TypeDesc.struct #[{ name := "Kind", type := 3, offset := 0, embedded := false, tag := "", pkgPath := "", byteOffset := 0 }, { name := "Text", type := 9, offset := 1, embedded := false, tag := "", pkgPath := "", byteOffset := 8 }, { name := "At", type := 25, offset := 2, embedded := false, tag := "", pkgPath := "", byteOffset := 24 }], size := 4, bytes := 40, ag := true, zero := [.c (.int .i64 0), .c (.str .empty), .c (.int .i64 0), .c (.int .i64 0)], sh := some [.int .i64, .str, .int .i64, .int .i64] }
theorem vt33_ok : TIok Tryd.prog 33 vt33 := tiok (f := Tryd.t33) Tryd.underlying33 (by kernel_rfl) rfl rfl rfl (by kernel_rfl) (by kernel_rfl) rfl rfl
def vt34 : TI := { desc := Go.TypeDesc.struct #[{ name := "Kind", type := 3, offset := 0, embedded := false, tag := "", pkgPath := "", byteOffset := 0 }, { name := "Text", type := 9, offset := 1, embedded := false, tag := "", pkgPath := "", byteOffset := 8 }, { name := "Line", type := 3, offset := 2, embedded := false, tag := "", pkgPath := "", byteOffset := 24 }, { name := "Column", type := 3, offset := 3, embedded := false, tag := "", pkgPath := "", byteOffset := 32 }], size := 4, bytes := 40, ag := true, zero := [.c (.int .i64 0), .c (.str .empty), .c (.int .i64 0), .c (.int .i64 0)], sh := some [.int .i64, .str, .int .i64, .int .i64] }
theorem vt34_ok : TIok Tryd.prog 34 vt34 := tiok (f := Tryd.t34) Tryd.underlying34 (by kernel_rfl) rfl rfl rfl (by kernel_rfl) (by kernel_rfl) rfl rfl
def vt35 : TI := { desc := Go.TypeDesc.struct #[{ name := "Kind", type := 3, offset := 0, embedded := false, tag := "", pkgPath := "", byteOffset := 0 }, { name := "Text", type := 9, offset := 1, embedded := false, tag := "", pkgPath := "", byteOffset := 8 }, { name := "Line", type := 3, offset := 2, embedded := false, tag := "", pkgPath := "", byteOffset := 24 }, { name := "Column", type := 3, offset := 3, embedded := false, tag := "", pkgPath := "", byteOffset := 32 }], size := 4, bytes := 40, ag := true, zero := [.c (.int .i64 0), .c (.str .empty), .c (.int .i64 0), .c (.int .i64 0)], sh := some [.int .i64, .str, .int .i64, .int .i64] }
theorem vt35_ok : TIok Tryd.prog 35 vt35 := tiok (f := Tryd.t35) Tryd.underlying35 (by kernel_rfl) rfl rfl rfl (by kernel_rfl) (by kernel_rfl) rfl rfl
def vt36 : TI := { desc := Go.TypeDesc.func #[9] #[4] false, size := 1, bytes := 8, ag := false, zero := [.c .nf], sh := some [.any] }
theorem vt36_ok : TIok Tryd.prog 36 vt36 := tiok (f := Tryd.t36) Tryd.underlying36 (by kernel_rfl) rfl rfl rfl (by kernel_rfl) (by kernel_rfl) rfl rfl
def vt37 : TI := { desc := Go.TypeDesc.array 4 9, size := 4, bytes := 64, ag := true, zero := [.c (.str .empty), .c (.str .empty), .c (.str .empty), .c (.str .empty)], sh := some [.str, .str, .str, .str] }
theorem vt37_ok : TIok Tryd.prog 37 vt37 := tiok (f := Tryd.t37) Tryd.underlying37 (by kernel_rfl) rfl rfl rfl (by kernel_rfl) (by kernel_rfl) rfl rfl
def vt38 : TI := { desc := Go.TypeDesc.func #[9, 9, 5] #[4] false, size := 1, bytes := 8, ag := false, zero := [.c .nf], sh := some [.any] }
theorem vt38_ok : TIok Tryd.prog 38 vt38 := tiok (f := Tryd.t38) Tryd.underlying38 (by kernel_rfl) rfl rfl rfl (by kernel_rfl) (by kernel_rfl) rfl rfl
def vt39 : TI := { desc := Go.TypeDesc.func #[9] #[25] false, size := 1, bytes := 8, ag := false, zero := [.c .nf], sh := some [.any] }
theorem vt39_ok : TIok Tryd.prog 39 vt39 := tiok (f := Tryd.t39) Tryd.underlying39 (by kernel_rfl) rfl rfl rfl (by kernel_rfl) (by kernel_rfl) rfl rfl
def vt40 : TI := { desc := Go.TypeDesc.slice 3, size := 1, bytes := 24, ag := false, zero := [.s 3 1], sh := some [.sl 1] }
theorem vt40_ok : TIok Tryd.prog 40 vt40 := tiok (f := Tryd.t40) Tryd.underlying40 (by kernel_rfl) rfl rfl rfl (by kernel_rfl) (by kernel_rfl) rfl rfl
def vt42 : TI := { desc := Go.TypeDesc.func #[9] #[40, 4] false, size := 1, bytes := 8, ag := false, zero := [.c .nf], sh := some [.any] }
theorem vt42_ok : TIok Tryd.prog 42 vt42 := tiok (f := Tryd.t42) Tryd.underlying42 (by kernel_rfl) rfl rfl rfl (by kernel_rfl) (by kernel_rfl) rfl rfl
def vt43 : TI := { desc := Go.TypeDesc.func #[9, 3] #[9] false, size := 1, bytes := 8, ag := false, zero := [.c .nf], sh := some [.any] }
theorem vt43_ok : TIok Tryd.prog 43 vt43 := tiok (f := Tryd.t43) Tryd.underlying43 (by kernel_rfl) rfl rfl rfl (by kernel_rfl) (by kernel_rfl) rfl rfl
def vt44 : TI := { desc := Go.TypeDesc.func #[9, 5] #[4] false, size := 1, bytes := 8, ag := false, zero := [.c .nf], sh := some [.any] }
theorem vt44_ok : TIok Tryd.prog 44 vt44 := tiok (f := Tryd.t44) Tryd.underlying44 (by kernel_rfl) rfl rfl rfl (by kernel_rfl) (by kernel_rfl) rfl rfl
def vt45 : TI := { desc := Go.TypeDesc.slice 47, size := 1, bytes := 24, ag := false, zero := [.s 47 4], sh := some [.sl 4] }
theorem vt45_ok : TIok Tryd.prog 45 vt45 := tiok (f := Tryd.t45) Tryd.underlying45 (by kernel_rfl) rfl rfl rfl (by kernel_rfl) (by kernel_rfl) rfl rfl
def vt46 : TI := { desc := Go.TypeDesc.struct #[{ name := "Kind", type := 3, offset := 0, embedded := false, tag := "", pkgPath := "", byteOffset := 0 }, { name := "A", type := 9, offset := 1, embedded := false, tag := "", pkgPath := "", byteOffset := 8 }, { name := "B", type := 9, offset := 2, embedded := false, tag := "", pkgPath := "", byteOffset := 24 }, { name := "Kids", type := 45, offset := 3, embedded := false, tag := "", pkgPath := "", byteOffset := 40 }], size := 4, bytes := 64, ag := true, zero := [.c (.int .i64 0), .c (.str .empty), .c (.str .empty), .s 47 4], sh := some [.int .i64, .str, .str, .sl 4] }
theorem vt46_ok : TIok Tryd.prog 46 vt46 := tiok (f := Tryd.t46) Tryd.underlying46 (by kernel_rfl) rfl rfl rfl (by kernel_rfl) (by kernel_rfl) rfl rfl
def vt47 : TI := { desc := Go.TypeDesc.struct #[{ name := "Kind", type := 3, offset := 0, embedded := false, tag := "", pkgPath := "", byteOffset := 0 }, { name := "A", type := 9, offset := 1, embedded := false, tag := "", pkgPath := "", byteOffset := 8 }, { name := "B", type := 9, offset := 2, embedded := false, tag := "", pkgPath := "", byteOffset := 24 }, { name := "Kids", type := 45, offset := 3, embedded := false, tag := "", pkgPath := "", byteOffset := 40 }], size := 4, bytes := 64, ag := true, zero := [.c (.int .i64 0), .c (.str .empty), .c (.str .empty), .s 47 4], sh := some [.int .i64, .str, .str, .sl 4] }
theorem vt47_ok : TIok Tryd.prog 47 vt47 := tiok (f := Tryd.t47) Tryd.underlying47 (by kernel_rfl) rfl rfl rfl (by kernel_rfl) (by kernel_rfl) rfl rfl
def vt49 : TI := { desc := Go.TypeDesc.func #[9] #[47, 25, 26] false, size := 1, bytes := 8, ag := false, zero := [.c .nf], sh := some [.any] }
theorem vt49_ok : TIok Tryd.prog 49 vt49 := tiok (f := Tryd.t49) Tryd.underlying49 (by kernel_rfl) rfl rfl rfl (by kernel_rfl) (by kernel_rfl) rfl rfl
def vt51 : TI := { desc := Go.TypeDesc.func #[9] #[47, 3, 3, 3] false, size := 1, bytes := 8, ag := false, zero := [.c .nf], sh := some [.any] }
theorem vt51_ok : TIok Tryd.prog 51 vt51 := tiok (f := Tryd.t51) Tryd.underlying51 (by kernel_rfl) rfl rfl rfl (by kernel_rfl) (by kernel_rfl) rfl rfl
def vt52 : TI := { desc := Go.TypeDesc.func #[47, 47] #[4] false, size := 1, bytes := 8, ag := false, zero := [.c .nf], sh := some [.any] }
theorem vt52_ok : TIok Tryd.prog 52 vt52 := tiok (f := Tryd.t52) Tryd.underlying52 (by kernel_rfl) rfl rfl rfl (by kernel_rfl) (by kernel_rfl) rfl rfl
def vt53 : TI := { desc := Go.TypeDesc.func #[47] #[4] false, size := 1, bytes := 8, ag := false, zero := [.c .nf], sh := some [.any] }
theorem vt53_ok : TIok Tryd.prog 53 vt53 := tiok (f := Tryd.t53) Tryd.underlying53 (by kernel_rfl) rfl rfl rfl (by kernel_rfl) (by kernel_rfl) rfl rfl
def vt54 : TI := { desc := Go.TypeDesc.func #[9, 9] #[4] false, size := 1, bytes := 8, ag := false, zero := [.c .nf], sh := some [.any] }
theorem vt54_ok : TIok Tryd.prog 54 vt54 := tiok (f := Tryd.t54) Tryd.underlying54 (by kernel_rfl) rfl rfl rfl (by kernel_rfl) (by kernel_rfl) rfl rfl
def vt55 : TI := { desc := Go.TypeDesc.array 3 9, size := 3, bytes := 48, ag := true, zero := [.c (.str .empty), .c (.str .empty), .c (.str .empty)], sh := some [.str, .str, .str] }
theorem vt55_ok : TIok Tryd.prog 55 vt55 := tiok (f := Tryd.t55) Tryd.underlying55 (by kernel_rfl) rfl rfl rfl (by kernel_rfl) (by kernel_rfl) rfl rfl
def vt56 : TI := { desc := Go.TypeDesc.array 3 3, size := 3, bytes := 24, ag := true, zero := [.c (.int .i64 0), .c (.int .i64 0), .c (.int .i64 0)], sh := some [.int .i64, .int .i64, .int .i64] }
theorem vt56_ok : TIok Tryd.prog 56 vt56 := tiok (f := Tryd.t56) Tryd.underlying56 (by kernel_rfl) rfl rfl rfl (by kernel_rfl) (by kernel_rfl) rfl rfl
def vt57 : TI := { desc := Go.TypeDesc.slice 67, size := 1, bytes := 24, ag := false, zero := [.s 67 2], sh := some [.sl 2] }
theorem vt57_ok : TIok Tryd.prog 57 vt57 := tiok (f := Tryd.t57) Tryd.underlying57 (by kernel_rfl) rfl rfl rfl (by kernel_rfl) (by kernel_rfl) rfl rfl
def vt58 : TI := { desc := Go.TypeDesc.struct #[{ name := "Types", type := 57, offset := 0, embedded := false, tag := "", pkgPath := "", byteOffset := 0 }], size := 1, bytes := 24, ag := true, zero := [.s 67 2], sh := some [.sl 2] }
theorem vt58_ok : TIok Tryd.prog 58 vt58 := tiok (f := Tryd.t58) Tryd.underlying58 (by kernel_rfl) rfl rfl rfl (by kernel_rfl) (by kernel_rfl) rfl rfl
def vt59 : TI := { desc := Go.TypeDesc.struct #[{ name := "Types", type := 57, offset := 0, embedded := false, tag := "", pkgPath := "", byteOffset := 0 }], size := 1, bytes := 24, ag := true, zero := [.s 67 2], sh := some [.sl 2] }
theorem vt59_ok : TIok Tryd.prog 59 vt59 := tiok (f := Tryd.t59) Tryd.underlying59 (by kernel_rfl) rfl rfl rfl (by kernel_rfl) (by kernel_rfl) rfl rfl
def vt61 : TI := { desc := Go.TypeDesc.func #[9] #[59, 25, 26] false, size := 1, bytes := 8, ag := false, zero := [.c .nf], sh := some [.any] }
theorem vt61_ok : TIok Tryd.prog 61 vt61 := tiok (f := Tryd.t61) Tryd.underlying61 (by kernel_rfl) rfl rfl rfl (by kernel_rfl) (by kernel_rfl) rfl rfl
def vt63 : TI := { desc := Go.TypeDesc.func #[9] #[59, 3, 3, 3] false, size := 1, bytes := 8, ag := false, zero := [.c .nf], sh := some [.any] }
theorem vt63_ok : TIok Tryd.prog 63 vt63 := tiok (f := Tryd.t63) Tryd.underlying63 (by kernel_rfl) rfl rfl rfl (by kernel_rfl) (by kernel_rfl) rfl rfl
def vt64 : TI := { desc := Go.TypeDesc.func #[59, 59] #[4] false, size := 1, bytes := 8, ag := false, zero := [.c .nf], sh := some [.any] }
theorem vt64_ok : TIok Tryd.prog 64 vt64 := tiok (f := Tryd.t64) Tryd.underlying64 (by kernel_rfl) rfl rfl rfl (by kernel_rfl) (by kernel_rfl) rfl rfl
def vt65 : TI := { desc := Go.TypeDesc.slice 70, size := 1, bytes := 24, ag := false, zero := [.s 70 6], sh := some [.sl 6] }
theorem vt65_ok : TIok Tryd.prog 65 vt65 := tiok (f := Tryd.t65) Tryd.underlying65 (by kernel_rfl) rfl rfl rfl (by kernel_rfl) (by kernel_rfl) rfl rfl
def vt66 : TI := { desc := Go.TypeDesc.struct #[{ name := "Name", type := 9, offset := 0, embedded := false, tag := "", pkgPath := "", byteOffset := 0 }, { name := "Rels", type := 65, offset := 1, embedded := false, tag := "", pkgPath := "", byteOffset := 16 }], size := 2, bytes := 40, ag := true, zero := [.c (.str .empty), .s 70 6], sh := some [.str, .sl 6] }
theorem vt66_ok : TIok Tryd.prog 66 vt66 := tiok (f := Tryd.t66) Tryd.underlying66 (by kernel_rfl) rfl rfl rfl (by kernel_rfl) (by kernel_rfl) rfl rfl
def vt67 : TI := { desc := Go.TypeDesc.struct #[{ name := "Name", type := 9, offset := 0, embedded := false, tag := "", pkgPath := "", byteOffset := 0 }, { name := "Rels", type := 65, offset := 1, embedded := false, tag := "", pkgPath := "", byteOffset := 16 }], size := 2, bytes := 40, ag := true, zero := [.c (.str .empty), .s 70 6], sh := some [.str, .sl 6] }
theorem vt67_ok : TIok Tryd.prog 67 vt67 := tiok (f := Tryd.t67) Tryd.underlying67 (by kernel_rfl) rfl rfl rfl (by kernel_rfl) (by kernel_rfl) rfl rfl
def vt68 : TI := { desc := Go.TypeDesc.slice 72, size := 1, bytes := 24, ag := false, zero := [.s 72 3], sh := some [.sl 3] }
theorem vt68_ok : TIok Tryd.prog 68 vt68 := tiok (f := Tryd.t68) Tryd.underlying68 (by kernel_rfl) rfl rfl rfl (by kernel_rfl) (by kernel_rfl) rfl rfl
def vt69 : TI := { desc := Go.TypeDesc.struct #[{ name := "Name", type := 9, offset := 0, embedded := false, tag := "", pkgPath := "", byteOffset := 0 }, { name := "Allow", type := 68, offset := 1, embedded := false, tag := "", pkgPath := "", byteOffset := 16 }, { name := "Expr", type := 47, offset := 2, embedded := false, tag := "", pkgPath := "", byteOffset := 40 }], size := 6, bytes := 104, ag := true, zero := [.c (.str .empty), .s 72 3, .c (.int .i64 0), .c (.str .empty), .c (.str .empty), .s 47 4], sh := some [.str, .sl 3, .int .i64, .str, .str, .sl 4] }
theorem vt69_ok : TIok Tryd.prog 69 vt69 := tiok (f := Tryd.t69) Tryd.underlying69 (by kernel_rfl) rfl rfl rfl (by kernel_rfl) (by kernel_rfl) rfl rfl
def vt70 : TI := { desc := Go.TypeDesc.struct #[{ name := "Name", type := 9, offset := 0, embedded := false, tag := "", pkgPath := "", byteOffset := 0 }, { name := "Allow", type := 68, offset := 1, embedded := false, tag := "", pkgPath := "", byteOffset := 16 }, { name := "Expr", type := 47, offset := 2, embedded := false, tag := "", pkgPath := "", byteOffset := 40 }], size := 6, bytes := 104, ag := true, zero := [.c (.str .empty), .s 72 3, .c (.int .i64 0), .c (.str .empty), .c (.str .empty), .s 47 4], sh := some [.str, .sl 3, .int .i64, .str, .str, .sl 4] }
theorem vt70_ok : TIok Tryd.prog 70 vt70 := tiok (f := Tryd.t70) Tryd.underlying70 (by kernel_rfl) rfl rfl rfl (by kernel_rfl) (by kernel_rfl) rfl rfl
def vt71 : TI := { desc := Go.TypeDesc.struct #[{ name := "Type", type := 9, offset := 0, embedded := false, tag := "", pkgPath := "", byteOffset := 0 }, { name := "Relation", type := 9, offset := 1, embedded := false, tag := "", pkgPath := "", byteOffset := 16 }, { name := "Wild", type := 4, offset := 2, embedded := false, tag := "", pkgPath := "", byteOffset := 32 }], size := 3, bytes := 40, ag := true, zero := [.c (.str .empty), .c (.str .empty), .c (.bool false)], sh := some [.str, .str, .bool] }
theorem vt71_ok : TIok Tryd.prog 71 vt71 := tiok (f := Tryd.t71) Tryd.underlying71 (by kernel_rfl) rfl rfl rfl (by kernel_rfl) (by kernel_rfl) rfl rfl
def vt72 : TI := { desc := Go.TypeDesc.struct #[{ name := "Type", type := 9, offset := 0, embedded := false, tag := "", pkgPath := "", byteOffset := 0 }, { name := "Relation", type := 9, offset := 1, embedded := false, tag := "", pkgPath := "", byteOffset := 16 }, { name := "Wild", type := 4, offset := 2, embedded := false, tag := "", pkgPath := "", byteOffset := 32 }], size := 3, bytes := 40, ag := true, zero := [.c (.str .empty), .c (.str .empty), .c (.bool false)], sh := some [.str, .str, .bool] }
theorem vt72_ok : TIok Tryd.prog 72 vt72 := tiok (f := Tryd.t72) Tryd.underlying72 (by kernel_rfl) rfl rfl rfl (by kernel_rfl) (by kernel_rfl) rfl rfl
def vt73 : TI := { desc := Go.TypeDesc.func #[5] #[4] false, size := 1, bytes := 8, ag := false, zero := [.c .nf], sh := some [.any] }
theorem vt73_ok : TIok Tryd.prog 73 vt73 := tiok (f := Tryd.t73) Tryd.underlying73 (by kernel_rfl) rfl rfl rfl (by kernel_rfl) (by kernel_rfl) rfl rfl
def vt75 : TI := { desc := Go.TypeDesc.func #[9] #[3, 26] false, size := 1, bytes := 8, ag := false, zero := [.c .nf], sh := some [.any] }
theorem vt75_ok : TIok Tryd.prog 75 vt75 := tiok (f := Tryd.t75) Tryd.underlying75 (by kernel_rfl) rfl rfl rfl (by kernel_rfl) (by kernel_rfl) rfl rfl
def vt76 : TI := { desc := Go.TypeDesc.func #[9] #[3] false, size := 1, bytes := 8, ag := false, zero := [.c .nf], sh := some [.any] }
theorem vt76_ok : TIok Tryd.prog 76 vt76 := tiok (f := Tryd.t76) Tryd.underlying76 (by kernel_rfl) rfl rfl rfl (by kernel_rfl) (by kernel_rfl) rfl rfl
def vt78 : TI := { desc := Go.TypeDesc.func #[9] #[33, 4] false, size := 1, bytes := 8, ag := false, zero := [.c .nf], sh := some [.any] }
theorem vt78_ok : TIok Tryd.prog 78 vt78 := tiok (f := Tryd.t78) Tryd.underlying78 (by kernel_rfl) rfl rfl rfl (by kernel_rfl) (by kernel_rfl) rfl rfl
def vt79 : TI := { desc := Go.TypeDesc.func #[3, 40] #[4] false, size := 1, bytes := 8, ag := false, zero := [.c .nf], sh := some [.any] }
theorem vt79_ok : TIok Tryd.prog 79 vt79 := tiok (f := Tryd.t79) Tryd.underlying79 (by kernel_rfl) rfl rfl rfl (by kernel_rfl) (by kernel_rfl) rfl rfl
def vt81 : TI := { desc := Go.TypeDesc.func #[40, 3] #[3, 3] false, size := 1, bytes := 8, ag := false, zero := [.c .nf], sh := some [.any] }
theorem vt81_ok : TIok Tryd.prog 81 vt81 := tiok (f := Tryd.t81) Tryd.underlying81 (by kernel_rfl) rfl rfl rfl (by kernel_rfl) (by kernel_rfl) rfl rfl
def vt82 : TI := { desc := Go.TypeDesc.func #[3, 4] #[4] false, size := 1, bytes := 8, ag := false, zero := [.c .nf], sh := some [.any] }
theorem vt82_ok : TIok Tryd.prog 82 vt82 := tiok (f := Tryd.t82) Tryd.underlying82 (by kernel_rfl) rfl rfl rfl (by kernel_rfl) (by kernel_rfl) rfl rfl
def vt83 : TI := { desc := Go.TypeDesc.func #[40] #[9] false, size := 1, bytes := 8, ag := false, zero := [.c .nf], sh := some [.any] }
theorem vt83_ok : TIok Tryd.prog 83 vt83 := tiok (f := Tryd.t83) Tryd.underlying83 (by kernel_rfl) rfl rfl rfl (by kernel_rfl) (by kernel_rfl) rfl rfl
def vt84 : TI := { desc := Go.TypeDesc.func #[21] #[25] false, size := 1, bytes := 8, ag := false, zero := [.c .nf], sh := some [.any] }
theorem vt84_ok : TIok Tryd.prog 84 vt84 := tiok (f := Tryd.t84) Tryd.underlying84 (by kernel_rfl) rfl rfl rfl (by kernel_rfl) (by kernel_rfl) rfl rfl
def vt85 : TI := { desc := Go.TypeDesc.func #[9, 3] #[3, 3] false, size := 1, bytes := 8, ag := false, zero := [.c .nf], sh := some [.any] }
theorem vt85_ok : TIok Tryd.prog 85 vt85 := tiok (f := Tryd.t85) Tryd.underlying85 (by kernel_rfl) rfl rfl rfl (by kernel_rfl) (by kernel_rfl) rfl rfl
def vt86 : TI := { desc := Go.TypeDesc.int Go.IntKind.u64, size := 1, bytes := 8, ag := false, zero := [.c (.int .u64 0)], sh := some [.int .u64] }
theorem vt86_ok : TIok Tryd.prog 86 vt86 := tiok (f := Tryd.t86) Tryd.underlying86 (by kernel_rfl) rfl rfl rfl (by kernel_rfl) (by kernel_rfl) rfl rfl
def vt88 : TI := { desc := Go.TypeDesc.func #[86, 86] #[86, 86] false, size := 1, bytes := 8, ag := false, zero := [.c .nf], sh := some [.any] }
theorem vt88_ok : TIok Tryd.prog 88 vt88 := tiok (f := Tryd.t88) Tryd.underlying88 (by kernel_rfl) rfl rfl rfl (by kernel_rfl) (by kernel_rfl) rfl rfl
def vt89 : TI := { desc := Go.TypeDesc.pointer 92, size := 1, bytes := 8, ag := false, zero := [.c .np], sh := some [.any] }
theorem vt89_ok : TIok Tryd.prog 89 vt89 := tiok (f := Tryd.t89) Tryd.underlying89 (by kernel_rfl) rfl rfl rfl (by kernel_rfl) (by kernel_rfl) rfl rfl
def vt90 : TI := { desc := Go.TypeDesc.slice 5, size := 1, bytes := 24, ag := false, zero := [.s 5 1], sh := some [.sl 1] }
theorem vt90_ok : TIok Tryd.prog 90 vt90 := tiok (f := Tryd.t90) Tryd.underlying90 (by kernel_rfl) rfl rfl rfl (by kernel_rfl) (by kernel_rfl) rfl rfl
def vt91 : TI := { desc := Go.TypeDesc.struct #[{ name := "addr", type := 89, offset := 0, embedded := false, tag := "", pkgPath := "strings", byteOffset := 0 }, { name := "buf", type := 90, offset := 1, embedded := false, tag := "", pkgPath := "strings", byteOffset := 8 }], size := 2, bytes := 32, ag := true, zero := [.c .np, .s 5 1], sh := some [.any, .sl 1] }
theorem vt91_ok : TIok Tryd.prog 91 vt91 := tiok (f := Tryd.t91) Tryd.underlying91 (by kernel_rfl) rfl rfl rfl (by kernel_rfl) (by kernel_rfl) rfl rfl
def vt92 : TI := { desc := Go.TypeDesc.struct #[{ name := "addr", type := 89, offset := 0, embedded := false, tag := "", pkgPath := "strings", byteOffset := 0 }, { name := "buf", type := 90, offset := 1, embedded := false, tag := "", pkgPath := "strings", byteOffset := 8 }], size := 2, bytes := 32, ag := true, zero := [.c .np, .s 5 1], sh := some [.any, .sl 1] }
theorem vt92_ok : TIok Tryd.prog 92 vt92 := tiok (f := Tryd.t92) Tryd.underlying92 (by kernel_rfl) rfl rfl rfl (by kernel_rfl) (by kernel_rfl) rfl rfl
def vt93 : TI := { desc := Go.TypeDesc.func #[3] #[] false, size := 1, bytes := 8, ag := false, zero := [.c .nf], sh := some [.any] }
theorem vt93_ok : TIok Tryd.prog 93 vt93 := tiok (f := Tryd.t93) Tryd.underlying93 (by kernel_rfl) rfl rfl rfl (by kernel_rfl) (by kernel_rfl) rfl rfl
def vt94 : TI := { desc := Go.TypeDesc.interface #[("Error", 99)], size := 1, bytes := 16, ag := false, zero := [.c .ni], sh := some [.any] }
theorem vt94_ok : TIok Tryd.prog 94 vt94 := tiok (f := Tryd.t94) Tryd.underlying94 (by kernel_rfl) rfl rfl rfl (by kernel_rfl) (by kernel_rfl) rfl rfl
def vt95 : TI := { desc := Go.TypeDesc.interface #[("Error", 99)], size := 1, bytes := 16, ag := false, zero := [.c .ni], sh := some [.any] }
theorem vt95_ok : TIok Tryd.prog 95 vt95 := tiok (f := Tryd.t95) Tryd.underlying95 (by kernel_rfl) rfl rfl rfl (by kernel_rfl) (by kernel_rfl) rfl rfl
def vt97 : TI := { desc := Go.TypeDesc.func #[9] #[3, 95] false, size := 1, bytes := 8, ag := false, zero := [.c .nf], sh := some [.any] }
theorem vt97_ok : TIok Tryd.prog 97 vt97 := tiok (f := Tryd.t97) Tryd.underlying97 (by kernel_rfl) rfl rfl rfl (by kernel_rfl) (by kernel_rfl) rfl rfl
def vt98 : TI := { desc := Go.TypeDesc.func #[] #[3] false, size := 1, bytes := 8, ag := false, zero := [.c .nf], sh := some [.any] }
theorem vt98_ok : TIok Tryd.prog 98 vt98 := tiok (f := Tryd.t98) Tryd.underlying98 (by kernel_rfl) rfl rfl rfl (by kernel_rfl) (by kernel_rfl) rfl rfl
def vt99 : TI := { desc := Go.TypeDesc.func #[] #[9] false, size := 1, bytes := 8, ag := false, zero := [.c .nf], sh := some [.any] }
theorem vt99_ok : TIok Tryd.prog 99 vt99 := tiok (f := Tryd.t99) Tryd.underlying99 (by kernel_rfl) rfl rfl rfl (by kernel_rfl) (by kernel_rfl) rfl rfl
def vt100 : TI := { desc := Go.TypeDesc.func #[9, 101] #[47, 25, 26] false, size := 1, bytes := 8, ag := false, zero := [.c .nf], sh := some [.any] }
theorem vt100_ok : TIok Tryd.prog 100 vt100 := tiok (f := Tryd.t100) Tryd.underlying100 (by kernel_rfl) rfl rfl rfl (by kernel_rfl) (by kernel_rfl) rfl rfl
def vt101 : TI := { desc := Go.TypeDesc.func #[122] #[47] false, size := 1, bytes := 8, ag := false, zero := [.c .nf], sh := some [.any] }
theorem vt101_ok : TIok Tryd.prog 101 vt101 := tiok (f := Tryd.t101) Tryd.underlying101 (by kernel_rfl) rfl rfl rfl (by kernel_rfl) (by kernel_rfl) rfl rfl
def vt102 : TI := { desc := Go.TypeDesc.struct #[{ name := "L", type := 29, offset := 0, embedded := false, tag := "", pkgPath := "", byteOffset := 0 }, { name := "At", type := 3, offset := 1, embedded := false, tag := "", pkgPath := "", byteOffset := 24 }, { name := "Open", type := 3, offset := 2, embedded := false, tag := "", pkgPath := "", byteOffset := 32 }, { name := "Err", type := 3, offset := 3, embedded := false, tag := "", pkgPath := "", byteOffset := 40 }], size := 4, bytes := 48, ag := true, zero := [.s 35 4, .c (.int .i64 0), .c (.int .i64 0), .c (.int .i64 0)], sh := some [.sl 4, .int .i64, .int .i64, .int .i64] }
theorem vt102_ok : TIok Tryd.prog 102 vt102 := tiok (f := Tryd.t102) Tryd.underlying102 (by kernel_rfl) rfl rfl rfl (by kernel_rfl) (by kernel_rfl) rfl rfl
def vt103 : TI := { desc := Go.TypeDesc.struct #[{ name := "L", type := 29, offset := 0, embedded := false, tag := "", pkgPath := "", byteOffset := 0 }, { name := "At", type := 3, offset := 1, embedded := false, tag := "", pkgPath := "", byteOffset := 24 }, { name := "Open", type := 3, offset := 2, embedded := false, tag := "", pkgPath := "", byteOffset := 32 }, { name := "Err", type := 3, offset := 3, embedded := false, tag := "", pkgPath := "", byteOffset := 40 }], size := 4, bytes := 48, ag := true, zero := [.s 35 4, .c (.int .i64 0), .c (.int .i64 0), .c (.int .i64 0)], sh := some [.sl 4, .int .i64, .int .i64, .int .i64] }
theorem vt103_ok : TIok Tryd.prog 103 vt103 := tiok (f := Tryd.t103) Tryd.underlying103 (by kernel_rfl) rfl rfl rfl (by kernel_rfl) (by kernel_rfl) rfl rfl
def vt105 : TI := { desc := Go.TypeDesc.func #[103] #[103, 47] false, size := 1, bytes := 8, ag := false, zero := [.c .nf], sh := some [.any] }
theorem vt105_ok : TIok Tryd.prog 105 vt105 := tiok (f := Tryd.t105) Tryd.underlying105 (by kernel_rfl) rfl rfl rfl (by kernel_rfl) (by kernel_rfl) rfl rfl
def vt107 : TI := { desc := Go.TypeDesc.func #[103, 3, 3] #[3, 3, 3] false, size := 1, bytes := 8, ag := false, zero := [.c .nf], sh := some [.any] }
theorem vt107_ok : TIok Tryd.prog 107 vt107 := tiok (f := Tryd.t107) Tryd.underlying107 (by kernel_rfl) rfl rfl rfl (by kernel_rfl) (by kernel_rfl) rfl rfl
def vt108 : TI := { desc := Go.TypeDesc.func #[9, 9] #[3] false, size := 1, bytes := 8, ag := false, zero := [.c .nf], sh := some [.any] }
theorem vt108_ok : TIok Tryd.prog 108 vt108 := tiok (f := Tryd.t108) Tryd.underlying108 (by kernel_rfl) rfl rfl rfl (by kernel_rfl) (by kernel_rfl) rfl rfl
def vt109 : TI := { desc := Go.TypeDesc.func #[9, 110] #[59, 25, 26] false, size := 1, bytes := 8, ag := false, zero := [.c .nf], sh := some [.any] }
theorem vt109_ok : TIok Tryd.prog 109 vt109 := tiok (f := Tryd.t109) Tryd.underlying109 (by kernel_rfl) rfl rfl rfl (by kernel_rfl) (by kernel_rfl) rfl rfl
def vt110 : TI := { desc := Go.TypeDesc.func #[122] #[59] false, size := 1, bytes := 8, ag := false, zero := [.c .nf], sh := some [.any] }
theorem vt110_ok : TIok Tryd.prog 110 vt110 := tiok (f := Tryd.t110) Tryd.underlying110 (by kernel_rfl) rfl rfl rfl (by kernel_rfl) (by kernel_rfl) rfl rfl
def vt112 : TI := { desc := Go.TypeDesc.func #[103] #[103, 59] false, size := 1, bytes := 8, ag := false, zero := [.c .nf], sh := some [.any] }
theorem vt112_ok : TIok Tryd.prog 112 vt112 := tiok (f := Tryd.t112) Tryd.underlying112 (by kernel_rfl) rfl rfl rfl (by kernel_rfl) (by kernel_rfl) rfl rfl
def vt113 : TI := { desc := Go.TypeDesc.func #[21] #[4] false, size := 1, bytes := 8, ag := false, zero := [.c .nf], sh := some [.any] }
theorem vt113_ok : TIok Tryd.prog 113 vt113 := tiok (f := Tryd.t113) Tryd.underlying113 (by kernel_rfl) rfl rfl rfl (by kernel_rfl) (by kernel_rfl) rfl rfl
def vt114 : TI := { desc := Go.TypeDesc.func #[9] #[9] false, size := 1, bytes := 8, ag := false, zero := [.c .nf], sh := some [.any] }
theorem vt114_ok : TIok Tryd.prog 114 vt114 := tiok (f := Tryd.t114) Tryd.underlying114 (by kernel_rfl) rfl rfl rfl (by kernel_rfl) (by kernel_rfl) rfl rfl
def vt115 : TI := { desc := Go.TypeDesc.int Go.IntKind.u32, size := 1, bytes := 4, ag := false, zero := [.c (.int .u32 0)], sh := some [.int .u32] }
theorem vt115_ok : TIok Tryd.prog 115 vt115 := tiok (f := Tryd.t115) Tryd.underlying115 (by kernel_rfl) rfl rfl rfl (by kernel_rfl) (by kernel_rfl) rfl rfl
def vt117 : TI := { desc := Go.TypeDesc.func #[115, 115] #[115, 115] false, size := 1, bytes := 8, ag := false, zero := [.c .nf], sh := some [.any] }
theorem vt117_ok : TIok Tryd.prog 117 vt117 := tiok (f := Tryd.t117) Tryd.underlying117 (by kernel_rfl) rfl rfl rfl (by kernel_rfl) (by kernel_rfl) rfl rfl
def vt118 : TI := { desc := Go.TypeDesc.int Go.IntKind.u64, size := 1, bytes := 8, ag := false, zero := [.c (.int .u64 0)], sh := some [.int .u64] }
theorem vt118_ok : TIok Tryd.prog 118 vt118 := tiok (f := Tryd.t118) Tryd.underlying118 (by kernel_rfl) rfl rfl rfl (by kernel_rfl) (by kernel_rfl) rfl rfl
def vt120 : TI := { desc := Go.TypeDesc.func #[118, 118] #[118, 118] false, size := 1, bytes := 8, ag := false, zero := [.c .nf], sh := some [.any] }
theorem vt120_ok : TIok Tryd.prog 120 vt120 := tiok (f := Tryd.t120) Tryd.underlying120 (by kernel_rfl) rfl rfl rfl (by kernel_rfl) (by kernel_rfl) rfl rfl
def vt121 : TI := { desc := Go.TypeDesc.pointer 5, size := 1, bytes := 8, ag := false, zero := [.c .np], sh := some [.any] }
theorem vt121_ok : TIok Tryd.prog 121 vt121 := tiok (f := Tryd.t121) Tryd.underlying121 (by kernel_rfl) rfl rfl rfl (by kernel_rfl) (by kernel_rfl) rfl rfl
def vt122 : TI := { desc := Go.TypeDesc.pointer 124, size := 1, bytes := 8, ag := false, zero := [.c .np], sh := some [.any] }
theorem vt122_ok : TIok Tryd.prog 122 vt122 := tiok (f := Tryd.t122) Tryd.underlying122 (by kernel_rfl) rfl rfl rfl (by kernel_rfl) (by kernel_rfl) rfl rfl
def vt123 : TI := { desc := Go.TypeDesc.struct #[{ name := "tokens", type := 23, offset := 0, embedded := false, tag := "", pkgPath := "stile/grammar", byteOffset := 0 }, { name := "end", type := 25, offset := 1, embedded := false, tag := "", pkgPath := "stile/grammar", byteOffset := 24 }, { name := "at", type := 3, offset := 3, embedded := false, tag := "", pkgPath := "stile/grammar", byteOffset := 40 }, { name := "open", type := 3, offset := 4, embedded := false, tag := "", pkgPath := "stile/grammar", byteOffset := 48 }, { name := "err", type := 95, offset := 5, embedded := false, tag := "", pkgPath := "stile/grammar", byteOffset := 56 }], size := 6, bytes := 72, ag := true, zero := [.s 33 4, .c (.int .i64 0), .c (.int .i64 0), .c (.int .i64 0), .c (.int .i64 0), .c .ni], sh := some [.sl 4, .int .i64, .int .i64, .int .i64, .int .i64, .any] }
theorem vt123_ok : TIok Tryd.prog 123 vt123 := tiok (f := Tryd.t123) Tryd.underlying123 (by kernel_rfl) rfl rfl rfl (by kernel_rfl) (by kernel_rfl) rfl rfl
def vt124 : TI := { desc := Go.TypeDesc.struct #[{ name := "tokens", type := 23, offset := 0, embedded := false, tag := "", pkgPath := "stile/grammar", byteOffset := 0 }, { name := "end", type := 25, offset := 1, embedded := false, tag := "", pkgPath := "stile/grammar", byteOffset := 24 }, { name := "at", type := 3, offset := 3, embedded := false, tag := "", pkgPath := "stile/grammar", byteOffset := 40 }, { name := "open", type := 3, offset := 4, embedded := false, tag := "", pkgPath := "stile/grammar", byteOffset := 48 }, { name := "err", type := 95, offset := 5, embedded := false, tag := "", pkgPath := "stile/grammar", byteOffset := 56 }], size := 6, bytes := 72, ag := true, zero := [.s 33 4, .c (.int .i64 0), .c (.int .i64 0), .c (.int .i64 0), .c (.int .i64 0), .c .ni], sh := some [.sl 4, .int .i64, .int .i64, .int .i64, .int .i64, .any] }
theorem vt124_ok : TIok Tryd.prog 124 vt124 := tiok (f := Tryd.t124) Tryd.underlying124 (by kernel_rfl) rfl rfl rfl (by kernel_rfl) (by kernel_rfl) rfl rfl
def vt125 : TI := { desc := Go.TypeDesc.func #[95] #[] false, size := 1, bytes := 8, ag := false, zero := [.c .nf], sh := some [.any] }
theorem vt125_ok : TIok Tryd.prog 125 vt125 := tiok (f := Tryd.t125) Tryd.underlying125 (by kernel_rfl) rfl rfl rfl (by kernel_rfl) (by kernel_rfl) rfl rfl
def vt126 : TI := { desc := Go.TypeDesc.func #[95, 95] #[4] false, size := 1, bytes := 8, ag := false, zero := [.c .nf], sh := some [.any] }
theorem vt126_ok : TIok Tryd.prog 126 vt126 := tiok (f := Tryd.t126) Tryd.underlying126 (by kernel_rfl) rfl rfl rfl (by kernel_rfl) (by kernel_rfl) rfl rfl
def vt127 : TI := { desc := Go.TypeDesc.func #[] #[25] false, size := 1, bytes := 8, ag := false, zero := [.c .nf], sh := some [.any] }
theorem vt127_ok : TIok Tryd.prog 127 vt127 := tiok (f := Tryd.t127) Tryd.underlying127 (by kernel_rfl) rfl rfl rfl (by kernel_rfl) (by kernel_rfl) rfl rfl
def vt128 : TI := { desc := Go.TypeDesc.func #[3, 45] #[47] false, size := 1, bytes := 8, ag := false, zero := [.c .nf], sh := some [.any] }
theorem vt128_ok : TIok Tryd.prog 128 vt128 := tiok (f := Tryd.t128) Tryd.underlying128 (by kernel_rfl) rfl rfl rfl (by kernel_rfl) (by kernel_rfl) rfl rfl
def vt129 : TI := { desc := Go.TypeDesc.func #[122, 3, 101] #[45] false, size := 1, bytes := 8, ag := false, zero := [.c .nf], sh := some [.any] }
theorem vt129_ok : TIok Tryd.prog 129 vt129 := tiok (f := Tryd.t129) Tryd.underlying129 (by kernel_rfl) rfl rfl rfl (by kernel_rfl) (by kernel_rfl) rfl rfl
def vt130 : TI := { desc := Go.TypeDesc.func #[103] #[3] false, size := 1, bytes := 8, ag := false, zero := [.c .nf], sh := some [.any] }
theorem vt130_ok : TIok Tryd.prog 130 vt130 := tiok (f := Tryd.t130) Tryd.underlying130 (by kernel_rfl) rfl rfl rfl (by kernel_rfl) (by kernel_rfl) rfl rfl
def vt131 : TI := { desc := Go.TypeDesc.func #[122] #[67] false, size := 1, bytes := 8, ag := false, zero := [.c .nf], sh := some [.any] }
theorem vt131_ok : TIok Tryd.prog 131 vt131 := tiok (f := Tryd.t131) Tryd.underlying131 (by kernel_rfl) rfl rfl rfl (by kernel_rfl) (by kernel_rfl) rfl rfl
def vt133 : TI := { desc := Go.TypeDesc.func #[103, 3] #[103, 9] false, size := 1, bytes := 8, ag := false, zero := [.c .nf], sh := some [.any] }
theorem vt133_ok : TIok Tryd.prog 133 vt133 := tiok (f := Tryd.t133) Tryd.underlying133 (by kernel_rfl) rfl rfl rfl (by kernel_rfl) (by kernel_rfl) rfl rfl
def vt135 : TI := { desc := Go.TypeDesc.func #[103] #[103, 70] false, size := 1, bytes := 8, ag := false, zero := [.c .nf], sh := some [.any] }
theorem vt135_ok : TIok Tryd.prog 135 vt135 := tiok (f := Tryd.t135) Tryd.underlying135 (by kernel_rfl) rfl rfl rfl (by kernel_rfl) (by kernel_rfl) rfl rfl
def vt136 : TI := { desc := Go.TypeDesc.func #[9, 3, 21] #[4] false, size := 1, bytes := 8, ag := false, zero := [.c .nf], sh := some [.any] }
theorem vt136_ok : TIok Tryd.prog 136 vt136 := tiok (f := Tryd.t136) Tryd.underlying136 (by kernel_rfl) rfl rfl rfl (by kernel_rfl) (by kernel_rfl) rfl rfl
def vt137 : TI := { desc := Go.TypeDesc.func #[21, 4] #[4] false, size := 1, bytes := 8, ag := false, zero := [.c .nf], sh := some [.any] }
theorem vt137_ok : TIok Tryd.prog 137 vt137 := tiok (f := Tryd.t137) Tryd.underlying137 (by kernel_rfl) rfl rfl rfl (by kernel_rfl) (by kernel_rfl) rfl rfl
def vt139 : TI := { desc := Go.TypeDesc.func #[138] #[138] false, size := 1, bytes := 8, ag := false, zero := [.c .nf], sh := some [.any] }
theorem vt139_ok : TIok Tryd.prog 139 vt139 := tiok (f := Tryd.t139) Tryd.underlying139 (by kernel_rfl) rfl rfl rfl (by kernel_rfl) (by kernel_rfl) rfl rfl
def vt140 : TI := { desc := Go.TypeDesc.func #[3] #[90] false, size := 1, bytes := 8, ag := false, zero := [.c .nf], sh := some [.any] }
theorem vt140_ok : TIok Tryd.prog 140 vt140 := tiok (f := Tryd.t140) Tryd.underlying140 (by kernel_rfl) rfl rfl rfl (by kernel_rfl) (by kernel_rfl) rfl rfl
def vt141 : TI := { desc := Go.TypeDesc.interface #[("AssignableTo", 185), ("Comparable", 22), ("Elem", 186), ("Implements", 185), ("Kind", 187), ("Name", 99), ("PkgPath", 99), ("Size", 188), ("String", 99), ("internal/reflectlite.common", 189), ("internal/reflectlite.uncommon", 190)], size := 1, bytes := 16, ag := false, zero := [.c .ni], sh := some [.any] }
theorem vt141_ok : TIok Tryd.prog 141 vt141 := tiok (f := Tryd.t141) Tryd.underlying141 (by kernel_rfl) rfl rfl rfl (by kernel_rfl) (by kernel_rfl) rfl rfl
def vt142 : TI := { desc := Go.TypeDesc.interface #[("AssignableTo", 185), ("Comparable", 22), ("Elem", 186), ("Implements", 185), ("Kind", 187), ("Name", 99), ("PkgPath", 99), ("Size", 188), ("String", 99), ("internal/reflectlite.common", 189), ("internal/reflectlite.uncommon", 190)], size := 1, bytes := 16, ag := false, zero := [.c .ni], sh := some [.any] }
theorem vt142_ok : TIok Tryd.prog 142 vt142 := tiok (f := Tryd.t142) Tryd.underlying142 (by kernel_rfl) rfl rfl rfl (by kernel_rfl) (by kernel_rfl) rfl rfl
def vt143 : TI := { desc := Go.TypeDesc.func #[20] #[142] false, size := 1, bytes := 8, ag := false, zero := [.c .nf], sh := some [.any] }
theorem vt143_ok : TIok Tryd.prog 143 vt143 := tiok (f := Tryd.t143) Tryd.underlying143 (by kernel_rfl) rfl rfl rfl (by kernel_rfl) (by kernel_rfl) rfl rfl
def vt144 : TI := { desc := Go.TypeDesc.func #[95, 95, 4] #[4] false, size := 1, bytes := 8, ag := false, zero := [.c .nf], sh := some [.any] }
theorem vt144_ok : TIok Tryd.prog 144 vt144 := tiok (f := Tryd.t144) Tryd.underlying144 (by kernel_rfl) rfl rfl rfl (by kernel_rfl) (by kernel_rfl) rfl rfl
def vt145 : TI := { desc := Go.TypeDesc.func #[3] #[4] false, size := 1, bytes := 8, ag := false, zero := [.c .nf], sh := some [.any] }
theorem vt145_ok : TIok Tryd.prog 145 vt145 := tiok (f := Tryd.t145) Tryd.underlying145 (by kernel_rfl) rfl rfl rfl (by kernel_rfl) (by kernel_rfl) rfl rfl
def vt146 : TI := { desc := Go.TypeDesc.func #[9, 5] #[3] false, size := 1, bytes := 8, ag := false, zero := [.c .nf], sh := some [.any] }
theorem vt146_ok : TIok Tryd.prog 146 vt146 := tiok (f := Tryd.t146) Tryd.underlying146 (by kernel_rfl) rfl rfl rfl (by kernel_rfl) (by kernel_rfl) rfl rfl
def vt147 : TI := { desc := Go.TypeDesc.func #[3] #[3] false, size := 1, bytes := 8, ag := false, zero := [.c .nf], sh := some [.any] }
theorem vt147_ok : TIok Tryd.prog 147 vt147 := tiok (f := Tryd.t147) Tryd.underlying147 (by kernel_rfl) rfl rfl rfl (by kernel_rfl) (by kernel_rfl) rfl rfl
def vt148 : TI := { desc := Go.TypeDesc.func #[3] #[9] false, size := 1, bytes := 8, ag := false, zero := [.c .nf], sh := some [.any] }
theorem vt148_ok : TIok Tryd.prog 148 vt148 := tiok (f := Tryd.t148) Tryd.underlying148 (by kernel_rfl) rfl rfl rfl (by kernel_rfl) (by kernel_rfl) rfl rfl
def vt149 : TI := { desc := Go.TypeDesc.func #[122] #[70] false, size := 1, bytes := 8, ag := false, zero := [.c .nf], sh := some [.any] }
theorem vt149_ok : TIok Tryd.prog 149 vt149 := tiok (f := Tryd.t149) Tryd.underlying149 (by kernel_rfl) rfl rfl rfl (by kernel_rfl) (by kernel_rfl) rfl rfl
def vt151 : TI := { desc := Go.TypeDesc.func #[103] #[103, 72] false, size := 1, bytes := 8, ag := false, zero := [.c .nf], sh := some [.any] }
theorem vt151_ok : TIok Tryd.prog 151 vt151 := tiok (f := Tryd.t151) Tryd.underlying151 (by kernel_rfl) rfl rfl rfl (by kernel_rfl) (by kernel_rfl) rfl rfl
def vt153 : TI := { desc := Go.TypeDesc.func #[9] #[21, 3] false, size := 1, bytes := 8, ag := false, zero := [.c .nf], sh := some [.any] }
theorem vt153_ok : TIok Tryd.prog 153 vt153 := tiok (f := Tryd.t153) Tryd.underlying153 (by kernel_rfl) rfl rfl rfl (by kernel_rfl) (by kernel_rfl) rfl rfl
def vt154 : TI := { desc := Go.TypeDesc.struct #[{ name := "Type", type := 17, offset := 0, embedded := true, tag := "", pkgPath := "", byteOffset := 0 }], size := 1, bytes := 8, ag := true, zero := [.c .np], sh := some [.any] }
theorem vt154_ok : TIok Tryd.prog 154 vt154 := tiok (f := Tryd.t154) Tryd.underlying154 (by kernel_rfl) rfl rfl rfl (by kernel_rfl) (by kernel_rfl) rfl rfl
def vt155 : TI := { desc := Go.TypeDesc.struct #[{ name := "Type", type := 17, offset := 0, embedded := true, tag := "", pkgPath := "", byteOffset := 0 }], size := 1, bytes := 8, ag := true, zero := [.c .np], sh := some [.any] }
theorem vt155_ok : TIok Tryd.prog 155 vt155 := tiok (f := Tryd.t155) Tryd.underlying155 (by kernel_rfl) rfl rfl rfl (by kernel_rfl) (by kernel_rfl) rfl rfl
def vt156 : TI := { desc := Go.TypeDesc.pointer 192, size := 1, bytes := 8, ag := false, zero := [.c .np], sh := some [.any] }
theorem vt156_ok : TIok Tryd.prog 156 vt156 := tiok (f := Tryd.t156) Tryd.underlying156 (by kernel_rfl) rfl rfl rfl (by kernel_rfl) (by kernel_rfl) rfl rfl
def vt157 : TI := { desc := Go.TypeDesc.interface #[("Is", 159)], size := 1, bytes := 16, ag := false, zero := [.c .ni], sh := some [.any] }
theorem vt157_ok : TIok Tryd.prog 157 vt157 := tiok (f := Tryd.t157) Tryd.underlying157 (by kernel_rfl) rfl rfl rfl (by kernel_rfl) (by kernel_rfl) rfl rfl
def vt159 : TI := { desc := Go.TypeDesc.func #[95] #[4] false, size := 1, bytes := 8, ag := false, zero := [.c .nf], sh := some [.any] }
theorem vt159_ok : TIok Tryd.prog 159 vt159 := tiok (f := Tryd.t159) Tryd.underlying159 (by kernel_rfl) rfl rfl rfl (by kernel_rfl) (by kernel_rfl) rfl rfl
def vt160 : TI := { desc := Go.TypeDesc.interface #[("Unwrap", 161)], size := 1, bytes := 16, ag := false, zero := [.c .ni], sh := some [.any] }
theorem vt160_ok : TIok Tryd.prog 160 vt160 := tiok (f := Tryd.t160) Tryd.underlying160 (by kernel_rfl) rfl rfl rfl (by kernel_rfl) (by kernel_rfl) rfl rfl
def vt161 : TI := { desc := Go.TypeDesc.func #[] #[95] false, size := 1, bytes := 8, ag := false, zero := [.c .nf], sh := some [.any] }
theorem vt161_ok : TIok Tryd.prog 161 vt161 := tiok (f := Tryd.t161) Tryd.underlying161 (by kernel_rfl) rfl rfl rfl (by kernel_rfl) (by kernel_rfl) rfl rfl
def vt162 : TI := { desc := Go.TypeDesc.interface #[("Unwrap", 164)], size := 1, bytes := 16, ag := false, zero := [.c .ni], sh := some [.any] }
theorem vt162_ok : TIok Tryd.prog 162 vt162 := tiok (f := Tryd.t162) Tryd.underlying162 (by kernel_rfl) rfl rfl rfl (by kernel_rfl) (by kernel_rfl) rfl rfl
def vt163 : TI := { desc := Go.TypeDesc.slice 95, size := 1, bytes := 24, ag := false, zero := [.s 95 1], sh := some [.sl 1] }
theorem vt163_ok : TIok Tryd.prog 163 vt163 := tiok (f := Tryd.t163) Tryd.underlying163 (by kernel_rfl) rfl rfl rfl (by kernel_rfl) (by kernel_rfl) rfl rfl
def vt164 : TI := { desc := Go.TypeDesc.func #[] #[163] false, size := 1, bytes := 8, ag := false, zero := [.c .nf], sh := some [.any] }
theorem vt164_ok : TIok Tryd.prog 164 vt164 := tiok (f := Tryd.t164) Tryd.underlying164 (by kernel_rfl) rfl rfl rfl (by kernel_rfl) (by kernel_rfl) rfl rfl
def vt165 : TI := { desc := Go.TypeDesc.func #[9] #[115, 115] false, size := 1, bytes := 8, ag := false, zero := [.c .nf], sh := some [.any] }
theorem vt165_ok : TIok Tryd.prog 165 vt165 := tiok (f := Tryd.t165) Tryd.underlying165 (by kernel_rfl) rfl rfl rfl (by kernel_rfl) (by kernel_rfl) rfl rfl
def vt166 : TI := { desc := Go.TypeDesc.func #[122, 3, 167] #[68] false, size := 1, bytes := 8, ag := false, zero := [.c .nf], sh := some [.any] }
theorem vt166_ok : TIok Tryd.prog 166 vt166 := tiok (f := Tryd.t166) Tryd.underlying166 (by kernel_rfl) rfl rfl rfl (by kernel_rfl) (by kernel_rfl) rfl rfl
def vt167 : TI := { desc := Go.TypeDesc.func #[122] #[72] false, size := 1, bytes := 8, ag := false, zero := [.c .nf], sh := some [.any] }
theorem vt167_ok : TIok Tryd.prog 167 vt167 := tiok (f := Tryd.t167) Tryd.underlying167 (by kernel_rfl) rfl rfl rfl (by kernel_rfl) (by kernel_rfl) rfl rfl
def vt168 : TI := { desc := Go.TypeDesc.array 256 5, size := 256, bytes := 256, ag := true, zero := (List.replicate 256 (.c (.int .u8 0))), sh := some [.run 256] }
theorem vt168_ok : TIok Tryd.prog 168 vt168 := tiok (f := Tryd.t168) Tryd.underlying168 (by kernel_rfl) rfl rfl rfl (by kernel_rfl) (by kernel_rfl) rfl rfl
def vt169 : TI := { desc := Go.TypeDesc.struct #[{ name := "lo", type := 5, offset := 0, embedded := false, tag := "", pkgPath := "unicode/utf8", byteOffset := 0 }, { name := "hi", type := 5, offset := 1, embedded := false, tag := "", pkgPath := "unicode/utf8", byteOffset := 1 }], size := 2, bytes := 2, ag := true, zero := [.c (.int .u8 0), .c (.int .u8 0)], sh := some [.int .u8, .int .u8] }
theorem vt169_ok : TIok Tryd.prog 169 vt169 := tiok (f := Tryd.t169) Tryd.underlying169 (by kernel_rfl) rfl rfl rfl (by kernel_rfl) (by kernel_rfl) rfl rfl
def vtab : List (Option TI) := [none, some vt1, some vt2, some vt3, some vt4, some vt5, some vt6, some vt7, some vt8, some vt9, some vt10, some vt11, some vt12, some vt13, some vt14, some vt15, some vt16, some vt17, some vt18, some vt19, some vt20, some vt21, some vt22, some vt23, some vt24, some vt25, some vt26, none, some vt28, some vt29, none, some vt31, some vt32, some vt33, some vt34, some vt35, some vt36, some vt37, some vt38, some vt39, some vt40, none, some vt42, some vt43, some vt44, some vt45, some vt46, some vt47, none, some vt49, none, some vt51, some vt52, some vt53, some vt54, some vt55, some vt56, some vt57, some vt58, some vt59, none, some vt61, none, some vt63, some vt64, some vt65, some vt66, some vt67, some vt68, some vt69, some vt70, some vt71, some vt72, some vt73, none, some vt75, some vt76, none, some vt78, some vt79, none, some vt81, some vt82, some vt83, some vt84, some vt85, some vt86, none, some vt88, some vt89, some vt90, some vt91, some vt92, some vt93, some vt94, some vt95, none, some vt97, some vt98, some vt99, some vt100, some vt101, some vt102, some vt103, none, some vt105, none, some vt107, some vt108, some vt109, some vt110, none, some vt112, some vt113, some vt114, some vt115, none, some vt117, some vt118, none, some vt120, some vt121, some vt122, some vt123, some vt124, some vt125, some vt126, some vt127, some vt128, some vt129, some vt130, some vt131, none, some vt133, none, some vt135, some vt136, some vt137, none, some vt139, some vt140, some vt141, some vt142, some vt143, some vt144, some vt145, some vt146, some vt147, some vt148, some vt149, none, some vt151, none, some vt153, some vt154, some vt155, some vt156, some vt157, none, some vt159, some vt160, some vt161, some vt162, some vt163, some vt164, some vt165, some vt166, some vt167, some vt168, some vt169]
def vti : TypeId → Option TI := tabOf vtab
theorem vtab_ok : TabOk Tryd.prog 0 vtab :=
  .no (.yes vt1_ok (.yes vt2_ok (.yes vt3_ok (.yes vt4_ok (.yes vt5_ok (.yes vt6_ok (.yes vt7_ok (.yes vt8_ok (.yes vt9_ok (.yes vt10_ok (.yes vt11_ok (.yes vt12_ok (.yes vt13_ok (.yes vt14_ok (.yes vt15_ok (.yes vt16_ok (.yes vt17_ok (.yes vt18_ok (.yes vt19_ok (.yes vt20_ok (.yes vt21_ok (.yes vt22_ok (.yes vt23_ok (.yes vt24_ok (.yes vt25_ok (.yes vt26_ok (.no (.yes vt28_ok (.yes vt29_ok (.no (.yes vt31_ok (.yes vt32_ok (.yes vt33_ok (.yes vt34_ok (.yes vt35_ok (.yes vt36_ok (.yes vt37_ok (.yes vt38_ok (.yes vt39_ok (.yes vt40_ok (.no (.yes vt42_ok (.yes vt43_ok (.yes vt44_ok (.yes vt45_ok (.yes vt46_ok (.yes vt47_ok (.no (.yes vt49_ok (.no (.yes vt51_ok (.yes vt52_ok (.yes vt53_ok (.yes vt54_ok (.yes vt55_ok (.yes vt56_ok (.yes vt57_ok (.yes vt58_ok (.yes vt59_ok (.no (.yes vt61_ok (.no (.yes vt63_ok (.yes vt64_ok (.yes vt65_ok (.yes vt66_ok (.yes vt67_ok (.yes vt68_ok (.yes vt69_ok (.yes vt70_ok (.yes vt71_ok (.yes vt72_ok (.yes vt73_ok (.no (.yes vt75_ok (.yes vt76_ok (.no (.yes vt78_ok (.yes vt79_ok (.no (.yes vt81_ok (.yes vt82_ok (.yes vt83_ok (.yes vt84_ok (.yes vt85_ok (.yes vt86_ok (.no (.yes vt88_ok (.yes vt89_ok (.yes vt90_ok (.yes vt91_ok (.yes vt92_ok (.yes vt93_ok (.yes vt94_ok (.yes vt95_ok (.no (.yes vt97_ok (.yes vt98_ok (.yes vt99_ok (.yes vt100_ok (.yes vt101_ok (.yes vt102_ok (.yes vt103_ok (.no (.yes vt105_ok (.no (.yes vt107_ok (.yes vt108_ok (.yes vt109_ok (.yes vt110_ok (.no (.yes vt112_ok (.yes vt113_ok (.yes vt114_ok (.yes vt115_ok (.no (.yes vt117_ok (.yes vt118_ok (.no (.yes vt120_ok (.yes vt121_ok (.yes vt122_ok (.yes vt123_ok (.yes vt124_ok (.yes vt125_ok (.yes vt126_ok (.yes vt127_ok (.yes vt128_ok (.yes vt129_ok (.yes vt130_ok (.yes vt131_ok (.no (.yes vt133_ok (.no (.yes vt135_ok (.yes vt136_ok (.yes vt137_ok (.no (.yes vt139_ok (.yes vt140_ok (.yes vt141_ok (.yes vt142_ok (.yes vt143_ok (.yes vt144_ok (.yes vt145_ok (.yes vt146_ok (.yes vt147_ok (.yes vt148_ok (.yes vt149_ok (.no (.yes vt151_ok (.no (.yes vt153_ok (.yes vt154_ok (.yes vt155_ok (.yes vt156_ok (.yes vt157_ok (.no (.yes vt159_ok (.yes vt160_ok (.yes vt161_ok (.yes vt162_ok (.yes vt163_ok (.yes vt164_ok (.yes vt165_ok (.yes vt166_ok (.yes vt167_ok (.yes vt168_ok (.yes vt169_ok (.nil))))))))))))))))))))))))))))))))))))))))))))))))))))))))))))))))))))))))))))))))))))))))))))))))))))))))))))))))))))))))))))))))))))))))))))))))))))))))))))))))))))))))))
theorem vti_ok : ∀ t i, vti t = some i → TIok Tryd.prog t i := vtab_ok.ti
end Go.Proofs.YtniiimpcakmkbaaDoor
