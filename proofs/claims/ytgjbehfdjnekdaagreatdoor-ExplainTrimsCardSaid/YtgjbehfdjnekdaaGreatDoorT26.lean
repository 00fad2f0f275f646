/- Parts of the proof of one statement: XcTab. -/
import Derived.Test.YtgjbehfdjnekdaaGreatDoorProg
import Derived.Test.YtgjbehfdjnekdaaGreatDoorT25
set_option linter.all false
section
/- The tables of a closed run: types, functions. By a program. -/
set_option linter.unusedVariables false
namespace Go.Proofs.YtgjbehfdjnekdaaGreatDoor.Xc
noncomputable section
open Go.RowKit
open Go.Proofs
def x1 : XT := ⟨TypeDesc.func #[] #[] false, 1, false, [.nilf], 8⟩
theorem x1_ok : TyOK Tryz.prog 1 x1 := tyok Tryz.underlying1 Tryz.sizeOf1 Tryz.isAgg1 Tryz.zeroValue1 rfl rfl rfl (info_map Tryz.type1 rfl)
def x2 : XT := ⟨TypeDesc.int IntKind.i64, 1, false, [.int .i64 0], 8⟩
theorem x2_ok : TyOK Tryz.prog 2 x2 := tyok Tryz.underlying2 Tryz.sizeOf2 Tryz.isAgg2 Tryz.zeroValue2 rfl rfl rfl (info_map Tryz.type2 rfl)
def x3 : XT := ⟨TypeDesc.int IntKind.i64, 1, false, [.int .i64 0], 8⟩
theorem x3_ok : TyOK Tryz.prog 3 x3 := tyok Tryz.underlying3 Tryz.sizeOf3 Tryz.isAgg3 Tryz.zeroValue3 rfl rfl rfl (info_map Tryz.type3 rfl)
def x4 : XT := ⟨TypeDesc.bool, 1, false, [.bool false], 1⟩
theorem x4_ok : TyOK Tryz.prog 4 x4 := tyok Tryz.underlying4 Tryz.sizeOf4 Tryz.isAgg4 Tryz.zeroValue4 rfl rfl rfl (info_map Tryz.type4 rfl)
def x5 : XT := ⟨TypeDesc.int IntKind.u8, 1, false, [.int .u8 0], 1⟩
theorem x5_ok : TyOK Tryz.prog 5 x5 := tyok Tryz.underlying5 Tryz.sizeOf5 Tryz.isAgg5 Tryz.zeroValue5 rfl rfl rfl (info_map Tryz.type5 rfl)
def x6 : XT := ⟨TypeDesc.int IntKind.u8, 1, false, [.int .u8 0], 1⟩
theorem x6_ok : TyOK Tryz.prog 6 x6 := tyok Tryz.underlying6 Tryz.sizeOf6 Tryz.isAgg6 Tryz.zeroValue6 rfl rfl rfl (info_map Tryz.type6 rfl)
def x7 : XT := ⟨TypeDesc.struct #[{ name := "x", type := 2, offset := 0, embedded := false, tag := "", pkgPath := "runtime", byteOffset := 0 }, { name := "y", type := 3, offset := 1, embedded := false, tag := "", pkgPath := "runtime", byteOffset := 8 }, { name := "signed", type := 4, offset := 2, embedded := false, tag := "", pkgPath := "runtime", byteOffset := 16 }, { name := "code", type := 6, offset := 3, embedded := false, tag := "", pkgPath := "runtime", byteOffset := 17 }], 4, true, [.int .i64 0, .int .i64 0, .bool false, .int .u8 0], 24⟩
theorem x7_ok : TyOK Tryz.prog 7 x7 := tyok Tryz.underlying7 Tryz.sizeOf7 Tryz.isAgg7 Tryz.zeroValue7 rfl rfl rfl (info_map Tryz.type7 rfl)
def x8 : XT := ⟨TypeDesc.struct #[{ name := "x", type := 2, offset := 0, embedded := false, tag := "", pkgPath := "runtime", byteOffset := 0 }, { name := "y", type := 3, offset := 1, embedded := false, tag := "", pkgPath := "runtime", byteOffset := 8 }, { name := "signed", type := 4, offset := 2, embedded := false, tag := "", pkgPath := "runtime", byteOffset := 16 }, { name := "code", type := 6, offset := 3, embedded := false, tag := "", pkgPath := "runtime", byteOffset := 17 }], 4, true, [.int .i64 0, .int .i64 0, .bool false, .int .u8 0], 24⟩
theorem x8_ok : TyOK Tryz.prog 8 x8 := tyok Tryz.underlying8 Tryz.sizeOf8 Tryz.isAgg8 Tryz.zeroValue8 rfl rfl rfl (info_map Tryz.type8 rfl)
def x9 : XT := ⟨TypeDesc.string, 1, false, [.str []], 16⟩
theorem x9_ok : TyOK Tryz.prog 9 x9 := tyok Tryz.underlying9 Tryz.sizeOf9 Tryz.isAgg9 Tryz.zeroValue9 rfl rfl rfl (info_map Tryz.type9 rfl)
def x10 : XT := ⟨TypeDesc.string, 1, false, [.str []], 16⟩
theorem x10_ok : TyOK Tryz.prog 10 x10 := tyok Tryz.underlying10 Tryz.sizeOf10 Tryz.isAgg10 Tryz.zeroValue10 rfl rfl rfl (info_map Tryz.type10 rfl)
def x11 : XT := ⟨TypeDesc.string, 1, false, [.str []], 16⟩
theorem x11_ok : TyOK Tryz.prog 11 x11 := tyok Tryz.underlying11 Tryz.sizeOf11 Tryz.isAgg11 Tryz.zeroValue11 rfl rfl rfl (info_map Tryz.type11 rfl)
def x12 : XT := ⟨TypeDesc.int IntKind.u64, 1, false, [.int .u64 0], 8⟩
theorem x12_ok : TyOK Tryz.prog 12 x12 := tyok Tryz.underlying12 Tryz.sizeOf12 Tryz.isAgg12 Tryz.zeroValue12 rfl rfl rfl (info_map Tryz.type12 rfl)
def x13 : XT := ⟨TypeDesc.struct #[{ name := "msg", type := 9, offset := 0, embedded := false, tag := "", pkgPath := "runtime", byteOffset := 0 }, { name := "addr", type := 12, offset := 1, embedded := false, tag := "", pkgPath := "runtime", byteOffset := 16 }], 2, true, [.str [], .int .u64 0], 24⟩
theorem x13_ok : TyOK Tryz.prog 13 x13 := tyok Tryz.underlying13 Tryz.sizeOf13 Tryz.isAgg13 Tryz.zeroValue13 rfl rfl rfl (info_map Tryz.type13 rfl)
def x14 : XT := ⟨TypeDesc.struct #[{ name := "msg", type := 9, offset := 0, embedded := false, tag := "", pkgPath := "runtime", byteOffset := 0 }, { name := "addr", type := 12, offset := 1, embedded := false, tag := "", pkgPath := "runtime", byteOffset := 16 }], 2, true, [.str [], .int .u64 0], 24⟩
theorem x14_ok : TyOK Tryz.prog 14 x14 := tyok Tryz.underlying14 Tryz.sizeOf14 Tryz.isAgg14 Tryz.zeroValue14 rfl rfl rfl (info_map Tryz.type14 rfl)
def x15 : XT := ⟨TypeDesc.pointer 340, 1, false, [.nilp], 8⟩
theorem x15_ok : TyOK Tryz.prog 15 x15 := tyok Tryz.underlying15 Tryz.sizeOf15 Tryz.isAgg15 Tryz.zeroValue15 rfl rfl rfl (info_map Tryz.type15 rfl)
def x16 : XT := ⟨TypeDesc.pointer 343, 1, false, [.nilp], 8⟩
theorem x16_ok : TyOK Tryz.prog 16 x16 := tyok Tryz.underlying16 Tryz.sizeOf16 Tryz.isAgg16 Tryz.zeroValue16 rfl rfl rfl (info_map Tryz.type16 rfl)
def x17 : XT := ⟨TypeDesc.pointer 351, 1, false, [.nilp], 8⟩
theorem x17_ok : TyOK Tryz.prog 17 x17 := tyok Tryz.underlying17 Tryz.sizeOf17 Tryz.isAgg17 Tryz.zeroValue17 rfl rfl rfl (info_map Tryz.type17 rfl)
def x18 : XT := ⟨TypeDesc.struct #[{ name := "typ", type := 17, offset := 0, embedded := false, tag := "", pkgPath := "internal/runtime/maps", byteOffset := 0 }], 1, true, [.nilp], 8⟩
theorem x18_ok : TyOK Tryz.prog 18 x18 := tyok Tryz.underlying18 Tryz.sizeOf18 Tryz.isAgg18 Tryz.zeroValue18 rfl rfl rfl (info_map Tryz.type18 rfl)
def x19 : XT := ⟨TypeDesc.struct #[{ name := "typ", type := 17, offset := 0, embedded := false, tag := "", pkgPath := "internal/runtime/maps", byteOffset := 0 }], 1, true, [.nilp], 8⟩
theorem x19_ok : TyOK Tryz.prog 19 x19 := tyok Tryz.underlying19 Tryz.sizeOf19 Tryz.isAgg19 Tryz.zeroValue19 rfl rfl rfl (info_map Tryz.type19 rfl)
def x20 : XT := ⟨TypeDesc.interface #[], 1, false, [.nili], 16⟩
theorem x20_ok : TyOK Tryz.prog 20 x20 := tyok Tryz.underlying20 Tryz.sizeOf20 Tryz.isAgg20 Tryz.zeroValue20 rfl rfl rfl (info_map Tryz.type20 rfl)
def x21 : XT := ⟨TypeDesc.int IntKind.i32, 1, false, [.int .i32 0], 4⟩
theorem x21_ok : TyOK Tryz.prog 21 x21 := tyok Tryz.underlying21 Tryz.sizeOf21 Tryz.isAgg21 Tryz.zeroValue21 rfl rfl rfl (info_map Tryz.type21 rfl)
def x22 : XT := ⟨TypeDesc.slice 29, 1, false, [.nils], 24⟩
theorem x22_ok : TyOK Tryz.prog 22 x22 := tyok Tryz.underlying22 Tryz.sizeOf22 Tryz.isAgg22 Tryz.zeroValue22 rfl rfl rfl (info_map Tryz.type22 rfl)
def x23 : XT := ⟨TypeDesc.slice 29, 1, false, [.nils], 24⟩
theorem x23_ok : TyOK Tryz.prog 23 x23 := tyok Tryz.underlying23 Tryz.sizeOf23 Tryz.isAgg23 Tryz.zeroValue23 rfl rfl rfl (info_map Tryz.type23 rfl)
def x24 : XT := ⟨TypeDesc.func #[] #[4] false, 1, false, [.nilf], 8⟩
theorem x24_ok : TyOK Tryz.prog 24 x24 := tyok Tryz.underlying24 Tryz.sizeOf24 Tryz.isAgg24 Tryz.zeroValue24 rfl rfl rfl (info_map Tryz.type24 rfl)
def x25 : XT := ⟨TypeDesc.func #[23] #[4] false, 1, false, [.nilf], 8⟩
theorem x25_ok : TyOK Tryz.prog 25 x25 := tyok Tryz.underlying25 Tryz.sizeOf25 Tryz.isAgg25 Tryz.zeroValue25 rfl rfl rfl (info_map Tryz.type25 rfl)
def x26 : XT := ⟨TypeDesc.slice 85, 1, false, [.nils], 24⟩
theorem x26_ok : TyOK Tryz.prog 26 x26 := tyok Tryz.underlying26 Tryz.sizeOf26 Tryz.isAgg26 Tryz.zeroValue26 rfl rfl rfl (info_map Tryz.type26 rfl)
def x27 : XT := ⟨TypeDesc.slice 85, 1, false, [.nils], 24⟩
theorem x27_ok : TyOK Tryz.prog 27 x27 := tyok Tryz.underlying27 Tryz.sizeOf27 Tryz.isAgg27 Tryz.zeroValue27 rfl rfl rfl (info_map Tryz.type27 rfl)
def x28 : XT := ⟨TypeDesc.struct #[{ name := "Path", type := 9, offset := 0, embedded := false, tag := "", pkgPath := "", byteOffset := 0 }, { name := "Absent", type := 4, offset := 1, embedded := false, tag := "", pkgPath := "", byteOffset := 16 }, { name := "Set", type := 27, offset := 2, embedded := false, tag := "", pkgPath := "", byteOffset := 24 }], 3, true, [.str [], .bool false, .nils], 48⟩
theorem x28_ok : TyOK Tryz.prog 28 x28 := tyok Tryz.underlying28 Tryz.sizeOf28 Tryz.isAgg28 Tryz.zeroValue28 rfl rfl rfl (info_map Tryz.type28 rfl)
def x29 : XT := ⟨TypeDesc.struct #[{ name := "Path", type := 9, offset := 0, embedded := false, tag := "", pkgPath := "", byteOffset := 0 }, { name := "Absent", type := 4, offset := 1, embedded := false, tag := "", pkgPath := "", byteOffset := 16 }, { name := "Set", type := 27, offset := 2, embedded := false, tag := "", pkgPath := "", byteOffset := 24 }], 3, true, [.str [], .bool false, .nils], 48⟩
theorem x29_ok : TyOK Tryz.prog 29 x29 := tyok Tryz.underlying29 Tryz.sizeOf29 Tryz.isAgg29 Tryz.zeroValue29 rfl rfl rfl (info_map Tryz.type29 rfl)
def x30 : XT := ⟨TypeDesc.func #[29] #[9] false, 1, false, [.nilf], 8⟩
theorem x30_ok : TyOK Tryz.prog 30 x30 := tyok Tryz.underlying30 Tryz.sizeOf30 Tryz.isAgg30 Tryz.zeroValue30 rfl rfl rfl (info_map Tryz.type30 rfl)
def x31 : XT := ⟨TypeDesc.func #[23] #[9] false, 1, false, [.nilf], 8⟩
theorem x31_ok : TyOK Tryz.prog 31 x31 := tyok Tryz.underlying31 Tryz.sizeOf31 Tryz.isAgg31 Tryz.zeroValue31 rfl rfl rfl (info_map Tryz.type31 rfl)
def x32 : XT := ⟨TypeDesc.slice 73, 1, false, [.nils], 24⟩
theorem x32_ok : TyOK Tryz.prog 32 x32 := tyok Tryz.underlying32 Tryz.sizeOf32 Tryz.isAgg32 Tryz.zeroValue32 rfl rfl rfl (info_map Tryz.type32 rfl)
def x33 : XT := ⟨TypeDesc.func #[34, 34] #[4] false, 1, false, [.nilf], 8⟩
theorem x33_ok : TyOK Tryz.prog 33 x33 := tyok Tryz.underlying33 Tryz.sizeOf33 Tryz.isAgg33 Tryz.zeroValue33 rfl rfl rfl (info_map Tryz.type33 rfl)
def x34 : XT := ⟨TypeDesc.slice 3, 1, false, [.nils], 24⟩
theorem x34_ok : TyOK Tryz.prog 34 x34 := tyok Tryz.underlying34 Tryz.sizeOf34 Tryz.isAgg34 Tryz.zeroValue34 rfl rfl rfl (info_map Tryz.type34 rfl)
def x35 : XT := ⟨TypeDesc.func #[32, 3] #[34] false, 1, false, [.nilf], 8⟩
theorem x35_ok : TyOK Tryz.prog 35 x35 := tyok Tryz.underlying35 Tryz.sizeOf35 Tryz.isAgg35 Tryz.zeroValue35 rfl rfl rfl (info_map Tryz.type35 rfl)
def x36 : XT := ⟨TypeDesc.func #[32, 32] #[4] false, 1, false, [.nilf], 8⟩
theorem x36_ok : TyOK Tryz.prog 36 x36 := tyok Tryz.underlying36 Tryz.sizeOf36 Tryz.isAgg36 Tryz.zeroValue36 rfl rfl rfl (info_map Tryz.type36 rfl)
def x37 : XT := ⟨TypeDesc.func #[32, 3] #[32] false, 1, false, [.nilf], 8⟩
theorem x37_ok : TyOK Tryz.prog 37 x37 := tyok Tryz.underlying37 Tryz.sizeOf37 Tryz.isAgg37 Tryz.zeroValue37 rfl rfl rfl (info_map Tryz.type37 rfl)
def x38 : XT := ⟨TypeDesc.func #[32, 3] #[4] false, 1, false, [.nilf], 8⟩
theorem x38_ok : TyOK Tryz.prog 38 x38 := tyok Tryz.underlying38 Tryz.sizeOf38 Tryz.isAgg38 Tryz.zeroValue38 rfl rfl rfl (info_map Tryz.type38 rfl)
def x39 : XT := ⟨TypeDesc.slice 89, 1, false, [.nils], 24⟩
theorem x39_ok : TyOK Tryz.prog 39 x39 := tyok Tryz.underlying39 Tryz.sizeOf39 Tryz.isAgg39 Tryz.zeroValue39 rfl rfl rfl (info_map Tryz.type39 rfl)
def x40 : XT := ⟨TypeDesc.slice 357, 1, false, [.nils], 24⟩
theorem x40_ok : TyOK Tryz.prog 40 x40 := tyok Tryz.underlying40 Tryz.sizeOf40 Tryz.isAgg40 Tryz.zeroValue40 rfl rfl rfl (info_map Tryz.type40 rfl)
def x41 : XT := ⟨TypeDesc.struct #[{ name := "Releases", type := 39, offset := 0, embedded := false, tag := "", pkgPath := "", byteOffset := 0 }, { name := "Interfaces", type := 40, offset := 1, embedded := false, tag := "", pkgPath := "", byteOffset := 24 }], 2, true, [.nils, .nils], 48⟩
theorem x41_ok : TyOK Tryz.prog 41 x41 := tyok Tryz.underlying41 Tryz.sizeOf41 Tryz.isAgg41 Tryz.zeroValue41 rfl rfl rfl (info_map Tryz.type41 rfl)
def x42 : XT := ⟨TypeDesc.struct #[{ name := "Releases", type := 39, offset := 0, embedded := false, tag := "", pkgPath := "", byteOffset := 0 }, { name := "Interfaces", type := 40, offset := 1, embedded := false, tag := "", pkgPath := "", byteOffset := 24 }], 2, true, [.nils, .nils], 48⟩
theorem x42_ok : TyOK Tryz.prog 42 x42 := tyok Tryz.underlying42 Tryz.sizeOf42 Tryz.isAgg42 Tryz.zeroValue42 rfl rfl rfl (info_map Tryz.type42 rfl)
def x43 : XT := ⟨TypeDesc.slice 87, 1, false, [.nils], 24⟩
theorem x43_ok : TyOK Tryz.prog 43 x43 := tyok Tryz.underlying43 Tryz.sizeOf43 Tryz.isAgg43 Tryz.zeroValue43 rfl rfl rfl (info_map Tryz.type43 rfl)
def x44 : XT := ⟨TypeDesc.func #[42, 43] #[4] false, 1, false, [.nilf], 8⟩
theorem x44_ok : TyOK Tryz.prog 44 x44 := tyok Tryz.underlying44 Tryz.sizeOf44 Tryz.isAgg44 Tryz.zeroValue44 rfl rfl rfl (info_map Tryz.type44 rfl)
def x45 : XT := ⟨TypeDesc.slice 9, 1, false, [.nils], 24⟩
theorem x45_ok : TyOK Tryz.prog 45 x45 := tyok Tryz.underlying45 Tryz.sizeOf45 Tryz.isAgg45 Tryz.zeroValue45 rfl rfl rfl (info_map Tryz.type45 rfl)
def x46 : XT := ⟨TypeDesc.int IntKind.i64, 1, false, [.int .i64 0], 8⟩
theorem x46_ok : TyOK Tryz.prog 46 x46 := tyok Tryz.underlying46 Tryz.sizeOf46 Tryz.isAgg46 Tryz.zeroValue46 rfl rfl rfl (info_map Tryz.type46 rfl)
def x48 : XT := ⟨TypeDesc.func #[42, 43, 32, 3] #[45, 46] false, 1, false, [.nilf], 8⟩
theorem x48_ok : TyOK Tryz.prog 48 x48 := tyok Tryz.underlying48 Tryz.sizeOf48 Tryz.isAgg48 Tryz.zeroValue48 rfl rfl rfl (info_map Tryz.type48 rfl)
def x49 : XT := ⟨TypeDesc.func #[45, 45] #[4] false, 1, false, [.nilf], 8⟩
theorem x49_ok : TyOK Tryz.prog 49 x49 := tyok Tryz.underlying49 Tryz.sizeOf49 Tryz.isAgg49 Tryz.zeroValue49 rfl rfl rfl (info_map Tryz.type49 rfl)
def x50 : XT := ⟨TypeDesc.func #[42, 43, 32, 3] #[4] false, 1, false, [.nilf], 8⟩
theorem x50_ok : TyOK Tryz.prog 50 x50 := tyok Tryz.underlying50 Tryz.sizeOf50 Tryz.isAgg50 Tryz.zeroValue50 rfl rfl rfl (info_map Tryz.type50 rfl)
def x51 : XT := ⟨TypeDesc.int IntKind.u16, 1, false, [.int .u16 0], 2⟩
theorem x51_ok : TyOK Tryz.prog 51 x51 := tyok Tryz.underlying51 Tryz.sizeOf51 Tryz.isAgg51 Tryz.zeroValue51 rfl rfl rfl (info_map Tryz.type51 rfl)
def x52 : XT := ⟨TypeDesc.slice 23, 1, false, [.nils], 24⟩
theorem x52_ok : TyOK Tryz.prog 52 x52 := tyok Tryz.underlying52 Tryz.sizeOf52 Tryz.isAgg52 Tryz.zeroValue52 rfl rfl rfl (info_map Tryz.type52 rfl)
def x54 : XT := ⟨TypeDesc.func #[42, 43, 32] #[52, 46] false, 1, false, [.nilf], 8⟩
theorem x54_ok : TyOK Tryz.prog 54 x54 := tyok Tryz.underlying54 Tryz.sizeOf54 Tryz.isAgg54 Tryz.zeroValue54 rfl rfl rfl (info_map Tryz.type54 rfl)
def x55 : XT := ⟨TypeDesc.func #[23, 23] #[4] false, 1, false, [.nilf], 8⟩
theorem x55_ok : TyOK Tryz.prog 55 x55 := tyok Tryz.underlying55 Tryz.sizeOf55 Tryz.isAgg55 Tryz.zeroValue55 rfl rfl rfl (info_map Tryz.type55 rfl)
def x56 : XT := ⟨TypeDesc.func #[42, 43, 32] #[46] false, 1, false, [.nilf], 8⟩
theorem x56_ok : TyOK Tryz.prog 56 x56 := tyok Tryz.underlying56 Tryz.sizeOf56 Tryz.isAgg56 Tryz.zeroValue56 rfl rfl rfl (info_map Tryz.type56 rfl)
def x57 : XT := ⟨TypeDesc.func #[42, 43, 32, 51] #[4] false, 1, false, [.nilf], 8⟩
theorem x57_ok : TyOK Tryz.prog 57 x57 := tyok Tryz.underlying57 Tryz.sizeOf57 Tryz.isAgg57 Tryz.zeroValue57 rfl rfl rfl (info_map Tryz.type57 rfl)
def x59 : XT := ⟨TypeDesc.func #[23] #[23, 4] false, 1, false, [.nilf], 8⟩
theorem x59_ok : TyOK Tryz.prog 59 x59 := tyok Tryz.underlying59 Tryz.sizeOf59 Tryz.isAgg59 Tryz.zeroValue59 rfl rfl rfl (info_map Tryz.type59 rfl)
def x60 : XT := ⟨TypeDesc.func #[52] #[23] true, 1, false, [.nilf], 8⟩
theorem x60_ok : TyOK Tryz.prog 60 x60 := tyok Tryz.underlying60 Tryz.sizeOf60 Tryz.isAgg60 Tryz.zeroValue60 rfl rfl rfl (info_map Tryz.type60 rfl)
def x62 : XT := ⟨TypeDesc.func #[9] #[9, 3, 46] false, 1, false, [.nilf], 8⟩
theorem x62_ok : TyOK Tryz.prog 62 x62 := tyok Tryz.underlying62 Tryz.sizeOf62 Tryz.isAgg62 Tryz.zeroValue62 rfl rfl rfl (info_map Tryz.type62 rfl)
def x63 : XT := ⟨TypeDesc.slice 126, 1, false, [.nils], 24⟩
theorem x63_ok : TyOK Tryz.prog 63 x63 := tyok Tryz.underlying63 Tryz.sizeOf63 Tryz.isAgg63 Tryz.zeroValue63 rfl rfl rfl (info_map Tryz.type63 rfl)
def x64 : XT := ⟨TypeDesc.slice 122, 1, false, [.nils], 24⟩
theorem x64_ok : TyOK Tryz.prog 64 x64 := tyok Tryz.underlying64 Tryz.sizeOf64 Tryz.isAgg64 Tryz.zeroValue64 rfl rfl rfl (info_map Tryz.type64 rfl)
def x65 : XT := ⟨TypeDesc.struct #[{ name := "Found", type := 4, offset := 0, embedded := false, tag := "", pkgPath := "", byteOffset := 0 }, { name := "Selection", type := 63, offset := 1, embedded := false, tag := "", pkgPath := "", byteOffset := 8 }, { name := "Inferences", type := 32, offset := 2, embedded := false, tag := "", pkgPath := "", byteOffset := 32 }, { name := "Skips", type := 64, offset := 3, embedded := false, tag := "", pkgPath := "", byteOffset := 56 }], 4, true, [.bool false, .nils, .nils, .nils], 80⟩
theorem x65_ok : TyOK Tryz.prog 65 x65 := tyok Tryz.underlying65 Tryz.sizeOf65 Tryz.isAgg65 Tryz.zeroValue65 rfl rfl rfl (info_map Tryz.type65 rfl)
def x66 : XT := ⟨TypeDesc.struct #[{ name := "Found", type := 4, offset := 0, embedded := false, tag := "", pkgPath := "", byteOffset := 0 }, { name := "Selection", type := 63, offset := 1, embedded := false, tag := "", pkgPath := "", byteOffset := 8 }, { name := "Inferences", type := 32, offset := 2, embedded := false, tag := "", pkgPath := "", byteOffset := 32 }, { name := "Skips", type := 64, offset := 3, embedded := false, tag := "", pkgPath := "", byteOffset := 56 }], 4, true, [.bool false, .nils, .nils, .nils], 80⟩
theorem x66_ok : TyOK Tryz.prog 66 x66 := tyok Tryz.underlying66 Tryz.sizeOf66 Tryz.isAgg66 Tryz.zeroValue66 rfl rfl rfl (info_map Tryz.type66 rfl)
def x67 : XT := ⟨TypeDesc.func #[42, 43, 66] #[45, 46] false, 1, false, [.nilf], 8⟩
theorem x67_ok : TyOK Tryz.prog 67 x67 := tyok Tryz.underlying67 Tryz.sizeOf67 Tryz.isAgg67 Tryz.zeroValue67 rfl rfl rfl (info_map Tryz.type67 rfl)
def x68 : XT := ⟨TypeDesc.func #[42, 43, 66] #[4] false, 1, false, [.nilf], 8⟩
theorem x68_ok : TyOK Tryz.prog 68 x68 := tyok Tryz.underlying68 Tryz.sizeOf68 Tryz.isAgg68 Tryz.zeroValue68 rfl rfl rfl (info_map Tryz.type68 rfl)
def x69 : XT := ⟨TypeDesc.func #[42, 43, 66] #[46] false, 1, false, [.nilf], 8⟩
theorem x69_ok : TyOK Tryz.prog 69 x69 := tyok Tryz.underlying69 Tryz.sizeOf69 Tryz.isAgg69 Tryz.zeroValue69 rfl rfl rfl (info_map Tryz.type69 rfl)
def x70 : XT := ⟨TypeDesc.func #[9, 9] #[4] false, 1, false, [.nilf], 8⟩
theorem x70_ok : TyOK Tryz.prog 70 x70 := tyok Tryz.underlying70 Tryz.sizeOf70 Tryz.isAgg70 Tryz.zeroValue70 rfl rfl rfl (info_map Tryz.type70 rfl)
def x71 : XT := ⟨TypeDesc.func #[42, 43, 63] #[45, 46] false, 1, false, [.nilf], 8⟩
theorem x71_ok : TyOK Tryz.prog 71 x71 := tyok Tryz.underlying71 Tryz.sizeOf71 Tryz.isAgg71 Tryz.zeroValue71 rfl rfl rfl (info_map Tryz.type71 rfl)
def x72 : XT := ⟨TypeDesc.struct #[{ name := "Kind", type := 3, offset := 0, embedded := false, tag := "", pkgPath := "", byteOffset := 0 }, { name := "Path", type := 9, offset := 1, embedded := false, tag := "", pkgPath := "", byteOffset := 8 }, { name := "Place", type := 3, offset := 2, embedded := false, tag := "", pkgPath := "", byteOffset := 24 }, { name := "Number", type := 3, offset := 3, embedded := false, tag := "", pkgPath := "", byteOffset := 32 }, { name := "Left", type := 3, offset := 4, embedded := false, tag := "", pkgPath := "", byteOffset := 40 }, { name := "Right", type := 3, offset := 5, embedded := false, tag := "", pkgPath := "", byteOffset := 48 }], 6, true, [.int .i64 0, .str [], .int .i64 0, .int .i64 0, .int .i64 0, .int .i64 0], 56⟩
theorem x72_ok : TyOK Tryz.prog 72 x72 := tyok Tryz.underlying72 Tryz.sizeOf72 Tryz.isAgg72 Tryz.zeroValue72 rfl rfl rfl (info_map Tryz.type72 rfl)
def x73 : XT := ⟨TypeDesc.struct #[{ name := "Kind", type := 3, offset := 0, embedded := false, tag := "", pkgPath := "", byteOffset := 0 }, { name := "Path", type := 9, offset := 1, embedded := false, tag := "", pkgPath := "", byteOffset := 8 }, { name := "Place", type := 3, offset := 2, embedded := false, tag := "", pkgPath := "", byteOffset := 24 }, { name := "Number", type := 3, offset := 3, embedded := false, tag := "", pkgPath := "", byteOffset := 32 }, { name := "Left", type := 3, offset := 4, embedded := false, tag := "", pkgPath := "", byteOffset := 40 }, { name := "Right", type := 3, offset := 5, embedded := false, tag := "", pkgPath := "", byteOffset := 48 }], 6, true, [.int .i64 0, .str [], .int .i64 0, .int .i64 0, .int .i64 0, .int .i64 0], 56⟩
theorem x73_ok : TyOK Tryz.prog 73 x73 := tyok Tryz.underlying73 Tryz.sizeOf73 Tryz.isAgg73 Tryz.zeroValue73 rfl rfl rfl (info_map Tryz.type73 rfl)
def x74 : XT := ⟨TypeDesc.func #[3] #[9] false, 1, false, [.nilf], 8⟩
theorem x74_ok : TyOK Tryz.prog 74 x74 := tyok Tryz.underlying74 Tryz.sizeOf74 Tryz.isAgg74 Tryz.zeroValue74 rfl rfl rfl (info_map Tryz.type74 rfl)
def x75 : XT := ⟨TypeDesc.func #[9, 9] #[3] false, 1, false, [.nilf], 8⟩
theorem x75_ok : TyOK Tryz.prog 75 x75 := tyok Tryz.underlying75 Tryz.sizeOf75 Tryz.isAgg75 Tryz.zeroValue75 rfl rfl rfl (info_map Tryz.type75 rfl)
def x77 : XT := ⟨TypeDesc.func #[9, 9] #[9, 9, 4] false, 1, false, [.nilf], 8⟩
theorem x77_ok : TyOK Tryz.prog 77 x77 := tyok Tryz.underlying77 Tryz.sizeOf77 Tryz.isAgg77 Tryz.zeroValue77 rfl rfl rfl (info_map Tryz.type77 rfl)
def x78 : XT := ⟨TypeDesc.interface #[("Error", 148)], 1, false, [.nili], 16⟩
theorem x78_ok : TyOK Tryz.prog 78 x78 := tyok Tryz.underlying78 Tryz.sizeOf78 Tryz.isAgg78 Tryz.zeroValue78 rfl rfl rfl (info_map Tryz.type78 rfl)
def x79 : XT := ⟨TypeDesc.interface #[("Error", 148)], 1, false, [.nili], 16⟩
theorem x79_ok : TyOK Tryz.prog 79 x79 := tyok Tryz.underlying79 Tryz.sizeOf79 Tryz.isAgg79 Tryz.zeroValue79 rfl rfl rfl (info_map Tryz.type79 rfl)
def x81 : XT := ⟨TypeDesc.func #[9] #[3, 79] false, 1, false, [.nilf], 8⟩
theorem x81_ok : TyOK Tryz.prog 81 x81 := tyok Tryz.underlying81 Tryz.sizeOf81 Tryz.isAgg81 Tryz.zeroValue81 rfl rfl rfl (info_map Tryz.type81 rfl)
def x82 : XT := ⟨TypeDesc.struct #[{ name := "Major", type := 3, offset := 0, embedded := false, tag := "", pkgPath := "", byteOffset := 0 }, { name := "Minor", type := 3, offset := 1, embedded := false, tag := "", pkgPath := "", byteOffset := 8 }, { name := "Patch", type := 3, offset := 2, embedded := false, tag := "", pkgPath := "", byteOffset := 16 }], 3, true, [.int .i64 0, .int .i64 0, .int .i64 0], 24⟩
theorem x82_ok : TyOK Tryz.prog 82 x82 := tyok Tryz.underlying82 Tryz.sizeOf82 Tryz.isAgg82 Tryz.zeroValue82 rfl rfl rfl (info_map Tryz.type82 rfl)
def x83 : XT := ⟨TypeDesc.struct #[{ name := "Major", type := 3, offset := 0, embedded := false, tag := "", pkgPath := "", byteOffset := 0 }, { name := "Minor", type := 3, offset := 1, embedded := false, tag := "", pkgPath := "", byteOffset := 8 }, { name := "Patch", type := 3, offset := 2, embedded := false, tag := "", pkgPath := "", byteOffset := 16 }], 3, true, [.int .i64 0, .int .i64 0, .int .i64 0], 24⟩
theorem x83_ok : TyOK Tryz.prog 83 x83 := tyok Tryz.underlying83 Tryz.sizeOf83 Tryz.isAgg83 Tryz.zeroValue83 rfl rfl rfl (info_map Tryz.type83 rfl)
def x84 : XT := ⟨TypeDesc.struct #[{ name := "From", type := 3, offset := 0, embedded := false, tag := "", pkgPath := "", byteOffset := 0 }, { name := "To", type := 3, offset := 1, embedded := false, tag := "", pkgPath := "", byteOffset := 8 }], 2, true, [.int .i64 0, .int .i64 0], 16⟩
theorem x84_ok : TyOK Tryz.prog 84 x84 := tyok Tryz.underlying84 Tryz.sizeOf84 Tryz.isAgg84 Tryz.zeroValue84 rfl rfl rfl (info_map Tryz.type84 rfl)
def x85 : XT := ⟨TypeDesc.struct #[{ name := "From", type := 3, offset := 0, embedded := false, tag := "", pkgPath := "", byteOffset := 0 }, { name := "To", type := 3, offset := 1, embedded := false, tag := "", pkgPath := "", byteOffset := 8 }], 2, true, [.int .i64 0, .int .i64 0], 16⟩
theorem x85_ok : TyOK Tryz.prog 85 x85 := tyok Tryz.underlying85 Tryz.sizeOf85 Tryz.isAgg85 Tryz.zeroValue85 rfl rfl rfl (info_map Tryz.type85 rfl)
def x86 : XT := ⟨TypeDesc.struct #[{ name := "Path", type := 9, offset := 0, embedded := false, tag := "", pkgPath := "", byteOffset := 0 }, { name := "Set", type := 27, offset := 1, embedded := false, tag := "", pkgPath := "", byteOffset := 16 }], 2, true, [.str [], .nils], 40⟩
theorem x86_ok : TyOK Tryz.prog 86 x86 := tyok Tryz.underlying86 Tryz.sizeOf86 Tryz.isAgg86 Tryz.zeroValue86 rfl rfl rfl (info_map Tryz.type86 rfl)
def x87 : XT := ⟨TypeDesc.struct #[{ name := "Path", type := 9, offset := 0, embedded := false, tag := "", pkgPath := "", byteOffset := 0 }, { name := "Set", type := 27, offset := 1, embedded := false, tag := "", pkgPath := "", byteOffset := 16 }], 2, true, [.str [], .nils], 40⟩
theorem x87_ok : TyOK Tryz.prog 87 x87 := tyok Tryz.underlying87 Tryz.sizeOf87 Tryz.isAgg87 Tryz.zeroValue87 rfl rfl rfl (info_map Tryz.type87 rfl)
def x88 : XT := ⟨TypeDesc.struct #[{ name := "Path", type := 9, offset := 0, embedded := false, tag := "", pkgPath := "", byteOffset := 0 }, { name := "Version", type := 83, offset := 1, embedded := false, tag := "", pkgPath := "", byteOffset := 16 }, { name := "Requirements", type := 43, offset := 4, embedded := false, tag := "", pkgPath := "", byteOffset := 40 }, { name := "Archive", type := 9, offset := 5, embedded := false, tag := "", pkgPath := "", byteOffset := 64 }, { name := "Interface", type := 9, offset := 6, embedded := false, tag := "", pkgPath := "", byteOffset := 80 }, { name := "Certificate", type := 9, offset := 7, embedded := false, tag := "", pkgPath := "", byteOffset := 96 }, { name := "Yanked", type := 4, offset := 8, embedded := false, tag := "", pkgPath := "", byteOffset := 112 }], 9, true, [.str [], .int .i64 0, .int .i64 0, .int .i64 0, .nils, .str [], .str [], .str [], .bool false], 120⟩
theorem x88_ok : TyOK Tryz.prog 88 x88 := tyok Tryz.underlying88 Tryz.sizeOf88 Tryz.isAgg88 Tryz.zeroValue88 rfl rfl rfl (info_map Tryz.type88 rfl)
def x89 : XT := ⟨TypeDesc.struct #[{ name := "Path", type := 9, offset := 0, embedded := false, tag := "", pkgPath := "", byteOffset := 0 }, { name := "Version", type := 83, offset := 1, embedded := false, tag := "", pkgPath := "", byteOffset := 16 }, { name := "Requirements", type := 43, offset := 4, embedded := false, tag := "", pkgPath := "", byteOffset := 40 }, { name := "Archive", type := 9, offset := 5, embedded := false, tag := "", pkgPath := "", byteOffset := 64 }, { name := "Interface", type := 9, offset := 6, embedded := false, tag := "", pkgPath := "", byteOffset := 80 }, { name := "Certificate", type := 9, offset := 7, embedded := false, tag := "", pkgPath := "", byteOffset := 96 }, { name := "Yanked", type := 4, offset := 8, embedded := false, tag := "", pkgPath := "", byteOffset := 112 }], 9, true, [.str [], .int .i64 0, .int .i64 0, .int .i64 0, .nils, .str [], .str [], .str [], .bool false], 120⟩
theorem x89_ok : TyOK Tryz.prog 89 x89 := tyok Tryz.underlying89 Tryz.sizeOf89 Tryz.isAgg89 Tryz.zeroValue89 rfl rfl rfl (info_map Tryz.type89 rfl)
def x90 : XT := ⟨TypeDesc.func #[45] #[9] true, 1, false, [.nilf], 8⟩
theorem x90_ok : TyOK Tryz.prog 90 x90 := tyok Tryz.underlying90 Tryz.sizeOf90 Tryz.isAgg90 Tryz.zeroValue90 rfl rfl rfl (info_map Tryz.type90 rfl)
def x91 : XT := ⟨TypeDesc.func #[9, 27] #[9] false, 1, false, [.nilf], 8⟩
theorem x91_ok : TyOK Tryz.prog 91 x91 := tyok Tryz.underlying91 Tryz.sizeOf91 Tryz.isAgg91 Tryz.zeroValue91 rfl rfl rfl (info_map Tryz.type91 rfl)
def x92 : XT := ⟨TypeDesc.func #[27] #[27] false, 1, false, [.nilf], 8⟩
theorem x92_ok : TyOK Tryz.prog 92 x92 := tyok Tryz.underlying92 Tryz.sizeOf92 Tryz.isAgg92 Tryz.zeroValue92 rfl rfl rfl (info_map Tryz.type92 rfl)
def x93 : XT := ⟨TypeDesc.func #[45, 9] #[9] false, 1, false, [.nilf], 8⟩
theorem x93_ok : TyOK Tryz.prog 93 x93 := tyok Tryz.underlying93 Tryz.sizeOf93 Tryz.isAgg93 Tryz.zeroValue93 rfl rfl rfl (info_map Tryz.type93 rfl)
def x94 : XT := ⟨TypeDesc.slice 4, 1, false, [.nils], 24⟩
theorem x94_ok : TyOK Tryz.prog 94 x94 := tyok Tryz.underlying94 Tryz.sizeOf94 Tryz.isAgg94 Tryz.zeroValue94 rfl rfl rfl (info_map Tryz.type94 rfl)
def x96 : XT := ⟨TypeDesc.func #[32, 3] #[94, 4] false, 1, false, [.nilf], 8⟩
theorem x96_ok : TyOK Tryz.prog 96 x96 := tyok Tryz.underlying96 Tryz.sizeOf96 Tryz.isAgg96 Tryz.zeroValue96 rfl rfl rfl (info_map Tryz.type96 rfl)
def x97 : XT := ⟨TypeDesc.func #[34, 3] #[3] false, 1, false, [.nilf], 8⟩
theorem x97_ok : TyOK Tryz.prog 97 x97 := tyok Tryz.underlying97 Tryz.sizeOf97 Tryz.isAgg97 Tryz.zeroValue97 rfl rfl rfl (info_map Tryz.type97 rfl)
def x98 : XT := ⟨TypeDesc.func #[3] #[3] false, 1, false, [.nilf], 8⟩
theorem x98_ok : TyOK Tryz.prog 98 x98 := tyok Tryz.underlying98 Tryz.sizeOf98 Tryz.isAgg98 Tryz.zeroValue98 rfl rfl rfl (info_map Tryz.type98 rfl)
def x99 : XT := ⟨TypeDesc.func #[39, 3] #[4] false, 1, false, [.nilf], 8⟩
theorem x99_ok : TyOK Tryz.prog 99 x99 := tyok Tryz.underlying99 Tryz.sizeOf99 Tryz.isAgg99 Tryz.zeroValue99 rfl rfl rfl (info_map Tryz.type99 rfl)
def x100 : XT := ⟨TypeDesc.func #[43] #[4] false, 1, false, [.nilf], 8⟩
theorem x100_ok : TyOK Tryz.prog 100 x100 := tyok Tryz.underlying100 Tryz.sizeOf100 Tryz.isAgg100 Tryz.zeroValue100 rfl rfl rfl (info_map Tryz.type100 rfl)
def x101 : XT := ⟨TypeDesc.func #[120] #[] false, 1, false, [.nilf], 8⟩
theorem x101_ok : TyOK Tryz.prog 101 x101 := tyok Tryz.underlying101 Tryz.sizeOf101 Tryz.isAgg101 Tryz.zeroValue101 rfl rfl rfl (info_map Tryz.type101 rfl)
def x102 : XT := ⟨TypeDesc.func #[120] #[] false, 1, false, [.nilf], 8⟩
theorem x102_ok : TyOK Tryz.prog 102 x102 := tyok Tryz.underlying102 Tryz.sizeOf102 Tryz.isAgg102 Tryz.zeroValue102 rfl rfl rfl (info_map Tryz.type102 rfl)
def x103 : XT := ⟨TypeDesc.func #[32, 52] #[102] false, 1, false, [.nilf], 8⟩
theorem x103_ok : TyOK Tryz.prog 103 x103 := tyok Tryz.underlying103 Tryz.sizeOf103 Tryz.isAgg103 Tryz.zeroValue103 rfl rfl rfl (info_map Tryz.type103 rfl)
def x104 : XT := ⟨TypeDesc.func #[73] #[9] false, 1, false, [.nilf], 8⟩
theorem x104_ok : TyOK Tryz.prog 104 x104 := tyok Tryz.underlying104 Tryz.sizeOf104 Tryz.isAgg104 Tryz.zeroValue104 rfl rfl rfl (info_map Tryz.type104 rfl)
def x105 : XT := ⟨TypeDesc.pointer 109, 1, false, [.nilp], 8⟩
theorem x105_ok : TyOK Tryz.prog 105 x105 := tyok Tryz.underlying105 Tryz.sizeOf105 Tryz.isAgg105 Tryz.zeroValue105 rfl rfl rfl (info_map Tryz.type105 rfl)
def x107 : XT := ⟨TypeDesc.func #[42, 43, 32] #[105, 46] false, 1, false, [.nilf], 8⟩
theorem x107_ok : TyOK Tryz.prog 107 x107 := tyok Tryz.underlying107 Tryz.sizeOf107 Tryz.isAgg107 Tryz.zeroValue107 rfl rfl rfl (info_map Tryz.type107 rfl)
def x108 : XT := ⟨TypeDesc.struct #[{ name := "index", type := 42, offset := 0, embedded := false, tag := "", pkgPath := "modcert/proof", byteOffset := 0 }, { name := "roots", type := 43, offset := 2, embedded := false, tag := "", pkgPath := "modcert/proof", byteOffset := 48 }, { name := "derived", type := 52, offset := 3, embedded := false, tag := "", pkgPath := "modcert/proof", byteOffset := 72 }], 4, true, [.nils, .nils, .nils, .nils], 96⟩
theorem x108_ok : TyOK Tryz.prog 108 x108 := tyok Tryz.underlying108 Tryz.sizeOf108 Tryz.isAgg108 Tryz.zeroValue108 rfl rfl rfl (info_map Tryz.type108 rfl)
def x109 : XT := ⟨TypeDesc.struct #[{ name := "index", type := 42, offset := 0, embedded := false, tag := "", pkgPath := "modcert/proof", byteOffset := 0 }, { name := "roots", type := 43, offset := 2, embedded := false, tag := "", pkgPath := "modcert/proof", byteOffset := 48 }, { name := "derived", type := 52, offset := 3, embedded := false, tag := "", pkgPath := "modcert/proof", byteOffset := 72 }], 4, true, [.nils, .nils, .nils, .nils], 96⟩
theorem x109_ok : TyOK Tryz.prog 109 x109 := tyok Tryz.underlying109 Tryz.sizeOf109 Tryz.isAgg109 Tryz.zeroValue109 rfl rfl rfl (info_map Tryz.type109 rfl)
def x110 : XT := ⟨TypeDesc.func #[27, 27] #[4] false, 1, false, [.nilf], 8⟩
theorem x110_ok : TyOK Tryz.prog 110 x110 := tyok Tryz.underlying110 Tryz.sizeOf110 Tryz.isAgg110 Tryz.zeroValue110 rfl rfl rfl (info_map Tryz.type110 rfl)
def x111 : XT := ⟨TypeDesc.map 9 29, 1, false, [.nilm], 8⟩
theorem x111_ok : TyOK Tryz.prog 111 x111 := tyok Tryz.underlying111 Tryz.sizeOf111 Tryz.isAgg111 Tryz.zeroValue111 rfl rfl rfl (info_map Tryz.type111 rfl)
def x112 : XT := ⟨TypeDesc.func #[22, 113] #[111] false, 1, false, [.nilf], 8⟩
theorem x112_ok : TyOK Tryz.prog 112 x112 := tyok Tryz.underlying112 Tryz.sizeOf112 Tryz.isAgg112 Tryz.zeroValue112 rfl rfl rfl (info_map Tryz.type112 rfl)
def x113 : XT := ⟨TypeDesc.func #[29, 29] #[29] false, 1, false, [.nilf], 8⟩
theorem x113_ok : TyOK Tryz.prog 113 x113 := tyok Tryz.underlying113 Tryz.sizeOf113 Tryz.isAgg113 Tryz.zeroValue113 rfl rfl rfl (info_map Tryz.type113 rfl)
def x114 : XT := ⟨TypeDesc.func #[29] #[4] false, 1, false, [.nilf], 8⟩
theorem x114_ok : TyOK Tryz.prog 114 x114 := tyok Tryz.underlying114 Tryz.sizeOf114 Tryz.isAgg114 Tryz.zeroValue114 rfl rfl rfl (info_map Tryz.type114 rfl)
def x115 : XT := ⟨TypeDesc.func #[23, 116] #[] false, 1, false, [.nilf], 8⟩
theorem x115_ok : TyOK Tryz.prog 115 x115 := tyok Tryz.underlying115 Tryz.sizeOf115 Tryz.isAgg115 Tryz.zeroValue115 rfl rfl rfl (info_map Tryz.type115 rfl)
def x116 : XT := ⟨TypeDesc.func #[29, 29] #[3] false, 1, false, [.nilf], 8⟩
theorem x116_ok : TyOK Tryz.prog 116 x116 := tyok Tryz.underlying116 Tryz.sizeOf116 Tryz.isAgg116 Tryz.zeroValue116 rfl rfl rfl (info_map Tryz.type116 rfl)
def x117 : XT := ⟨TypeDesc.func #[23, 3] #[23] false, 1, false, [.nilf], 8⟩
theorem x117_ok : TyOK Tryz.prog 117 x117 := tyok Tryz.underlying117 Tryz.sizeOf117 Tryz.isAgg117 Tryz.zeroValue117 rfl rfl rfl (info_map Tryz.type117 rfl)
def x119 : XT := ⟨TypeDesc.func #[9] #[3, 46] false, 1, false, [.nilf], 8⟩
theorem x119_ok : TyOK Tryz.prog 119 x119 := tyok Tryz.underlying119 Tryz.sizeOf119 Tryz.isAgg119 Tryz.zeroValue119 rfl rfl rfl (info_map Tryz.type119 rfl)
def x120 : XT := ⟨TypeDesc.func #[9] #[4] false, 1, false, [.nilf], 8⟩
theorem x120_ok : TyOK Tryz.prog 120 x120 := tyok Tryz.underlying120 Tryz.sizeOf120 Tryz.isAgg120 Tryz.zeroValue120 rfl rfl rfl (info_map Tryz.type120 rfl)
def x121 : XT := ⟨TypeDesc.struct #[{ name := "Path", type := 9, offset := 0, embedded := false, tag := "", pkgPath := "", byteOffset := 0 }, { name := "Place", type := 3, offset := 1, embedded := false, tag := "", pkgPath := "", byteOffset := 16 }, { name := "Inference", type := 3, offset := 2, embedded := false, tag := "", pkgPath := "", byteOffset := 24 }], 3, true, [.str [], .int .i64 0, .int .i64 0], 32⟩
theorem x121_ok : TyOK Tryz.prog 121 x121 := tyok Tryz.underlying121 Tryz.sizeOf121 Tryz.isAgg121 Tryz.zeroValue121 rfl rfl rfl (info_map Tryz.type121 rfl)
def x122 : XT := ⟨TypeDesc.struct #[{ name := "Path", type := 9, offset := 0, embedded := false, tag := "", pkgPath := "", byteOffset := 0 }, { name := "Place", type := 3, offset := 1, embedded := false, tag := "", pkgPath := "", byteOffset := 16 }, { name := "Inference", type := 3, offset := 2, embedded := false, tag := "", pkgPath := "", byteOffset := 24 }], 3, true, [.str [], .int .i64 0, .int .i64 0], 32⟩
theorem x122_ok : TyOK Tryz.prog 122 x122 := tyok Tryz.underlying122 Tryz.sizeOf122 Tryz.isAgg122 Tryz.zeroValue122 rfl rfl rfl (info_map Tryz.type122 rfl)
def x123 : XT := ⟨TypeDesc.func #[9, 3] #[9] false, 1, false, [.nilf], 8⟩
theorem x123_ok : TyOK Tryz.prog 123 x123 := tyok Tryz.underlying123 Tryz.sizeOf123 Tryz.isAgg123 Tryz.zeroValue123 rfl rfl rfl (info_map Tryz.type123 rfl)
def x124 : XT := ⟨TypeDesc.func #[63, 127] #[3] false, 1, false, [.nilf], 8⟩
theorem x124_ok : TyOK Tryz.prog 124 x124 := tyok Tryz.underlying124 Tryz.sizeOf124 Tryz.isAgg124 Tryz.zeroValue124 rfl rfl rfl (info_map Tryz.type124 rfl)
def x125 : XT := ⟨TypeDesc.struct #[{ name := "Path", type := 9, offset := 0, embedded := false, tag := "", pkgPath := "", byteOffset := 0 }, { name := "Version", type := 83, offset := 1, embedded := false, tag := "", pkgPath := "", byteOffset := 16 }], 4, true, [.str [], .int .i64 0, .int .i64 0, .int .i64 0], 40⟩
theorem x125_ok : TyOK Tryz.prog 125 x125 := tyok Tryz.underlying125 Tryz.sizeOf125 Tryz.isAgg125 Tryz.zeroValue125 rfl rfl rfl (info_map Tryz.type125 rfl)
def x126 : XT := ⟨TypeDesc.struct #[{ name := "Path", type := 9, offset := 0, embedded := false, tag := "", pkgPath := "", byteOffset := 0 }, { name := "Version", type := 83, offset := 1, embedded := false, tag := "", pkgPath := "", byteOffset := 16 }], 4, true, [.str [], .int .i64 0, .int .i64 0, .int .i64 0], 40⟩
theorem x126_ok : TyOK Tryz.prog 126 x126 := tyok Tryz.underlying126 Tryz.sizeOf126 Tryz.isAgg126 Tryz.zeroValue126 rfl rfl rfl (info_map Tryz.type126 rfl)
def x127 : XT := ⟨TypeDesc.func #[126] #[4] false, 1, false, [.nilf], 8⟩
theorem x127_ok : TyOK Tryz.prog 127 x127 := tyok Tryz.underlying127 Tryz.sizeOf127 Tryz.isAgg127 Tryz.zeroValue127 rfl rfl rfl (info_map Tryz.type127 rfl)
def x129 : XT := ⟨TypeDesc.func #[83] #[9, 46] false, 1, false, [.nilf], 8⟩
theorem x129_ok : TyOK Tryz.prog 129 x129 := tyok Tryz.underlying129 Tryz.sizeOf129 Tryz.isAgg129 Tryz.zeroValue129 rfl rfl rfl (info_map Tryz.type129 rfl)
def x130 : XT := ⟨TypeDesc.func #[83] #[3] false, 1, false, [.nilf], 8⟩
theorem x130_ok : TyOK Tryz.prog 130 x130 := tyok Tryz.underlying130 Tryz.sizeOf130 Tryz.isAgg130 Tryz.zeroValue130 rfl rfl rfl (info_map Tryz.type130 rfl)
def x131 : XT := ⟨TypeDesc.func #[42, 43, 63] #[46] false, 1, false, [.nilf], 8⟩
theorem x131_ok : TyOK Tryz.prog 131 x131 := tyok Tryz.underlying131 Tryz.sizeOf131 Tryz.isAgg131 Tryz.zeroValue131 rfl rfl rfl (info_map Tryz.type131 rfl)
def x132 : XT := ⟨TypeDesc.func #[63, 135] #[4] false, 1, false, [.nilf], 8⟩
theorem x132_ok : TyOK Tryz.prog 132 x132 := tyok Tryz.underlying132 Tryz.sizeOf132 Tryz.isAgg132 Tryz.zeroValue132 rfl rfl rfl (info_map Tryz.type132 rfl)
def x134 : XT := ⟨TypeDesc.func #[64, 63, 43, 89] #[64, 4] false, 1, false, [.nilf], 8⟩
theorem x134_ok : TyOK Tryz.prog 134 x134 := tyok Tryz.underlying134 Tryz.sizeOf134 Tryz.isAgg134 Tryz.zeroValue134 rfl rfl rfl (info_map Tryz.type134 rfl)
def x135 : XT := ⟨TypeDesc.func #[63, 43, 89] #[] false, 1, false, [.nilf], 8⟩
theorem x135_ok : TyOK Tryz.prog 135 x135 := tyok Tryz.underlying135 Tryz.sizeOf135 Tryz.isAgg135 Tryz.zeroValue135 rfl rfl rfl (info_map Tryz.type135 rfl)
def x136 : XT := ⟨TypeDesc.func #[63] #[4] false, 1, false, [.nilf], 8⟩
theorem x136_ok : TyOK Tryz.prog 136 x136 := tyok Tryz.underlying136 Tryz.sizeOf136 Tryz.isAgg136 Tryz.zeroValue136 rfl rfl rfl (info_map Tryz.type136 rfl)
def x137 : XT := ⟨TypeDesc.func #[9, 5] #[3] false, 1, false, [.nilf], 8⟩
theorem x137_ok : TyOK Tryz.prog 137 x137 := tyok Tryz.underlying137 Tryz.sizeOf137 Tryz.isAgg137 Tryz.zeroValue137 rfl rfl rfl (info_map Tryz.type137 rfl)
def x138 : XT := ⟨TypeDesc.func #[9, 9, 3, 3, 79] #[79] false, 1, false, [.nilf], 8⟩
theorem x138_ok : TyOK Tryz.prog 138 x138 := tyok Tryz.underlying138 Tryz.sizeOf138 Tryz.isAgg138 Tryz.zeroValue138 rfl rfl rfl (info_map Tryz.type138 rfl)
def x139 : XT := ⟨TypeDesc.func #[27, 3] #[9, 46] false, 1, false, [.nilf], 8⟩
theorem x139_ok : TyOK Tryz.prog 139 x139 := tyok Tryz.underlying139 Tryz.sizeOf139 Tryz.isAgg139 Tryz.zeroValue139 rfl rfl rfl (info_map Tryz.type139 rfl)
def x140 : XT := ⟨TypeDesc.func #[9] #[3] false, 1, false, [.nilf], 8⟩
theorem x140_ok : TyOK Tryz.prog 140 x140 := tyok Tryz.underlying140 Tryz.sizeOf140 Tryz.isAgg140 Tryz.zeroValue140 rfl rfl rfl (info_map Tryz.type140 rfl)
def x141 : XT := ⟨TypeDesc.func #[142, 150] #[27] true, 1, false, [.nilf], 8⟩
theorem x141_ok : TyOK Tryz.prog 141 x141 := tyok Tryz.underlying141 Tryz.sizeOf141 Tryz.isAgg141 Tryz.zeroValue141 rfl rfl rfl (info_map Tryz.type141 rfl)
def x142 : XT := ⟨TypeDesc.func #[3] #[4] false, 1, false, [.nilf], 8⟩
theorem x142_ok : TyOK Tryz.prog 142 x142 := tyok Tryz.underlying142 Tryz.sizeOf142 Tryz.isAgg142 Tryz.zeroValue142 rfl rfl rfl (info_map Tryz.type142 rfl)
def x143 : XT := ⟨TypeDesc.pointer 146, 1, false, [.nilp], 8⟩
theorem x143_ok : TyOK Tryz.prog 143 x143 := tyok Tryz.underlying143 Tryz.sizeOf143 Tryz.isAgg143 Tryz.zeroValue143 rfl rfl rfl (info_map Tryz.type143 rfl)
def x144 : XT := ⟨TypeDesc.slice 5, 1, false, [.nils], 24⟩
theorem x144_ok : TyOK Tryz.prog 144 x144 := tyok Tryz.underlying144 Tryz.sizeOf144 Tryz.isAgg144 Tryz.zeroValue144 rfl rfl rfl (info_map Tryz.type144 rfl)
def x145 : XT := ⟨TypeDesc.struct #[{ name := "addr", type := 143, offset := 0, embedded := false, tag := "", pkgPath := "strings", byteOffset := 0 }, { name := "buf", type := 144, offset := 1, embedded := false, tag := "", pkgPath := "strings", byteOffset := 8 }], 2, true, [.nilp, .nils], 32⟩
theorem x145_ok : TyOK Tryz.prog 145 x145 := tyok Tryz.underlying145 Tryz.sizeOf145 Tryz.isAgg145 Tryz.zeroValue145 rfl rfl rfl (info_map Tryz.type145 rfl)
def x146 : XT := ⟨TypeDesc.struct #[{ name := "addr", type := 143, offset := 0, embedded := false, tag := "", pkgPath := "strings", byteOffset := 0 }, { name := "buf", type := 144, offset := 1, embedded := false, tag := "", pkgPath := "strings", byteOffset := 8 }], 2, true, [.nilp, .nils], 32⟩
theorem x146_ok : TyOK Tryz.prog 146 x146 := tyok Tryz.underlying146 Tryz.sizeOf146 Tryz.isAgg146 Tryz.zeroValue146 rfl rfl rfl (info_map Tryz.type146 rfl)
def x147 : XT := ⟨TypeDesc.func #[3] #[] false, 1, false, [.nilf], 8⟩
theorem x147_ok : TyOK Tryz.prog 147 x147 := tyok Tryz.underlying147 Tryz.sizeOf147 Tryz.isAgg147 Tryz.zeroValue147 rfl rfl rfl (info_map Tryz.type147 rfl)
def x148 : XT := ⟨TypeDesc.func #[] #[9] false, 1, false, [.nilf], 8⟩
theorem x148_ok : TyOK Tryz.prog 148 x148 := tyok Tryz.underlying148 Tryz.sizeOf148 Tryz.isAgg148 Tryz.zeroValue148 rfl rfl rfl (info_map Tryz.type148 rfl)
def x149 : XT := ⟨TypeDesc.func #[150] #[27] false, 1, false, [.nilf], 8⟩
theorem x149_ok : TyOK Tryz.prog 149 x149 := tyok Tryz.underlying149 Tryz.sizeOf149 Tryz.isAgg149 Tryz.zeroValue149 rfl rfl rfl (info_map Tryz.type149 rfl)
def x150 : XT := ⟨TypeDesc.slice 27, 1, false, [.nils], 24⟩
theorem x150_ok : TyOK Tryz.prog 150 x150 := tyok Tryz.underlying150 Tryz.sizeOf150 Tryz.isAgg150 Tryz.zeroValue150 rfl rfl rfl (info_map Tryz.type150 rfl)
def x151 : XT := ⟨TypeDesc.func #[42, 43, 73, 52] #[23, 4] false, 1, false, [.nilf], 8⟩
theorem x151_ok : TyOK Tryz.prog 151 x151 := tyok Tryz.underlying151 Tryz.sizeOf151 Tryz.isAgg151 Tryz.zeroValue151 rfl rfl rfl (info_map Tryz.type151 rfl)
def x152 : XT := ⟨TypeDesc.func #[42] #[46] false, 1, false, [.nilf], 8⟩
theorem x152_ok : TyOK Tryz.prog 152 x152 := tyok Tryz.underlying152 Tryz.sizeOf152 Tryz.isAgg152 Tryz.zeroValue152 rfl rfl rfl (info_map Tryz.type152 rfl)
def x153 : XT := ⟨TypeDesc.func #[43] #[46] false, 1, false, [.nilf], 8⟩
theorem x153_ok : TyOK Tryz.prog 153 x153 := tyok Tryz.underlying153 Tryz.sizeOf153 Tryz.isAgg153 Tryz.zeroValue153 rfl rfl rfl (info_map Tryz.type153 rfl)
def x154 : XT := ⟨TypeDesc.func #[73] #[4] false, 1, false, [.nilf], 8⟩
theorem x154_ok : TyOK Tryz.prog 154 x154 := tyok Tryz.underlying154 Tryz.sizeOf154 Tryz.isAgg154 Tryz.zeroValue154 rfl rfl rfl (info_map Tryz.type154 rfl)
def x156 : XT := ⟨TypeDesc.func #[150] #[27] true, 1, false, [.nilf], 8⟩
theorem x156_ok : TyOK Tryz.prog 156 x156 := tyok Tryz.underlying156 Tryz.sizeOf156 Tryz.isAgg156 Tryz.zeroValue156 rfl rfl rfl (info_map Tryz.type156 rfl)
def x157 : XT := ⟨TypeDesc.func #[22, 3, 3, 3, 116] #[] false, 1, false, [.nilf], 8⟩
theorem x157_ok : TyOK Tryz.prog 157 x157 := tyok Tryz.underlying157 Tryz.sizeOf157 Tryz.isAgg157 Tryz.zeroValue157 rfl rfl rfl (info_map Tryz.type157 rfl)
def x158 : XT := ⟨TypeDesc.func #[159] #[3] false, 1, false, [.nilf], 8⟩
theorem x158_ok : TyOK Tryz.prog 158 x158 := tyok Tryz.underlying158 Tryz.sizeOf158 Tryz.isAgg158 Tryz.zeroValue158 rfl rfl rfl (info_map Tryz.type158 rfl)
def x159 : XT := ⟨TypeDesc.int IntKind.u64, 1, false, [.int .u64 0], 8⟩
theorem x159_ok : TyOK Tryz.prog 159 x159 := tyok Tryz.underlying159 Tryz.sizeOf159 Tryz.isAgg159 Tryz.zeroValue159 rfl rfl rfl (info_map Tryz.type159 rfl)
def x160 : XT := ⟨TypeDesc.func #[9, 9] #[45] false, 1, false, [.nilf], 8⟩
theorem x160_ok : TyOK Tryz.prog 160 x160 := tyok Tryz.underlying160 Tryz.sizeOf160 Tryz.isAgg160 Tryz.zeroValue160 rfl rfl rfl (info_map Tryz.type160 rfl)
def x162 : XT := ⟨TypeDesc.func #[9] #[3, 4] false, 1, false, [.nilf], 8⟩
theorem x162_ok : TyOK Tryz.prog 162 x162 := tyok Tryz.underlying162 Tryz.sizeOf162 Tryz.isAgg162 Tryz.zeroValue162 rfl rfl rfl (info_map Tryz.type162 rfl)
def x163 : XT := ⟨TypeDesc.func #[9, 164] #[4] false, 1, false, [.nilf], 8⟩
theorem x163_ok : TyOK Tryz.prog 163 x163 := tyok Tryz.underlying163 Tryz.sizeOf163 Tryz.isAgg163 Tryz.zeroValue163 rfl rfl rfl (info_map Tryz.type163 rfl)
def x164 : XT := ⟨TypeDesc.func #[5] #[4] false, 1, false, [.nilf], 8⟩
theorem x164_ok : TyOK Tryz.prog 164 x164 := tyok Tryz.underlying164 Tryz.sizeOf164 Tryz.isAgg164 Tryz.zeroValue164 rfl rfl rfl (info_map Tryz.type164 rfl)
def x166 : XT := ⟨TypeDesc.func #[3, 3] #[83, 46] false, 1, false, [.nilf], 8⟩
theorem x166_ok : TyOK Tryz.prog 166 x166 := tyok Tryz.underlying166 Tryz.sizeOf166 Tryz.isAgg166 Tryz.zeroValue166 rfl rfl rfl (info_map Tryz.type166 rfl)
def x167 : XT := ⟨TypeDesc.func #[83] #[4] false, 1, false, [.nilf], 8⟩
theorem x167_ok : TyOK Tryz.prog 167 x167 := tyok Tryz.underlying167 Tryz.sizeOf167 Tryz.isAgg167 Tryz.zeroValue167 rfl rfl rfl (info_map Tryz.type167 rfl)
def x168 : XT := ⟨TypeDesc.array 3 3, 3, true, [.int .i64 0, .int .i64 0, .int .i64 0], 24⟩
theorem x168_ok : TyOK Tryz.prog 168 x168 := tyok Tryz.underlying168 Tryz.sizeOf168 Tryz.isAgg168 Tryz.zeroValue168 rfl rfl rfl (info_map Tryz.type168 rfl)
def x169 : XT := ⟨TypeDesc.func #[83] #[168] false, 1, false, [.nilf], 8⟩
theorem x169_ok : TyOK Tryz.prog 169 x169 := tyok Tryz.underlying169 Tryz.sizeOf169 Tryz.isAgg169 Tryz.zeroValue169 rfl rfl rfl (info_map Tryz.type169 rfl)
def x170 : XT := ⟨TypeDesc.func #[42, 63] #[4] false, 1, false, [.nilf], 8⟩
theorem x170_ok : TyOK Tryz.prog 170 x170 := tyok Tryz.underlying170 Tryz.sizeOf170 Tryz.isAgg170 Tryz.zeroValue170 rfl rfl rfl (info_map Tryz.type170 rfl)
def x171 : XT := ⟨TypeDesc.func #[42, 43, 66, 52] #[4] false, 1, false, [.nilf], 8⟩
theorem x171_ok : TyOK Tryz.prog 171 x171 := tyok Tryz.underlying171 Tryz.sizeOf171 Tryz.isAgg171 Tryz.zeroValue171 rfl rfl rfl (info_map Tryz.type171 rfl)
def x173 : XT := ⟨TypeDesc.func #[42, 43, 63] #[63, 46] false, 1, false, [.nilf], 8⟩
theorem x173_ok : TyOK Tryz.prog 173 x173 := tyok Tryz.underlying173 Tryz.sizeOf173 Tryz.isAgg173 Tryz.zeroValue173 rfl rfl rfl (info_map Tryz.type173 rfl)
def x174 : XT := ⟨TypeDesc.map 126 89, 1, false, [.nilm], 8⟩
theorem x174_ok : TyOK Tryz.prog 174 x174 := tyok Tryz.underlying174 Tryz.sizeOf174 Tryz.isAgg174 Tryz.zeroValue174 rfl rfl rfl (info_map Tryz.type174 rfl)
def x175 : XT := ⟨TypeDesc.map 9 39, 1, false, [.nilm], 8⟩
theorem x175_ok : TyOK Tryz.prog 175 x175 := tyok Tryz.underlying175 Tryz.sizeOf175 Tryz.isAgg175 Tryz.zeroValue175 rfl rfl rfl (info_map Tryz.type175 rfl)
def x176 : XT := ⟨TypeDesc.struct #[{ name := "releases", type := 174, offset := 0, embedded := false, tag := "", pkgPath := "modcert/index", byteOffset := 0 }, { name := "paths", type := 175, offset := 1, embedded := false, tag := "", pkgPath := "modcert/index", byteOffset := 8 }], 2, true, [.nilm, .nilm], 16⟩
theorem x176_ok : TyOK Tryz.prog 176 x176 := tyok Tryz.underlying176 Tryz.sizeOf176 Tryz.isAgg176 Tryz.zeroValue176 rfl rfl rfl (info_map Tryz.type176 rfl)
def x177 : XT := ⟨TypeDesc.struct #[{ name := "releases", type := 174, offset := 0, embedded := false, tag := "", pkgPath := "modcert/index", byteOffset := 0 }, { name := "paths", type := 175, offset := 1, embedded := false, tag := "", pkgPath := "modcert/index", byteOffset := 8 }], 2, true, [.nilm, .nilm], 16⟩
theorem x177_ok : TyOK Tryz.prog 177 x177 := tyok Tryz.underlying177 Tryz.sizeOf177 Tryz.isAgg177 Tryz.zeroValue177 rfl rfl rfl (info_map Tryz.type177 rfl)
def x179 : XT := ⟨TypeDesc.func #[42] #[177, 46] false, 1, false, [.nilf], 8⟩
theorem x179_ok : TyOK Tryz.prog 179 x179 := tyok Tryz.underlying179 Tryz.sizeOf179 Tryz.isAgg179 Tryz.zeroValue179 rfl rfl rfl (info_map Tryz.type179 rfl)
def x181 : XT := ⟨TypeDesc.func #[63] #[39, 46] false, 1, false, [.nilf], 8⟩
theorem x181_ok : TyOK Tryz.prog 181 x181 := tyok Tryz.underlying181 Tryz.sizeOf181 Tryz.isAgg181 Tryz.zeroValue181 rfl rfl rfl (info_map Tryz.type181 rfl)
def x182 : XT := ⟨TypeDesc.map 9 89, 1, false, [.nilm], 8⟩
theorem x182_ok : TyOK Tryz.prog 182 x182 := tyok Tryz.underlying182 Tryz.sizeOf182 Tryz.isAgg182 Tryz.zeroValue182 rfl rfl rfl (info_map Tryz.type182 rfl)
def x184 : XT := ⟨TypeDesc.func #[27, 3] #[4] false, 1, false, [.nilf], 8⟩
theorem x184_ok : TyOK Tryz.prog 184 x184 := tyok Tryz.underlying184 Tryz.sizeOf184 Tryz.isAgg184 Tryz.zeroValue184 rfl rfl rfl (info_map Tryz.type184 rfl)
def x185 : XT := ⟨TypeDesc.func #[89] #[3] false, 1, false, [.nilf], 8⟩
theorem x185_ok : TyOK Tryz.prog 185 x185 := tyok Tryz.underlying185 Tryz.sizeOf185 Tryz.isAgg185 Tryz.zeroValue185 rfl rfl rfl (info_map Tryz.type185 rfl)
def x186 : XT := ⟨TypeDesc.func #[87] #[4] false, 1, false, [.nilf], 8⟩
theorem x186_ok : TyOK Tryz.prog 186 x186 := tyok Tryz.underlying186 Tryz.sizeOf186 Tryz.isAgg186 Tryz.zeroValue186 rfl rfl rfl (info_map Tryz.type186 rfl)
def x187 : XT := ⟨TypeDesc.func #[43, 186] #[4] false, 1, false, [.nilf], 8⟩
theorem x187_ok : TyOK Tryz.prog 187 x187 := tyok Tryz.underlying187 Tryz.sizeOf187 Tryz.isAgg187 Tryz.zeroValue187 rfl rfl rfl (info_map Tryz.type187 rfl)
def x188 : XT := ⟨TypeDesc.map 9 4, 1, false, [.nilm], 8⟩
theorem x188_ok : TyOK Tryz.prog 188 x188 := tyok Tryz.underlying188 Tryz.sizeOf188 Tryz.isAgg188 Tryz.zeroValue188 rfl rfl rfl (info_map Tryz.type188 rfl)
def x189 : XT := ⟨TypeDesc.func #[43] #[43] false, 1, false, [.nilf], 8⟩
theorem x189_ok : TyOK Tryz.prog 189 x189 := tyok Tryz.underlying189 Tryz.sizeOf189 Tryz.isAgg189 Tryz.zeroValue189 rfl rfl rfl (info_map Tryz.type189 rfl)
def x190 : XT := ⟨TypeDesc.func #[63, 127] #[4] false, 1, false, [.nilf], 8⟩
theorem x190_ok : TyOK Tryz.prog 190 x190 := tyok Tryz.underlying190 Tryz.sizeOf190 Tryz.isAgg190 Tryz.zeroValue190 rfl rfl rfl (info_map Tryz.type190 rfl)
def x191 : XT := ⟨TypeDesc.func #[42, 9, 83] #[89, 4] false, 1, false, [.nilf], 8⟩
theorem x191_ok : TyOK Tryz.prog 191 x191 := tyok Tryz.underlying191 Tryz.sizeOf191 Tryz.isAgg191 Tryz.zeroValue191 rfl rfl rfl (info_map Tryz.type191 rfl)
def x192 : XT := ⟨TypeDesc.func #[83] #[3, 46] false, 1, false, [.nilf], 8⟩
theorem x192_ok : TyOK Tryz.prog 192 x192 := tyok Tryz.underlying192 Tryz.sizeOf192 Tryz.isAgg192 Tryz.zeroValue192 rfl rfl rfl (info_map Tryz.type192 rfl)
def x193 : XT := ⟨TypeDesc.func #[63] #[63] false, 1, false, [.nilf], 8⟩
theorem x193_ok : TyOK Tryz.prog 193 x193 := tyok Tryz.underlying193 Tryz.sizeOf193 Tryz.isAgg193 Tryz.zeroValue193 rfl rfl rfl (info_map Tryz.type193 rfl)
def x194 : XT := ⟨TypeDesc.func #[23, 63] #[4] false, 1, false, [.nilf], 8⟩
theorem x194_ok : TyOK Tryz.prog 194 x194 := tyok Tryz.underlying194 Tryz.sizeOf194 Tryz.isAgg194 Tryz.zeroValue194 rfl rfl rfl (info_map Tryz.type194 rfl)
def x195 : XT := ⟨TypeDesc.func #[2, 3] #[9] false, 1, false, [.nilf], 8⟩
theorem x195_ok : TyOK Tryz.prog 195 x195 := tyok Tryz.underlying195 Tryz.sizeOf195 Tryz.isAgg195 Tryz.zeroValue195 rfl rfl rfl (info_map Tryz.type195 rfl)
def x196 : XT := ⟨TypeDesc.int IntKind.u32, 1, false, [.int .u32 0], 4⟩
theorem x196_ok : TyOK Tryz.prog 196 x196 := tyok Tryz.underlying196 Tryz.sizeOf196 Tryz.isAgg196 Tryz.zeroValue196 rfl rfl rfl (info_map Tryz.type196 rfl)
def x198 : XT := ⟨TypeDesc.func #[9] #[196, 196] false, 1, false, [.nilf], 8⟩
theorem x198_ok : TyOK Tryz.prog 198 x198 := tyok Tryz.underlying198 Tryz.sizeOf198 Tryz.isAgg198 Tryz.zeroValue198 rfl rfl rfl (info_map Tryz.type198 rfl)
def x199 : XT := ⟨TypeDesc.int IntKind.i64, 1, false, [.int .i64 0], 8⟩
theorem x199_ok : TyOK Tryz.prog 199 x199 := tyok Tryz.underlying199 Tryz.sizeOf199 Tryz.isAgg199 Tryz.zeroValue199 rfl rfl rfl (info_map Tryz.type199 rfl)
def x201 : XT := ⟨TypeDesc.func #[9, 3, 3] #[2, 79] false, 1, false, [.nilf], 8⟩
theorem x201_ok : TyOK Tryz.prog 201 x201 := tyok Tryz.underlying201 Tryz.sizeOf201 Tryz.isAgg201 Tryz.zeroValue201 rfl rfl rfl (info_map Tryz.type201 rfl)
def x202 : XT := ⟨TypeDesc.pointer 263, 1, false, [.nilp], 8⟩
theorem x202_ok : TyOK Tryz.prog 202 x202 := tyok Tryz.underlying202 Tryz.sizeOf202 Tryz.isAgg202 Tryz.zeroValue202 rfl rfl rfl (info_map Tryz.type202 rfl)
def x203 : XT := ⟨TypeDesc.func #[9, 9] #[202] false, 1, false, [.nilf], 8⟩
theorem x203_ok : TyOK Tryz.prog 203 x203 := tyok Tryz.underlying203 Tryz.sizeOf203 Tryz.isAgg203 Tryz.zeroValue203 rfl rfl rfl (info_map Tryz.type203 rfl)
def x204 : XT := ⟨TypeDesc.func #[9, 9, 3] #[202] false, 1, false, [.nilf], 8⟩
theorem x204_ok : TyOK Tryz.prog 204 x204 := tyok Tryz.underlying204 Tryz.sizeOf204 Tryz.isAgg204 Tryz.zeroValue204 rfl rfl rfl (info_map Tryz.type204 rfl)
def x205 : XT := ⟨TypeDesc.map 3 3, 1, false, [.nilm], 8⟩
theorem x205_ok : TyOK Tryz.prog 205 x205 := tyok Tryz.underlying205 Tryz.sizeOf205 Tryz.isAgg205 Tryz.zeroValue205 rfl rfl rfl (info_map Tryz.type205 rfl)
def x206 : XT := ⟨TypeDesc.func #[34] #[] false, 1, false, [.nilf], 8⟩
theorem x206_ok : TyOK Tryz.prog 206 x206 := tyok Tryz.underlying206 Tryz.sizeOf206 Tryz.isAgg206 Tryz.zeroValue206 rfl rfl rfl (info_map Tryz.type206 rfl)
def x207 : XT := ⟨TypeDesc.func #[85, 3] #[9] false, 1, false, [.nilf], 8⟩
theorem x207_ok : TyOK Tryz.prog 207 x207 := tyok Tryz.underlying207 Tryz.sizeOf207 Tryz.isAgg207 Tryz.zeroValue207 rfl rfl rfl (info_map Tryz.type207 rfl)
def x208 : XT := ⟨TypeDesc.pointer 5, 1, false, [.nilp], 8⟩
theorem x208_ok : TyOK Tryz.prog 208 x208 := tyok Tryz.underlying208 Tryz.sizeOf208 Tryz.isAgg208 Tryz.zeroValue208 rfl rfl rfl (info_map Tryz.type208 rfl)
def x209 : XT := ⟨TypeDesc.func #[] #[27] false, 1, false, [.nilf], 8⟩
theorem x209_ok : TyOK Tryz.prog 209 x209 := tyok Tryz.underlying209 Tryz.sizeOf209 Tryz.isAgg209 Tryz.zeroValue209 rfl rfl rfl (info_map Tryz.type209 rfl)
def x210 : XT := ⟨TypeDesc.func #[87] #[23] false, 1, false, [.nilf], 8⟩
theorem x210_ok : TyOK Tryz.prog 210 x210 := tyok Tryz.underlying210 Tryz.sizeOf210 Tryz.isAgg210 Tryz.zeroValue210 rfl rfl rfl (info_map Tryz.type210 rfl)
def x211 : XT := ⟨TypeDesc.func #[42, 9, 3] #[89, 4] false, 1, false, [.nilf], 8⟩
theorem x211_ok : TyOK Tryz.prog 211 x211 := tyok Tryz.underlying211 Tryz.sizeOf211 Tryz.isAgg211 Tryz.zeroValue211 rfl rfl rfl (info_map Tryz.type211 rfl)
def x212 : XT := ⟨TypeDesc.func #[9, 3, 87] #[23] false, 1, false, [.nilf], 8⟩
theorem x212_ok : TyOK Tryz.prog 212 x212 := tyok Tryz.underlying212 Tryz.sizeOf212 Tryz.isAgg212 Tryz.zeroValue212 rfl rfl rfl (info_map Tryz.type212 rfl)
def x213 : XT := ⟨TypeDesc.func #[9, 27] #[23] false, 1, false, [.nilf], 8⟩
theorem x213_ok : TyOK Tryz.prog 213 x213 := tyok Tryz.underlying213 Tryz.sizeOf213 Tryz.isAgg213 Tryz.zeroValue213 rfl rfl rfl (info_map Tryz.type213 rfl)
def x214 : XT := ⟨TypeDesc.func #[42, 9] #[27] false, 1, false, [.nilf], 8⟩
theorem x214_ok : TyOK Tryz.prog 214 x214 := tyok Tryz.underlying214 Tryz.sizeOf214 Tryz.isAgg214 Tryz.zeroValue214 rfl rfl rfl (info_map Tryz.type214 rfl)
def x216 : XT := ⟨TypeDesc.func #[23, 23, 9] #[23, 46] false, 1, false, [.nilf], 8⟩
theorem x216_ok : TyOK Tryz.prog 216 x216 := tyok Tryz.underlying216 Tryz.sizeOf216 Tryz.isAgg216 Tryz.zeroValue216 rfl rfl rfl (info_map Tryz.type216 rfl)
def x217 : XT := ⟨TypeDesc.func #[89] #[46] false, 1, false, [.nilf], 8⟩
theorem x217_ok : TyOK Tryz.prog 217 x217 := tyok Tryz.underlying217 Tryz.sizeOf217 Tryz.isAgg217 Tryz.zeroValue217 rfl rfl rfl (info_map Tryz.type217 rfl)
def x218 : XT := ⟨TypeDesc.func #[89] #[126] false, 1, false, [.nilf], 8⟩
theorem x218_ok : TyOK Tryz.prog 218 x218 := tyok Tryz.underlying218 Tryz.sizeOf218 Tryz.isAgg218 Tryz.zeroValue218 rfl rfl rfl (info_map Tryz.type218 rfl)
def x219 : XT := ⟨TypeDesc.func #[89, 89] #[3] false, 1, false, [.nilf], 8⟩
theorem x219_ok : TyOK Tryz.prog 219 x219 := tyok Tryz.underlying219 Tryz.sizeOf219 Tryz.isAgg219 Tryz.zeroValue219 rfl rfl rfl (info_map Tryz.type219 rfl)
def x220 : XT := ⟨TypeDesc.pointer 87, 1, false, [.nilp], 8⟩
theorem x220_ok : TyOK Tryz.prog 220 x220 := tyok Tryz.underlying220 Tryz.sizeOf220 Tryz.isAgg220 Tryz.zeroValue220 rfl rfl rfl (info_map Tryz.type220 rfl)
def x221 : XT := ⟨TypeDesc.func #[87, 220] #[46] false, 1, false, [.nilf], 8⟩
theorem x221_ok : TyOK Tryz.prog 221 x221 := tyok Tryz.underlying221 Tryz.sizeOf221 Tryz.isAgg221 Tryz.zeroValue221 rfl rfl rfl (info_map Tryz.type221 rfl)
def x222 : XT := ⟨TypeDesc.func #[73] #[73] false, 1, false, [.nilf], 8⟩
theorem x222_ok : TyOK Tryz.prog 222 x222 := tyok Tryz.underlying222 Tryz.sizeOf222 Tryz.isAgg222 Tryz.zeroValue222 rfl rfl rfl (info_map Tryz.type222 rfl)
def x223 : XT := ⟨TypeDesc.func #[105, 73] #[23, 4] false, 1, false, [.nilf], 8⟩
theorem x223_ok : TyOK Tryz.prog 223 x223 := tyok Tryz.underlying223 Tryz.sizeOf223 Tryz.isAgg223 Tryz.zeroValue223 rfl rfl rfl (info_map Tryz.type223 rfl)
def x224 : XT := ⟨TypeDesc.struct #[{ name := "bare", type := 222, offset := 0, embedded := false, tag := "", pkgPath := "modcert/proof", byteOffset := 0 }, { name := "derive", type := 223, offset := 1, embedded := false, tag := "", pkgPath := "modcert/proof", byteOffset := 8 }], 2, true, [.nilf, .nilf], 16⟩
theorem x224_ok : TyOK Tryz.prog 224 x224 := tyok Tryz.underlying224 Tryz.sizeOf224 Tryz.isAgg224 Tryz.zeroValue224 rfl rfl rfl (info_map Tryz.type224 rfl)
def x225 : XT := ⟨TypeDesc.struct #[{ name := "bare", type := 222, offset := 0, embedded := false, tag := "", pkgPath := "modcert/proof", byteOffset := 0 }, { name := "derive", type := 223, offset := 1, embedded := false, tag := "", pkgPath := "modcert/proof", byteOffset := 8 }], 2, true, [.nilf, .nilf], 16⟩
theorem x225_ok : TyOK Tryz.prog 225 x225 := tyok Tryz.underlying225 Tryz.sizeOf225 Tryz.isAgg225 Tryz.zeroValue225 rfl rfl rfl (info_map Tryz.type225 rfl)
def x226 : XT := ⟨TypeDesc.array 4 225, 8, true, [.nilf, .nilf, .nilf, .nilf, .nilf, .nilf, .nilf, .nilf], 64⟩
theorem x226_ok : TyOK Tryz.prog 226 x226 := tyok Tryz.underlying226 Tryz.sizeOf226 Tryz.isAgg226 Tryz.zeroValue226 rfl rfl rfl (info_map Tryz.type226 rfl)
def x227 : XT := ⟨TypeDesc.func #[] #[226] false, 1, false, [.nilf], 8⟩
theorem x227_ok : TyOK Tryz.prog 227 x227 := tyok Tryz.underlying227 Tryz.sizeOf227 Tryz.isAgg227 Tryz.zeroValue227 rfl rfl rfl (info_map Tryz.type227 rfl)
def x228 : XT := ⟨TypeDesc.func #[27, 229] #[] false, 1, false, [.nilf], 8⟩
theorem x228_ok : TyOK Tryz.prog 228 x228 := tyok Tryz.underlying228 Tryz.sizeOf228 Tryz.isAgg228 Tryz.zeroValue228 rfl rfl rfl (info_map Tryz.type228 rfl)
def x229 : XT := ⟨TypeDesc.func #[85, 85] #[3] false, 1, false, [.nilf], 8⟩
theorem x229_ok : TyOK Tryz.prog 229 x229 := tyok Tryz.underlying229 Tryz.sizeOf229 Tryz.isAgg229 Tryz.zeroValue229 rfl rfl rfl (info_map Tryz.type229 rfl)
def x230 : XT := ⟨TypeDesc.func #[22, 3, 3, 116] #[] false, 1, false, [.nilf], 8⟩
theorem x230_ok : TyOK Tryz.prog 230 x230 := tyok Tryz.underlying230 Tryz.sizeOf230 Tryz.isAgg230 Tryz.zeroValue230 rfl rfl rfl (info_map Tryz.type230 rfl)
def x231 : XT := ⟨TypeDesc.int IntKind.i64, 1, false, [.int .i64 0], 8⟩
theorem x231_ok : TyOK Tryz.prog 231 x231 := tyok Tryz.underlying231 Tryz.sizeOf231 Tryz.isAgg231 Tryz.zeroValue231 rfl rfl rfl (info_map Tryz.type231 rfl)
def x233 : XT := ⟨TypeDesc.func #[22, 3, 3, 116] #[3, 231] false, 1, false, [.nilf], 8⟩
theorem x233_ok : TyOK Tryz.prog 233 x233 := tyok Tryz.underlying233 Tryz.sizeOf233 Tryz.isAgg233 Tryz.zeroValue233 rfl rfl rfl (info_map Tryz.type233 rfl)
def x234 : XT := ⟨TypeDesc.func #[22, 3, 3, 116] #[4] false, 1, false, [.nilf], 8⟩
theorem x234_ok : TyOK Tryz.prog 234 x234 := tyok Tryz.underlying234 Tryz.sizeOf234 Tryz.isAgg234 Tryz.zeroValue234 rfl rfl rfl (info_map Tryz.type234 rfl)
def x235 : XT := ⟨TypeDesc.func #[22, 3, 3, 3, 116] #[3] false, 1, false, [.nilf], 8⟩
theorem x235_ok : TyOK Tryz.prog 235 x235 := tyok Tryz.underlying235 Tryz.sizeOf235 Tryz.isAgg235 Tryz.zeroValue235 rfl rfl rfl (info_map Tryz.type235 rfl)
def x236 : XT := ⟨TypeDesc.func #[22, 3, 3, 3, 116] #[3, 4] false, 1, false, [.nilf], 8⟩
theorem x236_ok : TyOK Tryz.prog 236 x236 := tyok Tryz.underlying236 Tryz.sizeOf236 Tryz.isAgg236 Tryz.zeroValue236 rfl rfl rfl (info_map Tryz.type236 rfl)
def x237 : XT := ⟨TypeDesc.func #[196] #[3] false, 1, false, [.nilf], 8⟩
theorem x237_ok : TyOK Tryz.prog 237 x237 := tyok Tryz.underlying237 Tryz.sizeOf237 Tryz.isAgg237 Tryz.zeroValue237 rfl rfl rfl (info_map Tryz.type237 rfl)
def x238 : XT := ⟨TypeDesc.func #[239] #[3] false, 1, false, [.nilf], 8⟩
theorem x238_ok : TyOK Tryz.prog 238 x238 := tyok Tryz.underlying238 Tryz.sizeOf238 Tryz.isAgg238 Tryz.zeroValue238 rfl rfl rfl (info_map Tryz.type238 rfl)
def x239 : XT := ⟨TypeDesc.int IntKind.u64, 1, false, [.int .u64 0], 8⟩
theorem x239_ok : TyOK Tryz.prog 239 x239 := tyok Tryz.underlying239 Tryz.sizeOf239 Tryz.isAgg239 Tryz.zeroValue239 rfl rfl rfl (info_map Tryz.type239 rfl)
def x240 : XT := ⟨TypeDesc.func #[9, 9, 3, 3] #[45] false, 1, false, [.nilf], 8⟩
theorem x240_ok : TyOK Tryz.prog 240 x240 := tyok Tryz.underlying240 Tryz.sizeOf240 Tryz.isAgg240 Tryz.zeroValue240 rfl rfl rfl (info_map Tryz.type240 rfl)
def x242 : XT := ⟨TypeDesc.func #[9, 9] #[9, 4] false, 1, false, [.nilf], 8⟩
theorem x242_ok : TyOK Tryz.prog 242 x242 := tyok Tryz.underlying242 Tryz.sizeOf242 Tryz.isAgg242 Tryz.zeroValue242 rfl rfl rfl (info_map Tryz.type242 rfl)
def x243 : XT := ⟨TypeDesc.func #[87, 63] #[4] false, 1, false, [.nilf], 8⟩
theorem x243_ok : TyOK Tryz.prog 243 x243 := tyok Tryz.underlying243 Tryz.sizeOf243 Tryz.isAgg243 Tryz.zeroValue243 rfl rfl rfl (info_map Tryz.type243 rfl)
def x244 : XT := ⟨TypeDesc.func #[42, 43] #[63] false, 1, false, [.nilf], 8⟩
theorem x244_ok : TyOK Tryz.prog 244 x244 := tyok Tryz.underlying244 Tryz.sizeOf244 Tryz.isAgg244 Tryz.zeroValue244 rfl rfl rfl (info_map Tryz.type244 rfl)
def x245 : XT := ⟨TypeDesc.func #[42, 43, 63, 9, 3] #[34] false, 1, false, [.nilf], 8⟩
theorem x245_ok : TyOK Tryz.prog 245 x245 := tyok Tryz.underlying245 Tryz.sizeOf245 Tryz.isAgg245 Tryz.zeroValue245 rfl rfl rfl (info_map Tryz.type245 rfl)
def x246 : XT := ⟨TypeDesc.func #[42, 63, 9, 3] #[63] false, 1, false, [.nilf], 8⟩
theorem x246_ok : TyOK Tryz.prog 246 x246 := tyok Tryz.underlying246 Tryz.sizeOf246 Tryz.isAgg246 Tryz.zeroValue246 rfl rfl rfl (info_map Tryz.type246 rfl)
def x247 : XT := ⟨TypeDesc.func #[42, 43, 63] #[9, 4] false, 1, false, [.nilf], 8⟩
theorem x247_ok : TyOK Tryz.prog 247 x247 := tyok Tryz.underlying247 Tryz.sizeOf247 Tryz.isAgg247 Tryz.zeroValue247 rfl rfl rfl (info_map Tryz.type247 rfl)
def x249 : XT := ⟨TypeDesc.func #[63, 9] #[126, 4] false, 1, false, [.nilf], 8⟩
theorem x249_ok : TyOK Tryz.prog 249 x249 := tyok Tryz.underlying249 Tryz.sizeOf249 Tryz.isAgg249 Tryz.zeroValue249 rfl rfl rfl (info_map Tryz.type249 rfl)
def x250 : XT := ⟨TypeDesc.func #[27, 251] #[4] false, 1, false, [.nilf], 8⟩
theorem x250_ok : TyOK Tryz.prog 250 x250 := tyok Tryz.underlying250 Tryz.sizeOf250 Tryz.isAgg250 Tryz.zeroValue250 rfl rfl rfl (info_map Tryz.type250 rfl)
def x251 : XT := ⟨TypeDesc.func #[85] #[4] false, 1, false, [.nilf], 8⟩
theorem x251_ok : TyOK Tryz.prog 251 x251 := tyok Tryz.underlying251 Tryz.sizeOf251 Tryz.isAgg251 Tryz.zeroValue251 rfl rfl rfl (info_map Tryz.type251 rfl)
def x252 : XT := ⟨TypeDesc.func #[43, 186] #[3] false, 1, false, [.nilf], 8⟩
theorem x252_ok : TyOK Tryz.prog 252 x252 := tyok Tryz.underlying252 Tryz.sizeOf252 Tryz.isAgg252 Tryz.zeroValue252 rfl rfl rfl (info_map Tryz.type252 rfl)
def x253 : XT := ⟨TypeDesc.func #[89] #[89] false, 1, false, [.nilf], 8⟩
theorem x253_ok : TyOK Tryz.prog 253 x253 := tyok Tryz.underlying253 Tryz.sizeOf253 Tryz.isAgg253 Tryz.zeroValue253 rfl rfl rfl (info_map Tryz.type253 rfl)
def x254 : XT := ⟨TypeDesc.func #[23, 114] #[4] false, 1, false, [.nilf], 8⟩
theorem x254_ok : TyOK Tryz.prog 254 x254 := tyok Tryz.underlying254 Tryz.sizeOf254 Tryz.isAgg254 Tryz.zeroValue254 rfl rfl rfl (info_map Tryz.type254 rfl)
def x255 : XT := ⟨TypeDesc.array 24 5, 24, true, [.int .u8 0, .int .u8 0, .int .u8 0, .int .u8 0, .int .u8 0, .int .u8 0, .int .u8 0, .int .u8 0, .int .u8 0, .int .u8 0, .int .u8 0, .int .u8 0, .int .u8 0, .int .u8 0, .int .u8 0, .int .u8 0, .int .u8 0, .int .u8 0, .int .u8 0, .int .u8 0, .int .u8 0, .int .u8 0, .int .u8 0, .int .u8 0], 24⟩
theorem x255_ok : TyOK Tryz.prog 255 x255 := tyok Tryz.underlying255 Tryz.sizeOf255 Tryz.isAgg255 Tryz.zeroValue255 rfl rfl rfl (info_map Tryz.type255 rfl)
def x256 : XT := ⟨TypeDesc.func #[144, 239] #[] false, 1, false, [.nilf], 8⟩
theorem x256_ok : TyOK Tryz.prog 256 x256 := tyok Tryz.underlying256 Tryz.sizeOf256 Tryz.isAgg256 Tryz.zeroValue256 rfl rfl rfl (info_map Tryz.type256 rfl)
def x258 : XT := ⟨TypeDesc.func #[144, 239, 3, 4, 4] #[144, 9] false, 1, false, [.nilf], 8⟩
theorem x258_ok : TyOK Tryz.prog 258 x258 := tyok Tryz.underlying258 Tryz.sizeOf258 Tryz.isAgg258 Tryz.zeroValue258 rfl rfl rfl (info_map Tryz.type258 rfl)
def x260 : XT := ⟨TypeDesc.func #[9, 3, 3] #[239, 79] false, 1, false, [.nilf], 8⟩
theorem x260_ok : TyOK Tryz.prog 260 x260 := tyok Tryz.underlying260 Tryz.sizeOf260 Tryz.isAgg260 Tryz.zeroValue260 rfl rfl rfl (info_map Tryz.type260 rfl)
def x261 : XT := ⟨TypeDesc.func #[9] #[9] false, 1, false, [.nilf], 8⟩
theorem x261_ok : TyOK Tryz.prog 261 x261 := tyok Tryz.underlying261 Tryz.sizeOf261 Tryz.isAgg261 Tryz.zeroValue261 rfl rfl rfl (info_map Tryz.type261 rfl)
def x262 : XT := ⟨TypeDesc.struct #[{ name := "Func", type := 9, offset := 0, embedded := false, tag := "", pkgPath := "", byteOffset := 0 }, { name := "Num", type := 9, offset := 1, embedded := false, tag := "", pkgPath := "", byteOffset := 16 }, { name := "Err", type := 79, offset := 2, embedded := false, tag := "", pkgPath := "", byteOffset := 32 }], 3, true, [.str [], .str [], .nili], 48⟩
theorem x262_ok : TyOK Tryz.prog 262 x262 := tyok Tryz.underlying262 Tryz.sizeOf262 Tryz.isAgg262 Tryz.zeroValue262 rfl rfl rfl (info_map Tryz.type262 rfl)
def x263 : XT := ⟨TypeDesc.struct #[{ name := "Func", type := 9, offset := 0, embedded := false, tag := "", pkgPath := "", byteOffset := 0 }, { name := "Num", type := 9, offset := 1, embedded := false, tag := "", pkgPath := "", byteOffset := 16 }, { name := "Err", type := 79, offset := 2, embedded := false, tag := "", pkgPath := "", byteOffset := 32 }], 3, true, [.str [], .str [], .nili], 48⟩
theorem x263_ok : TyOK Tryz.prog 263 x263 := tyok Tryz.underlying263 Tryz.sizeOf263 Tryz.isAgg263 Tryz.zeroValue263 rfl rfl rfl (info_map Tryz.type263 rfl)
def x264 : XT := ⟨TypeDesc.func #[9] #[79] false, 1, false, [.nilf], 8⟩
theorem x264_ok : TyOK Tryz.prog 264 x264 := tyok Tryz.underlying264 Tryz.sizeOf264 Tryz.isAgg264 Tryz.zeroValue264 rfl rfl rfl (info_map Tryz.type264 rfl)
def x265 : XT := ⟨TypeDesc.func #[34, 3, 3, 3] #[] false, 1, false, [.nilf], 8⟩
theorem x265_ok : TyOK Tryz.prog 265 x265 := tyok Tryz.underlying265 Tryz.sizeOf265 Tryz.isAgg265 Tryz.zeroValue265 rfl rfl rfl (info_map Tryz.type265 rfl)
def x266 : XT := ⟨TypeDesc.func #[9] #[45] false, 1, false, [.nilf], 8⟩
theorem x266_ok : TyOK Tryz.prog 266 x266 := tyok Tryz.underlying266 Tryz.sizeOf266 Tryz.isAgg266 Tryz.zeroValue266 rfl rfl rfl (info_map Tryz.type266 rfl)
def x267 : XT := ⟨TypeDesc.func #[3, 3] #[9] false, 1, false, [.nilf], 8⟩
theorem x267_ok : TyOK Tryz.prog 267 x267 := tyok Tryz.underlying267 Tryz.sizeOf267 Tryz.isAgg267 Tryz.zeroValue267 rfl rfl rfl (info_map Tryz.type267 rfl)
def x268 : XT := ⟨TypeDesc.unsafePointer, 1, false, [.nilp], 8⟩
theorem x268_ok : TyOK Tryz.prog 268 x268 := tyok Tryz.underlying268 Tryz.sizeOf268 Tryz.isAgg268 Tryz.zeroValue268 rfl rfl rfl (info_map Tryz.type268 rfl)
def x269 : XT := ⟨TypeDesc.func #[268] #[268] false, 1, false, [.nilf], 8⟩
theorem x269_ok : TyOK Tryz.prog 269 x269 := tyok Tryz.underlying269 Tryz.sizeOf269 Tryz.isAgg269 Tryz.zeroValue269 rfl rfl rfl (info_map Tryz.type269 rfl)
def x270 : XT := ⟨TypeDesc.func #[3] #[144] false, 1, false, [.nilf], 8⟩
theorem x270_ok : TyOK Tryz.prog 270 x270 := tyok Tryz.underlying270 Tryz.sizeOf270 Tryz.isAgg270 Tryz.zeroValue270 rfl rfl rfl (info_map Tryz.type270 rfl)
def x271 : XT := ⟨TypeDesc.func #[23] #[23] false, 1, false, [.nilf], 8⟩
theorem x271_ok : TyOK Tryz.prog 271 x271 := tyok Tryz.underlying271 Tryz.sizeOf271 Tryz.isAgg271 Tryz.zeroValue271 rfl rfl rfl (info_map Tryz.type271 rfl)
def x272 : XT := ⟨TypeDesc.func #[87] #[29] false, 1, false, [.nilf], 8⟩
theorem x272_ok : TyOK Tryz.prog 272 x272 := tyok Tryz.underlying272 Tryz.sizeOf272 Tryz.isAgg272 Tryz.zeroValue272 rfl rfl rfl (info_map Tryz.type272 rfl)
def x273 : XT := ⟨TypeDesc.func #[27, 27] #[27] false, 1, false, [.nilf], 8⟩
theorem x273_ok : TyOK Tryz.prog 273 x273 := tyok Tryz.underlying273 Tryz.sizeOf273 Tryz.isAgg273 Tryz.zeroValue273 rfl rfl rfl (info_map Tryz.type273 rfl)
def x274 : XT := ⟨TypeDesc.func #[3] #[27] false, 1, false, [.nilf], 8⟩
theorem x274_ok : TyOK Tryz.prog 274 x274 := tyok Tryz.underlying274 Tryz.sizeOf274 Tryz.isAgg274 Tryz.zeroValue274 rfl rfl rfl (info_map Tryz.type274 rfl)
def x275 : XT := ⟨TypeDesc.func #[23, 9] #[29, 4] false, 1, false, [.nilf], 8⟩
theorem x275_ok : TyOK Tryz.prog 275 x275 := tyok Tryz.underlying275 Tryz.sizeOf275 Tryz.isAgg275 Tryz.zeroValue275 rfl rfl rfl (info_map Tryz.type275 rfl)
def x276 : XT := ⟨TypeDesc.func #[23, 9] #[23] false, 1, false, [.nilf], 8⟩
theorem x276_ok : TyOK Tryz.prog 276 x276 := tyok Tryz.underlying276 Tryz.sizeOf276 Tryz.isAgg276 Tryz.zeroValue276 rfl rfl rfl (info_map Tryz.type276 rfl)
def x277 : XT := ⟨TypeDesc.func #[34] #[3] true, 1, false, [.nilf], 8⟩
theorem x277_ok : TyOK Tryz.prog 277 x277 := tyok Tryz.underlying277 Tryz.sizeOf277 Tryz.isAgg277 Tryz.zeroValue277 rfl rfl rfl (info_map Tryz.type277 rfl)
def x278 : XT := ⟨TypeDesc.func #[83, 83] #[3] false, 1, false, [.nilf], 8⟩
theorem x278_ok : TyOK Tryz.prog 278 x278 := tyok Tryz.underlying278 Tryz.sizeOf278 Tryz.isAgg278 Tryz.zeroValue278 rfl rfl rfl (info_map Tryz.type278 rfl)
def x279 : XT := ⟨TypeDesc.func #[73] #[23, 4] false, 1, false, [.nilf], 8⟩
theorem x279_ok : TyOK Tryz.prog 279 x279 := tyok Tryz.underlying279 Tryz.sizeOf279 Tryz.isAgg279 Tryz.zeroValue279 rfl rfl rfl (info_map Tryz.type279 rfl)
def x280 : XT := ⟨TypeDesc.func #[26, 3, 3, 3, 229] #[] false, 1, false, [.nilf], 8⟩
theorem x280_ok : TyOK Tryz.prog 280 x280 := tyok Tryz.underlying280 Tryz.sizeOf280 Tryz.isAgg280 Tryz.zeroValue280 rfl rfl rfl (info_map Tryz.type280 rfl)
def x281 : XT := ⟨TypeDesc.int IntKind.u64, 1, false, [.int .u64 0], 8⟩
theorem x281_ok : TyOK Tryz.prog 281 x281 := tyok Tryz.underlying281 Tryz.sizeOf281 Tryz.isAgg281 Tryz.zeroValue281 rfl rfl rfl (info_map Tryz.type281 rfl)
def x282 : XT := ⟨TypeDesc.func #[3] #[159] false, 1, false, [.nilf], 8⟩
theorem x282_ok : TyOK Tryz.prog 282 x282 := tyok Tryz.underlying282 Tryz.sizeOf282 Tryz.isAgg282 Tryz.zeroValue282 rfl rfl rfl (info_map Tryz.type282 rfl)
def x283 : XT := ⟨TypeDesc.func #[] #[239] false, 1, false, [.nilf], 8⟩
theorem x283_ok : TyOK Tryz.prog 283 x283 := tyok Tryz.underlying283 Tryz.sizeOf283 Tryz.isAgg283 Tryz.zeroValue283 rfl rfl rfl (info_map Tryz.type283 rfl)
def x284 : XT := ⟨TypeDesc.func #[22, 3, 285, 116] #[3] false, 1, false, [.nilf], 8⟩
theorem x284_ok : TyOK Tryz.prog 284 x284 := tyok Tryz.underlying284 Tryz.sizeOf284 Tryz.isAgg284 Tryz.zeroValue284 rfl rfl rfl (info_map Tryz.type284 rfl)
def x285 : XT := ⟨TypeDesc.pointer 3, 1, false, [.nilp], 8⟩
theorem x285_ok : TyOK Tryz.prog 285 x285 := tyok Tryz.underlying285 Tryz.sizeOf285 Tryz.isAgg285 Tryz.zeroValue285 rfl rfl rfl (info_map Tryz.type285 rfl)
def x286 : XT := ⟨TypeDesc.func #[22, 3, 3, 3, 285, 116] #[3] false, 1, false, [.nilf], 8⟩
theorem x286_ok : TyOK Tryz.prog 286 x286 := tyok Tryz.underlying286 Tryz.sizeOf286 Tryz.isAgg286 Tryz.zeroValue286 rfl rfl rfl (info_map Tryz.type286 rfl)
def x287 : XT := ⟨TypeDesc.func #[9, 3] #[45] false, 1, false, [.nilf], 8⟩
theorem x287_ok : TyOK Tryz.prog 287 x287 := tyok Tryz.underlying287 Tryz.sizeOf287 Tryz.isAgg287 Tryz.zeroValue287 rfl rfl rfl (info_map Tryz.type287 rfl)
def x288 : XT := ⟨TypeDesc.func #[43, 89] #[4] false, 1, false, [.nilf], 8⟩
theorem x288_ok : TyOK Tryz.prog 288 x288 := tyok Tryz.underlying288 Tryz.sizeOf288 Tryz.isAgg288 Tryz.zeroValue288 rfl rfl rfl (info_map Tryz.type288 rfl)
def x289 : XT := ⟨TypeDesc.func #[42, 43, 63, 9, 3] #[4] false, 1, false, [.nilf], 8⟩
theorem x289_ok : TyOK Tryz.prog 289 x289 := tyok Tryz.underlying289 Tryz.sizeOf289 Tryz.isAgg289 Tryz.zeroValue289 rfl rfl rfl (info_map Tryz.type289 rfl)
def x290 : XT := ⟨TypeDesc.func #[63, 9] #[4] false, 1, false, [.nilf], 8⟩
theorem x290_ok : TyOK Tryz.prog 290 x290 := tyok Tryz.underlying290 Tryz.sizeOf290 Tryz.isAgg290 Tryz.zeroValue290 rfl rfl rfl (info_map Tryz.type290 rfl)
def x291 : XT := ⟨TypeDesc.func #[42, 43, 63] #[43] false, 1, false, [.nilf], 8⟩
theorem x291_ok : TyOK Tryz.prog 291 x291 := tyok Tryz.underlying291 Tryz.sizeOf291 Tryz.isAgg291 Tryz.zeroValue291 rfl rfl rfl (info_map Tryz.type291 rfl)
def x292 : XT := ⟨TypeDesc.func #[27, 251] #[3] false, 1, false, [.nilf], 8⟩
theorem x292_ok : TyOK Tryz.prog 292 x292 := tyok Tryz.underlying292 Tryz.sizeOf292 Tryz.isAgg292 Tryz.zeroValue292 rfl rfl rfl (info_map Tryz.type292 rfl)
def x293 : XT := ⟨TypeDesc.func #[29, 63] #[4] false, 1, false, [.nilf], 8⟩
theorem x293_ok : TyOK Tryz.prog 293 x293 := tyok Tryz.underlying293 Tryz.sizeOf293 Tryz.isAgg293 Tryz.zeroValue293 rfl rfl rfl (info_map Tryz.type293 rfl)
def x294 : XT := ⟨TypeDesc.func #[23, 114] #[3] false, 1, false, [.nilf], 8⟩
theorem x294_ok : TyOK Tryz.prog 294 x294 := tyok Tryz.underlying294 Tryz.sizeOf294 Tryz.isAgg294 Tryz.zeroValue294 rfl rfl rfl (info_map Tryz.type294 rfl)
def x295 : XT := ⟨TypeDesc.func #[4] #[3] false, 1, false, [.nilf], 8⟩
theorem x295_ok : TyOK Tryz.prog 295 x295 := tyok Tryz.underlying295 Tryz.sizeOf295 Tryz.isAgg295 Tryz.zeroValue295 rfl rfl rfl (info_map Tryz.type295 rfl)
def x296 : XT := ⟨TypeDesc.array 20 239, 20, true, [.int .u64 0, .int .u64 0, .int .u64 0, .int .u64 0, .int .u64 0, .int .u64 0, .int .u64 0, .int .u64 0, .int .u64 0, .int .u64 0, .int .u64 0, .int .u64 0, .int .u64 0, .int .u64 0, .int .u64 0, .int .u64 0, .int .u64 0, .int .u64 0, .int .u64 0, .int .u64 0], 160⟩
theorem x296_ok : TyOK Tryz.prog 296 x296 := tyok Tryz.underlying296 Tryz.sizeOf296 Tryz.isAgg296 Tryz.zeroValue296 rfl rfl rfl (info_map Tryz.type296 rfl)
def x298 : XT := ⟨TypeDesc.func #[5] #[5] false, 1, false, [.nilf], 8⟩
theorem x298_ok : TyOK Tryz.prog 298 x298 := tyok Tryz.underlying298 Tryz.sizeOf298 Tryz.isAgg298 Tryz.zeroValue298 rfl rfl rfl (info_map Tryz.type298 rfl)
def x299 : XT := ⟨TypeDesc.pointer 301, 1, false, [.nilp], 8⟩
theorem x299_ok : TyOK Tryz.prog 299 x299 := tyok Tryz.underlying299 Tryz.sizeOf299 Tryz.isAgg299 Tryz.zeroValue299 rfl rfl rfl (info_map Tryz.type299 rfl)
def x300 : XT := ⟨TypeDesc.struct #[{ name := "s", type := 9, offset := 0, embedded := false, tag := "", pkgPath := "errors", byteOffset := 0 }], 1, true, [.str []], 16⟩
theorem x300_ok : TyOK Tryz.prog 300 x300 := tyok Tryz.underlying300 Tryz.sizeOf300 Tryz.isAgg300 Tryz.zeroValue300 rfl rfl rfl (info_map Tryz.type300 rfl)
def x301 : XT := ⟨TypeDesc.struct #[{ name := "s", type := 9, offset := 0, embedded := false, tag := "", pkgPath := "errors", byteOffset := 0 }], 1, true, [.str []], 16⟩
theorem x301_ok : TyOK Tryz.prog 301 x301 := tyok Tryz.underlying301 Tryz.sizeOf301 Tryz.isAgg301 Tryz.zeroValue301 rfl rfl rfl (info_map Tryz.type301 rfl)
def x302 : XT := ⟨TypeDesc.func #[34, 3, 3] #[] false, 1, false, [.nilf], 8⟩
theorem x302_ok : TyOK Tryz.prog 302 x302 := tyok Tryz.underlying302 Tryz.sizeOf302 Tryz.isAgg302 Tryz.zeroValue302 rfl rfl rfl (info_map Tryz.type302 rfl)
def x303 : XT := ⟨TypeDesc.func #[34, 3, 3] #[3, 231] false, 1, false, [.nilf], 8⟩
theorem x303_ok : TyOK Tryz.prog 303 x303 := tyok Tryz.underlying303 Tryz.sizeOf303 Tryz.isAgg303 Tryz.zeroValue303 rfl rfl rfl (info_map Tryz.type303 rfl)
def x304 : XT := ⟨TypeDesc.func #[34, 3, 3] #[4] false, 1, false, [.nilf], 8⟩
theorem x304_ok : TyOK Tryz.prog 304 x304 := tyok Tryz.underlying304 Tryz.sizeOf304 Tryz.isAgg304 Tryz.zeroValue304 rfl rfl rfl (info_map Tryz.type304 rfl)
def x305 : XT := ⟨TypeDesc.func #[3, 3] #[4] false, 1, false, [.nilf], 8⟩
theorem x305_ok : TyOK Tryz.prog 305 x305 := tyok Tryz.underlying305 Tryz.sizeOf305 Tryz.isAgg305 Tryz.zeroValue305 rfl rfl rfl (info_map Tryz.type305 rfl)
def x306 : XT := ⟨TypeDesc.func #[34, 3, 3, 3] #[3] false, 1, false, [.nilf], 8⟩
theorem x306_ok : TyOK Tryz.prog 306 x306 := tyok Tryz.underlying306 Tryz.sizeOf306 Tryz.isAgg306 Tryz.zeroValue306 rfl rfl rfl (info_map Tryz.type306 rfl)
def x307 : XT := ⟨TypeDesc.func #[34, 3, 3, 3] #[3, 4] false, 1, false, [.nilf], 8⟩
theorem x307_ok : TyOK Tryz.prog 307 x307 := tyok Tryz.underlying307 Tryz.sizeOf307 Tryz.isAgg307 Tryz.zeroValue307 rfl rfl rfl (info_map Tryz.type307 rfl)
def x308 : XT := ⟨TypeDesc.func #[3, 3] #[3] false, 1, false, [.nilf], 8⟩
theorem x308_ok : TyOK Tryz.prog 308 x308 := tyok Tryz.underlying308 Tryz.sizeOf308 Tryz.isAgg308 Tryz.zeroValue308 rfl rfl rfl (info_map Tryz.type308 rfl)
def x309 : XT := ⟨TypeDesc.func #[9, 3] #[89, 4] false, 1, false, [.nilf], 8⟩
theorem x309_ok : TyOK Tryz.prog 309 x309 := tyok Tryz.underlying309 Tryz.sizeOf309 Tryz.isAgg309 Tryz.zeroValue309 rfl rfl rfl (info_map Tryz.type309 rfl)
def x310 : XT := ⟨TypeDesc.func #[26, 3, 3, 229] #[] false, 1, false, [.nilf], 8⟩
theorem x310_ok : TyOK Tryz.prog 310 x310 := tyok Tryz.underlying310 Tryz.sizeOf310 Tryz.isAgg310 Tryz.zeroValue310 rfl rfl rfl (info_map Tryz.type310 rfl)
def x311 : XT := ⟨TypeDesc.func #[26, 3, 3, 229] #[3, 231] false, 1, false, [.nilf], 8⟩
theorem x311_ok : TyOK Tryz.prog 311 x311 := tyok Tryz.underlying311 Tryz.sizeOf311 Tryz.isAgg311 Tryz.zeroValue311 rfl rfl rfl (info_map Tryz.type311 rfl)
def x312 : XT := ⟨TypeDesc.func #[26, 3, 3, 229] #[4] false, 1, false, [.nilf], 8⟩
theorem x312_ok : TyOK Tryz.prog 312 x312 := tyok Tryz.underlying312 Tryz.sizeOf312 Tryz.isAgg312 Tryz.zeroValue312 rfl rfl rfl (info_map Tryz.type312 rfl)
def x313 : XT := ⟨TypeDesc.func #[26, 3, 3, 3, 229] #[3] false, 1, false, [.nilf], 8⟩
theorem x313_ok : TyOK Tryz.prog 313 x313 := tyok Tryz.underlying313 Tryz.sizeOf313 Tryz.isAgg313 Tryz.zeroValue313 rfl rfl rfl (info_map Tryz.type313 rfl)
def x314 : XT := ⟨TypeDesc.func #[26, 3, 3, 3, 229] #[3, 4] false, 1, false, [.nilf], 8⟩
theorem x314_ok : TyOK Tryz.prog 314 x314 := tyok Tryz.underlying314 Tryz.sizeOf314 Tryz.isAgg314 Tryz.zeroValue314 rfl rfl rfl (info_map Tryz.type314 rfl)
def x315 : XT := ⟨TypeDesc.pointer 281, 1, false, [.nilp], 8⟩
theorem x315_ok : TyOK Tryz.prog 315 x315 := tyok Tryz.underlying315 Tryz.sizeOf315 Tryz.isAgg315 Tryz.zeroValue315 rfl rfl rfl (info_map Tryz.type315 rfl)
def x317 : XT := ⟨TypeDesc.func #[22, 3, 3, 285, 116] #[3, 3] false, 1, false, [.nilf], 8⟩
theorem x317_ok : TyOK Tryz.prog 317 x317 := tyok Tryz.underlying317 Tryz.sizeOf317 Tryz.isAgg317 Tryz.zeroValue317 rfl rfl rfl (info_map Tryz.type317 rfl)
def x319 : XT := ⟨TypeDesc.func #[9] #[21, 3] false, 1, false, [.nilf], 8⟩
theorem x319_ok : TyOK Tryz.prog 319 x319 := tyok Tryz.underlying319 Tryz.sizeOf319 Tryz.isAgg319 Tryz.zeroValue319 rfl rfl rfl (info_map Tryz.type319 rfl)
def x320 : XT := ⟨TypeDesc.func #[87, 89] #[4] false, 1, false, [.nilf], 8⟩
theorem x320_ok : TyOK Tryz.prog 320 x320 := tyok Tryz.underlying320 Tryz.sizeOf320 Tryz.isAgg320 Tryz.zeroValue320 rfl rfl rfl (info_map Tryz.type320 rfl)
def x321 : XT := ⟨TypeDesc.func #[34, 3, 285] #[3] false, 1, false, [.nilf], 8⟩
theorem x321_ok : TyOK Tryz.prog 321 x321 := tyok Tryz.underlying321 Tryz.sizeOf321 Tryz.isAgg321 Tryz.zeroValue321 rfl rfl rfl (info_map Tryz.type321 rfl)
def x322 : XT := ⟨TypeDesc.func #[34, 3, 3, 3, 285] #[3] false, 1, false, [.nilf], 8⟩
theorem x322_ok : TyOK Tryz.prog 322 x322 := tyok Tryz.underlying322 Tryz.sizeOf322 Tryz.isAgg322 Tryz.zeroValue322 rfl rfl rfl (info_map Tryz.type322 rfl)
def x323 : XT := ⟨TypeDesc.func #[45, 9] #[4] false, 1, false, [.nilf], 8⟩
theorem x323_ok : TyOK Tryz.prog 323 x323 := tyok Tryz.underlying323 Tryz.sizeOf323 Tryz.isAgg323 Tryz.zeroValue323 rfl rfl rfl (info_map Tryz.type323 rfl)
def x324 : XT := ⟨TypeDesc.func #[] #[45] false, 1, false, [.nilf], 8⟩
theorem x324_ok : TyOK Tryz.prog 324 x324 := tyok Tryz.underlying324 Tryz.sizeOf324 Tryz.isAgg324 Tryz.zeroValue324 rfl rfl rfl (info_map Tryz.type324 rfl)
def x325 : XT := ⟨TypeDesc.func #[22] #[23] true, 1, false, [.nilf], 8⟩
theorem x325_ok : TyOK Tryz.prog 325 x325 := tyok Tryz.underlying325 Tryz.sizeOf325 Tryz.isAgg325 Tryz.zeroValue325 rfl rfl rfl (info_map Tryz.type325 rfl)
def x327 : XT := ⟨TypeDesc.func #[23, 9] #[29, 23, 4] false, 1, false, [.nilf], 8⟩
theorem x327_ok : TyOK Tryz.prog 327 x327 := tyok Tryz.underlying327 Tryz.sizeOf327 Tryz.isAgg327 Tryz.zeroValue327 rfl rfl rfl (info_map Tryz.type327 rfl)
def x328 : XT := ⟨TypeDesc.func #[26, 3, 285, 229] #[3] false, 1, false, [.nilf], 8⟩
theorem x328_ok : TyOK Tryz.prog 328 x328 := tyok Tryz.underlying328 Tryz.sizeOf328 Tryz.isAgg328 Tryz.zeroValue328 rfl rfl rfl (info_map Tryz.type328 rfl)
def x329 : XT := ⟨TypeDesc.func #[26, 3, 3, 3, 285, 229] #[3] false, 1, false, [.nilf], 8⟩
theorem x329_ok : TyOK Tryz.prog 329 x329 := tyok Tryz.underlying329 Tryz.sizeOf329 Tryz.isAgg329 Tryz.zeroValue329 rfl rfl rfl (info_map Tryz.type329 rfl)
def x330 : XT := ⟨TypeDesc.array 32 5, 32, true, [.int .u8 0, .int .u8 0, .int .u8 0, .int .u8 0, .int .u8 0, .int .u8 0, .int .u8 0, .int .u8 0, .int .u8 0, .int .u8 0, .int .u8 0, .int .u8 0, .int .u8 0, .int .u8 0, .int .u8 0, .int .u8 0, .int .u8 0, .int .u8 0, .int .u8 0, .int .u8 0, .int .u8 0, .int .u8 0, .int .u8 0, .int .u8 0, .int .u8 0, .int .u8 0, .int .u8 0, .int .u8 0, .int .u8 0, .int .u8 0, .int .u8 0, .int .u8 0], 32⟩
theorem x330_ok : TyOK Tryz.prog 330 x330 := tyok Tryz.underlying330 Tryz.sizeOf330 Tryz.isAgg330 Tryz.zeroValue330 rfl rfl rfl (info_map Tryz.type330 rfl)
def x331 : XT := ⟨TypeDesc.array 64 5, 64, true, [.int .u8 0, .int .u8 0, .int .u8 0, .int .u8 0, .int .u8 0, .int .u8 0, .int .u8 0, .int .u8 0, .int .u8 0, .int .u8 0, .int .u8 0, .int .u8 0, .int .u8 0, .int .u8 0, .int .u8 0, .int .u8 0, .int .u8 0, .int .u8 0, .int .u8 0, .int .u8 0, .int .u8 0, .int .u8 0, .int .u8 0, .int .u8 0, .int .u8 0, .int .u8 0, .int .u8 0, .int .u8 0, .int .u8 0, .int .u8 0, .int .u8 0, .int .u8 0, .int .u8 0, .int .u8 0, .int .u8 0, .int .u8 0, .int .u8 0, .int .u8 0, .int .u8 0, .int .u8 0, .int .u8 0, .int .u8 0, .int .u8 0, .int .u8 0, .int .u8 0, .int .u8 0, .int .u8 0, .int .u8 0, .int .u8 0, .int .u8 0, .int .u8 0, .int .u8 0, .int .u8 0, .int .u8 0, .int .u8 0, .int .u8 0, .int .u8 0, .int .u8 0, .int .u8 0, .int .u8 0, .int .u8 0, .int .u8 0, .int .u8 0, .int .u8 0], 64⟩
theorem x331_ok : TyOK Tryz.prog 331 x331 := tyok Tryz.underlying331 Tryz.sizeOf331 Tryz.isAgg331 Tryz.zeroValue331 rfl rfl rfl (info_map Tryz.type331 rfl)
def x332 : XT := ⟨TypeDesc.func #[34, 3, 3, 285] #[3, 3] false, 1, false, [.nilf], 8⟩
theorem x332_ok : TyOK Tryz.prog 332 x332 := tyok Tryz.underlying332 Tryz.sizeOf332 Tryz.isAgg332 Tryz.zeroValue332 rfl rfl rfl (info_map Tryz.type332 rfl)
def x333 : XT := ⟨TypeDesc.func #[23, 3, 3] #[23] false, 1, false, [.nilf], 8⟩
theorem x333_ok : TyOK Tryz.prog 333 x333 := tyok Tryz.underlying333 Tryz.sizeOf333 Tryz.isAgg333 Tryz.zeroValue333 rfl rfl rfl (info_map Tryz.type333 rfl)
def x334 : XT := ⟨TypeDesc.func #[26, 3, 3, 285, 229] #[3, 3] false, 1, false, [.nilf], 8⟩
theorem x334_ok : TyOK Tryz.prog 334 x334 := tyok Tryz.underlying334 Tryz.sizeOf334 Tryz.isAgg334 Tryz.zeroValue334 rfl rfl rfl (info_map Tryz.type334 rfl)
def x336 : XT := ⟨TypeDesc.struct #[{ name := "lo", type := 5, offset := 0, embedded := false, tag := "", pkgPath := "unicode/utf8", byteOffset := 0 }, { name := "hi", type := 5, offset := 1, embedded := false, tag := "", pkgPath := "unicode/utf8", byteOffset := 1 }], 2, true, [.int .u8 0, .int .u8 0], 2⟩
theorem x336_ok : TyOK Tryz.prog 336 x336 := tyok Tryz.underlying336 Tryz.sizeOf336 Tryz.isAgg336 Tryz.zeroValue336 rfl rfl rfl (info_map Tryz.type336 rfl)
def x337 : XT := ⟨TypeDesc.struct #[{ name := "lo", type := 5, offset := 0, embedded := false, tag := "", pkgPath := "unicode/utf8", byteOffset := 0 }, { name := "hi", type := 5, offset := 1, embedded := false, tag := "", pkgPath := "unicode/utf8", byteOffset := 1 }], 2, true, [.int .u8 0, .int .u8 0], 2⟩
theorem x337_ok : TyOK Tryz.prog 337 x337 := tyok Tryz.underlying337 Tryz.sizeOf337 Tryz.isAgg337 Tryz.zeroValue337 rfl rfl rfl (info_map Tryz.type337 rfl)
def x338 : XT := ⟨TypeDesc.array 16 337, 32, true, [.int .u8 0, .int .u8 0, .int .u8 0, .int .u8 0, .int .u8 0, .int .u8 0, .int .u8 0, .int .u8 0, .int .u8 0, .int .u8 0, .int .u8 0, .int .u8 0, .int .u8 0, .int .u8 0, .int .u8 0, .int .u8 0, .int .u8 0, .int .u8 0, .int .u8 0, .int .u8 0, .int .u8 0, .int .u8 0, .int .u8 0, .int .u8 0, .int .u8 0, .int .u8 0, .int .u8 0, .int .u8 0, .int .u8 0, .int .u8 0, .int .u8 0, .int .u8 0], 32⟩
theorem x338_ok : TyOK Tryz.prog 338 x338 := tyok Tryz.underlying338 Tryz.sizeOf338 Tryz.isAgg338 Tryz.zeroValue338 rfl rfl rfl (info_map Tryz.type338 rfl)
def x339 : XT := ⟨TypeDesc.struct #[{ name := "_interface", type := 17, offset := 0, embedded := false, tag := "", pkgPath := "runtime", byteOffset := 0 }, { name := "concrete", type := 17, offset := 1, embedded := false, tag := "", pkgPath := "runtime", byteOffset := 8 }, { name := "asserted", type := 17, offset := 2, embedded := false, tag := "", pkgPath := "runtime", byteOffset := 16 }, { name := "missingMethod", type := 9, offset := 3, embedded := false, tag := "", pkgPath := "runtime", byteOffset := 24 }], 4, true, [.nilp, .nilp, .nilp, .str []], 40⟩
theorem x339_ok : TyOK Tryz.prog 339 x339 := tyok Tryz.underlying339 Tryz.sizeOf339 Tryz.isAgg339 Tryz.zeroValue339 rfl rfl rfl (info_map Tryz.type339 rfl)
def x340 : XT := ⟨TypeDesc.struct #[{ name := "_interface", type := 17, offset := 0, embedded := false, tag := "", pkgPath := "runtime", byteOffset := 0 }, { name := "concrete", type := 17, offset := 1, embedded := false, tag := "", pkgPath := "runtime", byteOffset := 8 }, { name := "asserted", type := 17, offset := 2, embedded := false, tag := "", pkgPath := "runtime", byteOffset := 16 }, { name := "missingMethod", type := 9, offset := 3, embedded := false, tag := "", pkgPath := "runtime", byteOffset := 24 }], 4, true, [.nilp, .nilp, .nilp, .str []], 40⟩
theorem x340_ok : TyOK Tryz.prog 340 x340 := tyok Tryz.underlying340 Tryz.sizeOf340 Tryz.isAgg340 Tryz.zeroValue340 rfl rfl rfl (info_map Tryz.type340 rfl)
def x341 : XT := ⟨TypeDesc.array 0 16, 0, true, [], 0⟩
theorem x341_ok : TyOK Tryz.prog 341 x341 := tyok Tryz.underlying341 Tryz.sizeOf341 Tryz.isAgg341 Tryz.zeroValue341 rfl rfl rfl (info_map Tryz.type341 rfl)
def x342 : XT := ⟨TypeDesc.struct #[{ name := "_", type := 341, offset := 0, embedded := false, tag := "", pkgPath := "runtime", byteOffset := 0 }], 0, true, [], 0⟩
theorem x342_ok : TyOK Tryz.prog 342 x342 := tyok Tryz.underlying342 Tryz.sizeOf342 Tryz.isAgg342 Tryz.zeroValue342 rfl rfl rfl (info_map Tryz.type342 rfl)
def x343 : XT := ⟨TypeDesc.struct #[{ name := "_", type := 341, offset := 0, embedded := false, tag := "", pkgPath := "runtime", byteOffset := 0 }], 0, true, [], 0⟩
theorem x343_ok : TyOK Tryz.prog 343 x343 := tyok Tryz.underlying343 Tryz.sizeOf343 Tryz.isAgg343 Tryz.zeroValue343 rfl rfl rfl (info_map Tryz.type343 rfl)
def x344 : XT := ⟨TypeDesc.func #[] #[3] false, 1, false, [.nilf], 8⟩
theorem x344_ok : TyOK Tryz.prog 344 x344 := tyok Tryz.underlying344 Tryz.sizeOf344 Tryz.isAgg344 Tryz.zeroValue344 rfl rfl rfl (info_map Tryz.type344 rfl)
def x345 : XT := ⟨TypeDesc.int IntKind.u8, 1, false, [.int .u8 0], 1⟩
theorem x345_ok : TyOK Tryz.prog 345 x345 := tyok Tryz.underlying345 Tryz.sizeOf345 Tryz.isAgg345 Tryz.zeroValue345 rfl rfl rfl (info_map Tryz.type345 rfl)
def x346 : XT := ⟨TypeDesc.int IntKind.u8, 1, false, [.int .u8 0], 1⟩
theorem x346_ok : TyOK Tryz.prog 346 x346 := tyok Tryz.underlying346 Tryz.sizeOf346 Tryz.isAgg346 Tryz.zeroValue346 rfl rfl rfl (info_map Tryz.type346 rfl)
def x347 : XT := ⟨TypeDesc.func #[268, 268] #[4] false, 1, false, [.nilf], 8⟩
theorem x347_ok : TyOK Tryz.prog 347 x347 := tyok Tryz.underlying347 Tryz.sizeOf347 Tryz.isAgg347 Tryz.zeroValue347 rfl rfl rfl (info_map Tryz.type347 rfl)
def x348 : XT := ⟨TypeDesc.int IntKind.i32, 1, false, [.int .i32 0], 4⟩
theorem x348_ok : TyOK Tryz.prog 348 x348 := tyok Tryz.underlying348 Tryz.sizeOf348 Tryz.isAgg348 Tryz.zeroValue348 rfl rfl rfl (info_map Tryz.type348 rfl)
def x349 : XT := ⟨TypeDesc.int IntKind.i32, 1, false, [.int .i32 0], 4⟩
theorem x349_ok : TyOK Tryz.prog 349 x349 := tyok Tryz.underlying349 Tryz.sizeOf349 Tryz.isAgg349 Tryz.zeroValue349 rfl rfl rfl (info_map Tryz.type349 rfl)
def x350 : XT := ⟨TypeDesc.struct #[{ name := "Size_", type := 12, offset := 0, embedded := false, tag := "", pkgPath := "", byteOffset := 0 }, { name := "PtrBytes", type := 12, offset := 1, embedded := false, tag := "", pkgPath := "", byteOffset := 8 }, { name := "Hash", type := 196, offset := 2, embedded := false, tag := "", pkgPath := "", byteOffset := 16 }, { name := "TFlag", type := 345, offset := 3, embedded := false, tag := "", pkgPath := "", byteOffset := 20 }, { name := "Align_", type := 5, offset := 4, embedded := false, tag := "", pkgPath := "", byteOffset := 21 }, { name := "FieldAlign_", type := 5, offset := 5, embedded := false, tag := "", pkgPath := "", byteOffset := 22 }, { name := "Kind_", type := 346, offset := 6, embedded := false, tag := "", pkgPath := "", byteOffset := 23 }, { name := "Equal", type := 347, offset := 7, embedded := false, tag := "", pkgPath := "", byteOffset := 24 }, { name := "GCData", type := 208, offset := 8, embedded := false, tag := "", pkgPath := "", byteOffset := 32 }, { name := "Str", type := 348, offset := 9, embedded := false, tag := "", pkgPath := "", byteOffset := 40 }, { name := "PtrToThis", type := 349, offset := 10, embedded := false, tag := "", pkgPath := "", byteOffset := 44 }], 11, true, [.int .u64 0, .int .u64 0, .int .u32 0, .int .u8 0, .int .u8 0, .int .u8 0, .int .u8 0, .nilf, .nilp, .int .i32 0, .int .i32 0], 48⟩
theorem x350_ok : TyOK Tryz.prog 350 x350 := tyok Tryz.underlying350 Tryz.sizeOf350 Tryz.isAgg350 Tryz.zeroValue350 rfl rfl rfl (info_map Tryz.type350 rfl)
def x351 : XT := ⟨TypeDesc.struct #[{ name := "Size_", type := 12, offset := 0, embedded := false, tag := "", pkgPath := "", byteOffset := 0 }, { name := "PtrBytes", type := 12, offset := 1, embedded := false, tag := "", pkgPath := "", byteOffset := 8 }, { name := "Hash", type := 196, offset := 2, embedded := false, tag := "", pkgPath := "", byteOffset := 16 }, { name := "TFlag", type := 345, offset := 3, embedded := false, tag := "", pkgPath := "", byteOffset := 20 }, { name := "Align_", type := 5, offset := 4, embedded := false, tag := "", pkgPath := "", byteOffset := 21 }, { name := "FieldAlign_", type := 5, offset := 5, embedded := false, tag := "", pkgPath := "", byteOffset := 22 }, { name := "Kind_", type := 346, offset := 6, embedded := false, tag := "", pkgPath := "", byteOffset := 23 }, { name := "Equal", type := 347, offset := 7, embedded := false, tag := "", pkgPath := "", byteOffset := 24 }, { name := "GCData", type := 208, offset := 8, embedded := false, tag := "", pkgPath := "", byteOffset := 32 }, { name := "Str", type := 348, offset := 9, embedded := false, tag := "", pkgPath := "", byteOffset := 40 }, { name := "PtrToThis", type := 349, offset := 10, embedded := false, tag := "", pkgPath := "", byteOffset := 44 }], 11, true, [.int .u64 0, .int .u64 0, .int .u32 0, .int .u8 0, .int .u8 0, .int .u8 0, .int .u8 0, .nilf, .nilp, .int .i32 0, .int .i32 0], 48⟩
theorem x351_ok : TyOK Tryz.prog 351 x351 := tyok Tryz.underlying351 Tryz.sizeOf351 Tryz.isAgg351 Tryz.zeroValue351 rfl rfl rfl (info_map Tryz.type351 rfl)
def x352 : XT := ⟨TypeDesc.slice 364, 1, false, [.nils], 24⟩
theorem x352_ok : TyOK Tryz.prog 352 x352 := tyok Tryz.underlying352 Tryz.sizeOf352 Tryz.isAgg352 Tryz.zeroValue352 rfl rfl rfl (info_map Tryz.type352 rfl)
def x353 : XT := ⟨TypeDesc.slice 366, 1, false, [.nils], 24⟩
theorem x353_ok : TyOK Tryz.prog 353 x353 := tyok Tryz.underlying353 Tryz.sizeOf353 Tryz.isAgg353 Tryz.zeroValue353 rfl rfl rfl (info_map Tryz.type353 rfl)
def x354 : XT := ⟨TypeDesc.slice 368, 1, false, [.nils], 24⟩
theorem x354_ok : TyOK Tryz.prog 354 x354 := tyok Tryz.underlying354 Tryz.sizeOf354 Tryz.isAgg354 Tryz.zeroValue354 rfl rfl rfl (info_map Tryz.type354 rfl)
def x355 : XT := ⟨TypeDesc.slice 370, 1, false, [.nils], 24⟩
theorem x355_ok : TyOK Tryz.prog 355 x355 := tyok Tryz.underlying355 Tryz.sizeOf355 Tryz.isAgg355 Tryz.zeroValue355 rfl rfl rfl (info_map Tryz.type355 rfl)
def x356 : XT := ⟨TypeDesc.struct #[{ name := "Path", type := 9, offset := 0, embedded := false, tag := "", pkgPath := "", byteOffset := 0 }, { name := "Types", type := 352, offset := 1, embedded := false, tag := "", pkgPath := "", byteOffset := 16 }, { name := "Values", type := 353, offset := 2, embedded := false, tag := "", pkgPath := "", byteOffset := 40 }, { name := "Aliases", type := 354, offset := 3, embedded := false, tag := "", pkgPath := "", byteOffset := 64 }, { name := "Deprecated", type := 355, offset := 4, embedded := false, tag := "", pkgPath := "", byteOffset := 88 }], 5, true, [.str [], .nils, .nils, .nils, .nils], 112⟩
theorem x356_ok : TyOK Tryz.prog 356 x356 := tyok Tryz.underlying356 Tryz.sizeOf356 Tryz.isAgg356 Tryz.zeroValue356 rfl rfl rfl (info_map Tryz.type356 rfl)
def x357 : XT := ⟨TypeDesc.struct #[{ name := "Path", type := 9, offset := 0, embedded := false, tag := "", pkgPath := "", byteOffset := 0 }, { name := "Types", type := 352, offset := 1, embedded := false, tag := "", pkgPath := "", byteOffset := 16 }, { name := "Values", type := 353, offset := 2, embedded := false, tag := "", pkgPath := "", byteOffset := 40 }, { name := "Aliases", type := 354, offset := 3, embedded := false, tag := "", pkgPath := "", byteOffset := 64 }, { name := "Deprecated", type := 355, offset := 4, embedded := false, tag := "", pkgPath := "", byteOffset := 88 }], 5, true, [.str [], .nils, .nils, .nils, .nils], 112⟩
theorem x357_ok : TyOK Tryz.prog 357 x357 := tyok Tryz.underlying357 Tryz.sizeOf357 Tryz.isAgg357 Tryz.zeroValue357 rfl rfl rfl (info_map Tryz.type357 rfl)
def x358 : XT := ⟨TypeDesc.slice 372, 1, false, [.nils], 24⟩
theorem x358_ok : TyOK Tryz.prog 358 x358 := tyok Tryz.underlying358 Tryz.sizeOf358 Tryz.isAgg358 Tryz.zeroValue358 rfl rfl rfl (info_map Tryz.type358 rfl)
def x359 : XT := ⟨TypeDesc.slice 362, 1, false, [.nils], 24⟩
theorem x359_ok : TyOK Tryz.prog 359 x359 := tyok Tryz.underlying359 Tryz.sizeOf359 Tryz.isAgg359 Tryz.zeroValue359 rfl rfl rfl (info_map Tryz.type359 rfl)
def x360 : XT := ⟨TypeDesc.slice 374, 1, false, [.nils], 24⟩
theorem x360_ok : TyOK Tryz.prog 360 x360 := tyok Tryz.underlying360 Tryz.sizeOf360 Tryz.isAgg360 Tryz.zeroValue360 rfl rfl rfl (info_map Tryz.type360 rfl)
def x361 : XT := ⟨TypeDesc.struct #[{ name := "Kind", type := 3, offset := 0, embedded := false, tag := "", pkgPath := "", byteOffset := 0 }, { name := "Module", type := 9, offset := 1, embedded := false, tag := "", pkgPath := "", byteOffset := 8 }, { name := "Name", type := 9, offset := 2, embedded := false, tag := "", pkgPath := "", byteOffset := 24 }, { name := "Args", type := 359, offset := 3, embedded := false, tag := "", pkgPath := "", byteOffset := 40 }, { name := "Fields", type := 360, offset := 4, embedded := false, tag := "", pkgPath := "", byteOffset := 64 }], 5, true, [.int .i64 0, .str [], .str [], .nils, .nils], 88⟩
theorem x361_ok : TyOK Tryz.prog 361 x361 := tyok Tryz.underlying361 Tryz.sizeOf361 Tryz.isAgg361 Tryz.zeroValue361 rfl rfl rfl (info_map Tryz.type361 rfl)
def x362 : XT := ⟨TypeDesc.struct #[{ name := "Kind", type := 3, offset := 0, embedded := false, tag := "", pkgPath := "", byteOffset := 0 }, { name := "Module", type := 9, offset := 1, embedded := false, tag := "", pkgPath := "", byteOffset := 8 }, { name := "Name", type := 9, offset := 2, embedded := false, tag := "", pkgPath := "", byteOffset := 24 }, { name := "Args", type := 359, offset := 3, embedded := false, tag := "", pkgPath := "", byteOffset := 40 }, { name := "Fields", type := 360, offset := 4, embedded := false, tag := "", pkgPath := "", byteOffset := 64 }], 5, true, [.int .i64 0, .str [], .str [], .nils, .nils], 88⟩
theorem x362_ok : TyOK Tryz.prog 362 x362 := tyok Tryz.underlying362 Tryz.sizeOf362 Tryz.isAgg362 Tryz.zeroValue362 rfl rfl rfl (info_map Tryz.type362 rfl)
def x363 : XT := ⟨TypeDesc.struct #[{ name := "Name", type := 9, offset := 0, embedded := false, tag := "", pkgPath := "", byteOffset := 0 }, { name := "Params", type := 358, offset := 1, embedded := false, tag := "", pkgPath := "", byteOffset := 16 }, { name := "Lower", type := 362, offset := 2, embedded := false, tag := "", pkgPath := "", byteOffset := 40 }, { name := "Upper", type := 362, offset := 7, embedded := false, tag := "", pkgPath := "", byteOffset := 128 }], 12, true, [.str [], .nils, .int .i64 0, .str [], .str [], .nils, .nils, .int .i64 0, .str [], .str [], .nils, .nils], 216⟩
theorem x363_ok : TyOK Tryz.prog 363 x363 := tyok Tryz.underlying363 Tryz.sizeOf363 Tryz.isAgg363 Tryz.zeroValue363 rfl rfl rfl (info_map Tryz.type363 rfl)
def x364 : XT := ⟨TypeDesc.struct #[{ name := "Name", type := 9, offset := 0, embedded := false, tag := "", pkgPath := "", byteOffset := 0 }, { name := "Params", type := 358, offset := 1, embedded := false, tag := "", pkgPath := "", byteOffset := 16 }, { name := "Lower", type := 362, offset := 2, embedded := false, tag := "", pkgPath := "", byteOffset := 40 }, { name := "Upper", type := 362, offset := 7, embedded := false, tag := "", pkgPath := "", byteOffset := 128 }], 12, true, [.str [], .nils, .int .i64 0, .str [], .str [], .nils, .nils, .int .i64 0, .str [], .str [], .nils, .nils], 216⟩
theorem x364_ok : TyOK Tryz.prog 364 x364 := tyok Tryz.underlying364 Tryz.sizeOf364 Tryz.isAgg364 Tryz.zeroValue364 rfl rfl rfl (info_map Tryz.type364 rfl)
def x365 : XT := ⟨TypeDesc.struct #[{ name := "Name", type := 9, offset := 0, embedded := false, tag := "", pkgPath := "", byteOffset := 0 }, { name := "Params", type := 358, offset := 1, embedded := false, tag := "", pkgPath := "", byteOffset := 16 }, { name := "Type", type := 362, offset := 2, embedded := false, tag := "", pkgPath := "", byteOffset := 40 }], 7, true, [.str [], .nils, .int .i64 0, .str [], .str [], .nils, .nils], 128⟩
theorem x365_ok : TyOK Tryz.prog 365 x365 := tyok Tryz.underlying365 Tryz.sizeOf365 Tryz.isAgg365 Tryz.zeroValue365 rfl rfl rfl (info_map Tryz.type365 rfl)
def x366 : XT := ⟨TypeDesc.struct #[{ name := "Name", type := 9, offset := 0, embedded := false, tag := "", pkgPath := "", byteOffset := 0 }, { name := "Params", type := 358, offset := 1, embedded := false, tag := "", pkgPath := "", byteOffset := 16 }, { name := "Type", type := 362, offset := 2, embedded := false, tag := "", pkgPath := "", byteOffset := 40 }], 7, true, [.str [], .nils, .int .i64 0, .str [], .str [], .nils, .nils], 128⟩
theorem x366_ok : TyOK Tryz.prog 366 x366 := tyok Tryz.underlying366 Tryz.sizeOf366 Tryz.isAgg366 Tryz.zeroValue366 rfl rfl rfl (info_map Tryz.type366 rfl)
def x367 : XT := ⟨TypeDesc.struct #[{ name := "Name", type := 9, offset := 0, embedded := false, tag := "", pkgPath := "", byteOffset := 0 }, { name := "Module", type := 9, offset := 1, embedded := false, tag := "", pkgPath := "", byteOffset := 16 }, { name := "Target", type := 9, offset := 2, embedded := false, tag := "", pkgPath := "", byteOffset := 32 }], 3, true, [.str [], .str [], .str []], 48⟩
theorem x367_ok : TyOK Tryz.prog 367 x367 := tyok Tryz.underlying367 Tryz.sizeOf367 Tryz.isAgg367 Tryz.zeroValue367 rfl rfl rfl (info_map Tryz.type367 rfl)
def x368 : XT := ⟨TypeDesc.struct #[{ name := "Name", type := 9, offset := 0, embedded := false, tag := "", pkgPath := "", byteOffset := 0 }, { name := "Module", type := 9, offset := 1, embedded := false, tag := "", pkgPath := "", byteOffset := 16 }, { name := "Target", type := 9, offset := 2, embedded := false, tag := "", pkgPath := "", byteOffset := 32 }], 3, true, [.str [], .str [], .str []], 48⟩
theorem x368_ok : TyOK Tryz.prog 368 x368 := tyok Tryz.underlying368 Tryz.sizeOf368 Tryz.isAgg368 Tryz.zeroValue368 rfl rfl rfl (info_map Tryz.type368 rfl)
def x369 : XT := ⟨TypeDesc.struct #[{ name := "Name", type := 9, offset := 0, embedded := false, tag := "", pkgPath := "", byteOffset := 0 }, { name := "Note", type := 9, offset := 1, embedded := false, tag := "", pkgPath := "", byteOffset := 16 }], 2, true, [.str [], .str []], 32⟩
theorem x369_ok : TyOK Tryz.prog 369 x369 := tyok Tryz.underlying369 Tryz.sizeOf369 Tryz.isAgg369 Tryz.zeroValue369 rfl rfl rfl (info_map Tryz.type369 rfl)
def x370 : XT := ⟨TypeDesc.struct #[{ name := "Name", type := 9, offset := 0, embedded := false, tag := "", pkgPath := "", byteOffset := 0 }, { name := "Note", type := 9, offset := 1, embedded := false, tag := "", pkgPath := "", byteOffset := 16 }], 2, true, [.str [], .str []], 32⟩
theorem x370_ok : TyOK Tryz.prog 370 x370 := tyok Tryz.underlying370 Tryz.sizeOf370 Tryz.isAgg370 Tryz.zeroValue370 rfl rfl rfl (info_map Tryz.type370 rfl)
def x371 : XT := ⟨TypeDesc.struct #[{ name := "Name", type := 9, offset := 0, embedded := false, tag := "", pkgPath := "", byteOffset := 0 }, { name := "Variance", type := 3, offset := 1, embedded := false, tag := "", pkgPath := "", byteOffset := 16 }, { name := "Bound", type := 362, offset := 2, embedded := false, tag := "", pkgPath := "", byteOffset := 24 }], 7, true, [.str [], .int .i64 0, .int .i64 0, .str [], .str [], .nils, .nils], 112⟩
theorem x371_ok : TyOK Tryz.prog 371 x371 := tyok Tryz.underlying371 Tryz.sizeOf371 Tryz.isAgg371 Tryz.zeroValue371 rfl rfl rfl (info_map Tryz.type371 rfl)
def x372 : XT := ⟨TypeDesc.struct #[{ name := "Name", type := 9, offset := 0, embedded := false, tag := "", pkgPath := "", byteOffset := 0 }, { name := "Variance", type := 3, offset := 1, embedded := false, tag := "", pkgPath := "", byteOffset := 16 }, { name := "Bound", type := 362, offset := 2, embedded := false, tag := "", pkgPath := "", byteOffset := 24 }], 7, true, [.str [], .int .i64 0, .int .i64 0, .str [], .str [], .nils, .nils], 112⟩
theorem x372_ok : TyOK Tryz.prog 372 x372 := tyok Tryz.underlying372 Tryz.sizeOf372 Tryz.isAgg372 Tryz.zeroValue372 rfl rfl rfl (info_map Tryz.type372 rfl)
def x373 : XT := ⟨TypeDesc.struct #[{ name := "Name", type := 9, offset := 0, embedded := false, tag := "", pkgPath := "", byteOffset := 0 }, { name := "Type", type := 362, offset := 1, embedded := false, tag := "", pkgPath := "", byteOffset := 16 }, { name := "Optional", type := 4, offset := 6, embedded := false, tag := "", pkgPath := "", byteOffset := 104 }], 7, true, [.str [], .int .i64 0, .str [], .str [], .nils, .nils, .bool false], 112⟩
theorem x373_ok : TyOK Tryz.prog 373 x373 := tyok Tryz.underlying373 Tryz.sizeOf373 Tryz.isAgg373 Tryz.zeroValue373 rfl rfl rfl (info_map Tryz.type373 rfl)
def x374 : XT := ⟨TypeDesc.struct #[{ name := "Name", type := 9, offset := 0, embedded := false, tag := "", pkgPath := "", byteOffset := 0 }, { name := "Type", type := 362, offset := 1, embedded := false, tag := "", pkgPath := "", byteOffset := 16 }, { name := "Optional", type := 4, offset := 6, embedded := false, tag := "", pkgPath := "", byteOffset := 104 }], 7, true, [.str [], .int .i64 0, .str [], .str [], .nils, .nils, .bool false], 112⟩
theorem x374_ok : TyOK Tryz.prog 374 x374 := tyok Tryz.underlying374 Tryz.sizeOf374 Tryz.isAgg374 Tryz.zeroValue374 rfl rfl rfl (info_map Tryz.type374 rfl)
def tyT21 : Tr XT := .node (.node (.node (.node (.node .leaf 1 x1 .leaf) 2 x2 .leaf) 3 x3 (.node (.node .leaf 4 x4 .leaf) 5 x5 .leaf)) 6 x6 (.node (.node (.node .leaf 7 x7 .leaf) 8 x8 .leaf) 9 x9 (.node .leaf 10 x10 .leaf))) 11 x11 (.node (.node (.node (.node .leaf 12 x12 .leaf) 13 x13 .leaf) 14 x14 (.node (.node .leaf 15 x15 .leaf) 16 x16 .leaf)) 17 x17 (.node (.node (.node .leaf 18 x18 .leaf) 19 x19 .leaf) 20 x20 (.node .leaf 21 x21 .leaf)))
theorem tyT21_ok : tyT21.All (TyOK Tryz.prog) := ⟨⟨⟨⟨⟨trivial, x1_ok, trivial⟩, x2_ok, trivial⟩, x3_ok, ⟨⟨trivial, x4_ok, trivial⟩, x5_ok, trivial⟩⟩, x6_ok, ⟨⟨⟨trivial, x7_ok, trivial⟩, x8_ok, trivial⟩, x9_ok, ⟨trivial, x10_ok, trivial⟩⟩⟩, x11_ok, ⟨⟨⟨⟨trivial, x12_ok, trivial⟩, x13_ok, trivial⟩, x14_ok, ⟨⟨trivial, x15_ok, trivial⟩, x16_ok, trivial⟩⟩, x17_ok, ⟨⟨⟨trivial, x18_ok, trivial⟩, x19_ok, trivial⟩, x20_ok, ⟨trivial, x21_ok, trivial⟩⟩⟩⟩
def tyT41 : Tr XT := .node (.node (.node (.node (.node .leaf 23 x23 .leaf) 24 x24 .leaf) 25 x25 (.node (.node .leaf 26 x26 .leaf) 27 x27 .leaf)) 28 x28 (.node (.node (.node .leaf 29 x29 .leaf) 30 x30 .leaf) 31 x31 (.node .leaf 32 x32 .leaf))) 33 x33 (.node (.node (.node (.node .leaf 34 x34 .leaf) 35 x35 .leaf) 36 x36 (.node .leaf 37 x37 .leaf)) 38 x38 (.node (.node (.node .leaf 39 x39 .leaf) 40 x40 .leaf) 41 x41 (.node .leaf 42 x42 .leaf)))
theorem tyT41_ok : tyT41.All (TyOK Tryz.prog) := ⟨⟨⟨⟨⟨trivial, x23_ok, trivial⟩, x24_ok, trivial⟩, x25_ok, ⟨⟨trivial, x26_ok, trivial⟩, x27_ok, trivial⟩⟩, x28_ok, ⟨⟨⟨trivial, x29_ok, trivial⟩, x30_ok, trivial⟩, x31_ok, ⟨trivial, x32_ok, trivial⟩⟩⟩, x33_ok, ⟨⟨⟨⟨trivial, x34_ok, trivial⟩, x35_ok, trivial⟩, x36_ok, ⟨trivial, x37_ok, trivial⟩⟩, x38_ok, ⟨⟨⟨trivial, x39_ok, trivial⟩, x40_ok, trivial⟩, x41_ok, ⟨trivial, x42_ok, trivial⟩⟩⟩⟩
def tyT42 : Tr XT := .node tyT21 22 x22 tyT41
theorem tyT42_ok : tyT42.All (TyOK Tryz.prog) := ⟨tyT21_ok, x22_ok, tyT41_ok⟩
def tyT63 : Tr XT := .node (.node (.node (.node (.node .leaf 44 x44 .leaf) 45 x45 .leaf) 46 x46 (.node (.node .leaf 48 x48 .leaf) 49 x49 .leaf)) 50 x50 (.node (.node (.node .leaf 51 x51 .leaf) 52 x52 .leaf) 54 x54 (.node .leaf 55 x55 .leaf))) 56 x56 (.node (.node (.node (.node .leaf 57 x57 .leaf) 59 x59 .leaf) 60 x60 (.node (.node .leaf 62 x62 .leaf) 63 x63 .leaf)) 64 x64 (.node (.node (.node .leaf 65 x65 .leaf) 66 x66 .leaf) 67 x67 (.node .leaf 68 x68 .leaf)))
theorem tyT63_ok : tyT63.All (TyOK Tryz.prog) := ⟨⟨⟨⟨⟨trivial, x44_ok, trivial⟩, x45_ok, trivial⟩, x46_ok, ⟨⟨trivial, x48_ok, trivial⟩, x49_ok, trivial⟩⟩, x50_ok, ⟨⟨⟨trivial, x51_ok, trivial⟩, x52_ok, trivial⟩, x54_ok, ⟨trivial, x55_ok, trivial⟩⟩⟩, x56_ok, ⟨⟨⟨⟨trivial, x57_ok, trivial⟩, x59_ok, trivial⟩, x60_ok, ⟨⟨trivial, x62_ok, trivial⟩, x63_ok, trivial⟩⟩, x64_ok, ⟨⟨⟨trivial, x65_ok, trivial⟩, x66_ok, trivial⟩, x67_ok, ⟨trivial, x68_ok, trivial⟩⟩⟩⟩
def tyT83 : Tr XT := .node (.node (.node (.node (.node .leaf 70 x70 .leaf) 71 x71 .leaf) 72 x72 (.node (.node .leaf 73 x73 .leaf) 74 x74 .leaf)) 75 x75 (.node (.node (.node .leaf 77 x77 .leaf) 78 x78 .leaf) 79 x79 (.node .leaf 81 x81 .leaf))) 82 x82 (.node (.node (.node (.node .leaf 83 x83 .leaf) 84 x84 .leaf) 85 x85 (.node .leaf 86 x86 .leaf)) 87 x87 (.node (.node (.node .leaf 88 x88 .leaf) 89 x89 .leaf) 90 x90 (.node .leaf 91 x91 .leaf)))
theorem tyT83_ok : tyT83.All (TyOK Tryz.prog) := ⟨⟨⟨⟨⟨trivial, x70_ok, trivial⟩, x71_ok, trivial⟩, x72_ok, ⟨⟨trivial, x73_ok, trivial⟩, x74_ok, trivial⟩⟩, x75_ok, ⟨⟨⟨trivial, x77_ok, trivial⟩, x78_ok, trivial⟩, x79_ok, ⟨trivial, x81_ok, trivial⟩⟩⟩, x82_ok, ⟨⟨⟨⟨trivial, x83_ok, trivial⟩, x84_ok, trivial⟩, x85_ok, ⟨trivial, x86_ok, trivial⟩⟩, x87_ok, ⟨⟨⟨trivial, x88_ok, trivial⟩, x89_ok, trivial⟩, x90_ok, ⟨trivial, x91_ok, trivial⟩⟩⟩⟩
def tyT84 : Tr XT := .node tyT63 69 x69 tyT83
theorem tyT84_ok : tyT84.All (TyOK Tryz.prog) := ⟨tyT63_ok, x69_ok, tyT83_ok⟩
def tyT85 : Tr XT := .node tyT42 43 x43 tyT84
theorem tyT85_ok : tyT85.All (TyOK Tryz.prog) := ⟨tyT42_ok, x43_ok, tyT84_ok⟩
def tyT106 : Tr XT := .node (.node (.node (.node (.node .leaf 93 x93 .leaf) 94 x94 .leaf) 96 x96 (.node (.node .leaf 97 x97 .leaf) 98 x98 .leaf)) 99 x99 (.node (.node (.node .leaf 100 x100 .leaf) 101 x101 .leaf) 102 x102 (.node .leaf 103 x103 .leaf))) 104 x104 (.node (.node (.node (.node .leaf 105 x105 .leaf) 107 x107 .leaf) 108 x108 (.node (.node .leaf 109 x109 .leaf) 110 x110 .leaf)) 111 x111 (.node (.node (.node .leaf 112 x112 .leaf) 113 x113 .leaf) 114 x114 (.node .leaf 115 x115 .leaf)))
theorem tyT106_ok : tyT106.All (TyOK Tryz.prog) := ⟨⟨⟨⟨⟨trivial, x93_ok, trivial⟩, x94_ok, trivial⟩, x96_ok, ⟨⟨trivial, x97_ok, trivial⟩, x98_ok, trivial⟩⟩, x99_ok, ⟨⟨⟨trivial, x100_ok, trivial⟩, x101_ok, trivial⟩, x102_ok, ⟨trivial, x103_ok, trivial⟩⟩⟩, x104_ok, ⟨⟨⟨⟨trivial, x105_ok, trivial⟩, x107_ok, trivial⟩, x108_ok, ⟨⟨trivial, x109_ok, trivial⟩, x110_ok, trivial⟩⟩, x111_ok, ⟨⟨⟨trivial, x112_ok, trivial⟩, x113_ok, trivial⟩, x114_ok, ⟨trivial, x115_ok, trivial⟩⟩⟩⟩
def tyT126 : Tr XT := .node (.node (.node (.node (.node .leaf 117 x117 .leaf) 119 x119 .leaf) 120 x120 (.node (.node .leaf 121 x121 .leaf) 122 x122 .leaf)) 123 x123 (.node (.node (.node .leaf 124 x124 .leaf) 125 x125 .leaf) 126 x126 (.node .leaf 127 x127 .leaf))) 129 x129 (.node (.node (.node (.node .leaf 130 x130 .leaf) 131 x131 .leaf) 132 x132 (.node .leaf 134 x134 .leaf)) 135 x135 (.node (.node (.node .leaf 136 x136 .leaf) 137 x137 .leaf) 138 x138 (.node .leaf 139 x139 .leaf)))
theorem tyT126_ok : tyT126.All (TyOK Tryz.prog) := ⟨⟨⟨⟨⟨trivial, x117_ok, trivial⟩, x119_ok, trivial⟩, x120_ok, ⟨⟨trivial, x121_ok, trivial⟩, x122_ok, trivial⟩⟩, x123_ok, ⟨⟨⟨trivial, x124_ok, trivial⟩, x125_ok, trivial⟩, x126_ok, ⟨trivial, x127_ok, trivial⟩⟩⟩, x129_ok, ⟨⟨⟨⟨trivial, x130_ok, trivial⟩, x131_ok, trivial⟩, x132_ok, ⟨trivial, x134_ok, trivial⟩⟩, x135_ok, ⟨⟨⟨trivial, x136_ok, trivial⟩, x137_ok, trivial⟩, x138_ok, ⟨trivial, x139_ok, trivial⟩⟩⟩⟩
def tyT127 : Tr XT := .node tyT106 116 x116 tyT126
theorem tyT127_ok : tyT127.All (TyOK Tryz.prog) := ⟨tyT106_ok, x116_ok, tyT126_ok⟩
def tyT148 : Tr XT := .node (.node (.node (.node (.node .leaf 141 x141 .leaf) 142 x142 .leaf) 143 x143 (.node (.node .leaf 144 x144 .leaf) 145 x145 .leaf)) 146 x146 (.node (.node (.node .leaf 147 x147 .leaf) 148 x148 .leaf) 149 x149 (.node .leaf 150 x150 .leaf))) 151 x151 (.node (.node (.node (.node .leaf 152 x152 .leaf) 153 x153 .leaf) 154 x154 (.node (.node .leaf 156 x156 .leaf) 157 x157 .leaf)) 158 x158 (.node (.node (.node .leaf 159 x159 .leaf) 160 x160 .leaf) 162 x162 (.node .leaf 163 x163 .leaf)))
theorem tyT148_ok : tyT148.All (TyOK Tryz.prog) := ⟨⟨⟨⟨⟨trivial, x141_ok, trivial⟩, x142_ok, trivial⟩, x143_ok, ⟨⟨trivial, x144_ok, trivial⟩, x145_ok, trivial⟩⟩, x146_ok, ⟨⟨⟨trivial, x147_ok, trivial⟩, x148_ok, trivial⟩, x149_ok, ⟨trivial, x150_ok, trivial⟩⟩⟩, x151_ok, ⟨⟨⟨⟨trivial, x152_ok, trivial⟩, x153_ok, trivial⟩, x154_ok, ⟨⟨trivial, x156_ok, trivial⟩, x157_ok, trivial⟩⟩, x158_ok, ⟨⟨⟨trivial, x159_ok, trivial⟩, x160_ok, trivial⟩, x162_ok, ⟨trivial, x163_ok, trivial⟩⟩⟩⟩
def tyT168 : Tr XT := .node (.node (.node (.node (.node .leaf 166 x166 .leaf) 167 x167 .leaf) 168 x168 (.node (.node .leaf 169 x169 .leaf) 170 x170 .leaf)) 171 x171 (.node (.node (.node .leaf 173 x173 .leaf) 174 x174 .leaf) 175 x175 (.node .leaf 176 x176 .leaf))) 177 x177 (.node (.node (.node (.node .leaf 179 x179 .leaf) 181 x181 .leaf) 182 x182 (.node .leaf 184 x184 .leaf)) 185 x185 (.node (.node (.node .leaf 186 x186 .leaf) 187 x187 .leaf) 188 x188 (.node .leaf 189 x189 .leaf)))
theorem tyT168_ok : tyT168.All (TyOK Tryz.prog) := ⟨⟨⟨⟨⟨trivial, x166_ok, trivial⟩, x167_ok, trivial⟩, x168_ok, ⟨⟨trivial, x169_ok, trivial⟩, x170_ok, trivial⟩⟩, x171_ok, ⟨⟨⟨trivial, x173_ok, trivial⟩, x174_ok, trivial⟩, x175_ok, ⟨trivial, x176_ok, trivial⟩⟩⟩, x177_ok, ⟨⟨⟨⟨trivial, x179_ok, trivial⟩, x181_ok, trivial⟩, x182_ok, ⟨trivial, x184_ok, trivial⟩⟩, x185_ok, ⟨⟨⟨trivial, x186_ok, trivial⟩, x187_ok, trivial⟩, x188_ok, ⟨trivial, x189_ok, trivial⟩⟩⟩⟩
def tyT169 : Tr XT := .node tyT148 164 x164 tyT168
theorem tyT169_ok : tyT169.All (TyOK Tryz.prog) := ⟨tyT148_ok, x164_ok, tyT168_ok⟩
def tyT170 : Tr XT := .node tyT127 140 x140 tyT169
theorem tyT170_ok : tyT170.All (TyOK Tryz.prog) := ⟨tyT127_ok, x140_ok, tyT169_ok⟩
def tyT171 : Tr XT := .node tyT85 92 x92 tyT170
theorem tyT171_ok : tyT171.All (TyOK Tryz.prog) := ⟨tyT85_ok, x92_ok, tyT170_ok⟩
def tyT192 : Tr XT := .node (.node (.node (.node (.node .leaf 191 x191 .leaf) 192 x192 .leaf) 193 x193 (.node (.node .leaf 194 x194 .leaf) 195 x195 .leaf)) 196 x196 (.node (.node (.node .leaf 198 x198 .leaf) 199 x199 .leaf) 201 x201 (.node .leaf 202 x202 .leaf))) 203 x203 (.node (.node (.node (.node .leaf 204 x204 .leaf) 205 x205 .leaf) 206 x206 (.node (.node .leaf 207 x207 .leaf) 208 x208 .leaf)) 209 x209 (.node (.node (.node .leaf 210 x210 .leaf) 211 x211 .leaf) 212 x212 (.node .leaf 213 x213 .leaf)))
theorem tyT192_ok : tyT192.All (TyOK Tryz.prog) := ⟨⟨⟨⟨⟨trivial, x191_ok, trivial⟩, x192_ok, trivial⟩, x193_ok, ⟨⟨trivial, x194_ok, trivial⟩, x195_ok, trivial⟩⟩, x196_ok, ⟨⟨⟨trivial, x198_ok, trivial⟩, x199_ok, trivial⟩, x201_ok, ⟨trivial, x202_ok, trivial⟩⟩⟩, x203_ok, ⟨⟨⟨⟨trivial, x204_ok, trivial⟩, x205_ok, trivial⟩, x206_ok, ⟨⟨trivial, x207_ok, trivial⟩, x208_ok, trivial⟩⟩, x209_ok, ⟨⟨⟨trivial, x210_ok, trivial⟩, x211_ok, trivial⟩, x212_ok, ⟨trivial, x213_ok, trivial⟩⟩⟩⟩
def tyT212 : Tr XT := .node (.node (.node (.node (.node .leaf 216 x216 .leaf) 217 x217 .leaf) 218 x218 (.node (.node .leaf 219 x219 .leaf) 220 x220 .leaf)) 221 x221 (.node (.node (.node .leaf 222 x222 .leaf) 223 x223 .leaf) 224 x224 (.node .leaf 225 x225 .leaf))) 226 x226 (.node (.node (.node (.node .leaf 227 x227 .leaf) 228 x228 .leaf) 229 x229 (.node .leaf 230 x230 .leaf)) 231 x231 (.node (.node (.node .leaf 233 x233 .leaf) 234 x234 .leaf) 235 x235 (.node .leaf 236 x236 .leaf)))
theorem tyT212_ok : tyT212.All (TyOK Tryz.prog) := ⟨⟨⟨⟨⟨trivial, x216_ok, trivial⟩, x217_ok, trivial⟩, x218_ok, ⟨⟨trivial, x219_ok, trivial⟩, x220_ok, trivial⟩⟩, x221_ok, ⟨⟨⟨trivial, x222_ok, trivial⟩, x223_ok, trivial⟩, x224_ok, ⟨trivial, x225_ok, trivial⟩⟩⟩, x226_ok, ⟨⟨⟨⟨trivial, x227_ok, trivial⟩, x228_ok, trivial⟩, x229_ok, ⟨trivial, x230_ok, trivial⟩⟩, x231_ok, ⟨⟨⟨trivial, x233_ok, trivial⟩, x234_ok, trivial⟩, x235_ok, ⟨trivial, x236_ok, trivial⟩⟩⟩⟩
def tyT213 : Tr XT := .node tyT192 214 x214 tyT212
theorem tyT213_ok : tyT213.All (TyOK Tryz.prog) := ⟨tyT192_ok, x214_ok, tyT212_ok⟩
def tyT234 : Tr XT := .node (.node (.node (.node (.node .leaf 238 x238 .leaf) 239 x239 .leaf) 240 x240 (.node (.node .leaf 242 x242 .leaf) 243 x243 .leaf)) 244 x244 (.node (.node (.node .leaf 245 x245 .leaf) 246 x246 .leaf) 247 x247 (.node .leaf 249 x249 .leaf))) 250 x250 (.node (.node (.node (.node .leaf 251 x251 .leaf) 252 x252 .leaf) 253 x253 (.node (.node .leaf 254 x254 .leaf) 255 x255 .leaf)) 256 x256 (.node (.node (.node .leaf 258 x258 .leaf) 260 x260 .leaf) 261 x261 (.node .leaf 262 x262 .leaf)))
theorem tyT234_ok : tyT234.All (TyOK Tryz.prog) := ⟨⟨⟨⟨⟨trivial, x238_ok, trivial⟩, x239_ok, trivial⟩, x240_ok, ⟨⟨trivial, x242_ok, trivial⟩, x243_ok, trivial⟩⟩, x244_ok, ⟨⟨⟨trivial, x245_ok, trivial⟩, x246_ok, trivial⟩, x247_ok, ⟨trivial, x249_ok, trivial⟩⟩⟩, x250_ok, ⟨⟨⟨⟨trivial, x251_ok, trivial⟩, x252_ok, trivial⟩, x253_ok, ⟨⟨trivial, x254_ok, trivial⟩, x255_ok, trivial⟩⟩, x256_ok, ⟨⟨⟨trivial, x258_ok, trivial⟩, x260_ok, trivial⟩, x261_ok, ⟨trivial, x262_ok, trivial⟩⟩⟩⟩
def tyT254 : Tr XT := .node (.node (.node (.node (.node .leaf 264 x264 .leaf) 265 x265 .leaf) 266 x266 (.node (.node .leaf 267 x267 .leaf) 268 x268 .leaf)) 269 x269 (.node (.node (.node .leaf 270 x270 .leaf) 271 x271 .leaf) 272 x272 (.node .leaf 273 x273 .leaf))) 274 x274 (.node (.node (.node (.node .leaf 275 x275 .leaf) 276 x276 .leaf) 277 x277 (.node .leaf 278 x278 .leaf)) 279 x279 (.node (.node (.node .leaf 280 x280 .leaf) 281 x281 .leaf) 282 x282 (.node .leaf 283 x283 .leaf)))
theorem tyT254_ok : tyT254.All (TyOK Tryz.prog) := ⟨⟨⟨⟨⟨trivial, x264_ok, trivial⟩, x265_ok, trivial⟩, x266_ok, ⟨⟨trivial, x267_ok, trivial⟩, x268_ok, trivial⟩⟩, x269_ok, ⟨⟨⟨trivial, x270_ok, trivial⟩, x271_ok, trivial⟩, x272_ok, ⟨trivial, x273_ok, trivial⟩⟩⟩, x274_ok, ⟨⟨⟨⟨trivial, x275_ok, trivial⟩, x276_ok, trivial⟩, x277_ok, ⟨trivial, x278_ok, trivial⟩⟩, x279_ok, ⟨⟨⟨trivial, x280_ok, trivial⟩, x281_ok, trivial⟩, x282_ok, ⟨trivial, x283_ok, trivial⟩⟩⟩⟩
def tyT255 : Tr XT := .node tyT234 263 x263 tyT254
theorem tyT255_ok : tyT255.All (TyOK Tryz.prog) := ⟨tyT234_ok, x263_ok, tyT254_ok⟩
def tyT256 : Tr XT := .node tyT213 237 x237 tyT255
theorem tyT256_ok : tyT256.All (TyOK Tryz.prog) := ⟨tyT213_ok, x237_ok, tyT255_ok⟩
def tyT277 : Tr XT := .node (.node (.node (.node (.node .leaf 285 x285 .leaf) 286 x286 .leaf) 287 x287 (.node (.node .leaf 288 x288 .leaf) 289 x289 .leaf)) 290 x290 (.node (.node (.node .leaf 291 x291 .leaf) 292 x292 .leaf) 293 x293 (.node .leaf 294 x294 .leaf))) 295 x295 (.node (.node (.node (.node .leaf 296 x296 .leaf) 298 x298 .leaf) 299 x299 (.node (.node .leaf 300 x300 .leaf) 301 x301 .leaf)) 302 x302 (.node (.node (.node .leaf 303 x303 .leaf) 304 x304 .leaf) 305 x305 (.node .leaf 306 x306 .leaf)))
theorem tyT277_ok : tyT277.All (TyOK Tryz.prog) := ⟨⟨⟨⟨⟨trivial, x285_ok, trivial⟩, x286_ok, trivial⟩, x287_ok, ⟨⟨trivial, x288_ok, trivial⟩, x289_ok, trivial⟩⟩, x290_ok, ⟨⟨⟨trivial, x291_ok, trivial⟩, x292_ok, trivial⟩, x293_ok, ⟨trivial, x294_ok, trivial⟩⟩⟩, x295_ok, ⟨⟨⟨⟨trivial, x296_ok, trivial⟩, x298_ok, trivial⟩, x299_ok, ⟨⟨trivial, x300_ok, trivial⟩, x301_ok, trivial⟩⟩, x302_ok, ⟨⟨⟨trivial, x303_ok, trivial⟩, x304_ok, trivial⟩, x305_ok, ⟨trivial, x306_ok, trivial⟩⟩⟩⟩
def tyT297 : Tr XT := .node (.node (.node (.node (.node .leaf 308 x308 .leaf) 309 x309 .leaf) 310 x310 (.node (.node .leaf 311 x311 .leaf) 312 x312 .leaf)) 313 x313 (.node (.node (.node .leaf 314 x314 .leaf) 315 x315 .leaf) 317 x317 (.node .leaf 319 x319 .leaf))) 320 x320 (.node (.node (.node (.node .leaf 321 x321 .leaf) 322 x322 .leaf) 323 x323 (.node .leaf 324 x324 .leaf)) 325 x325 (.node (.node (.node .leaf 327 x327 .leaf) 328 x328 .leaf) 329 x329 (.node .leaf 330 x330 .leaf)))
theorem tyT297_ok : tyT297.All (TyOK Tryz.prog) := ⟨⟨⟨⟨⟨trivial, x308_ok, trivial⟩, x309_ok, trivial⟩, x310_ok, ⟨⟨trivial, x311_ok, trivial⟩, x312_ok, trivial⟩⟩, x313_ok, ⟨⟨⟨trivial, x314_ok, trivial⟩, x315_ok, trivial⟩, x317_ok, ⟨trivial, x319_ok, trivial⟩⟩⟩, x320_ok, ⟨⟨⟨⟨trivial, x321_ok, trivial⟩, x322_ok, trivial⟩, x323_ok, ⟨trivial, x324_ok, trivial⟩⟩, x325_ok, ⟨⟨⟨trivial, x327_ok, trivial⟩, x328_ok, trivial⟩, x329_ok, ⟨trivial, x330_ok, trivial⟩⟩⟩⟩
def tyT298 : Tr XT := .node tyT277 307 x307 tyT297
theorem tyT298_ok : tyT298.All (TyOK Tryz.prog) := ⟨tyT277_ok, x307_ok, tyT297_ok⟩
def tyT319 : Tr XT := .node (.node (.node (.node (.node .leaf 332 x332 .leaf) 333 x333 .leaf) 334 x334 (.node (.node .leaf 336 x336 .leaf) 337 x337 .leaf)) 338 x338 (.node (.node (.node .leaf 339 x339 .leaf) 340 x340 .leaf) 341 x341 (.node .leaf 342 x342 .leaf))) 343 x343 (.node (.node (.node (.node .leaf 344 x344 .leaf) 345 x345 .leaf) 346 x346 (.node (.node .leaf 347 x347 .leaf) 348 x348 .leaf)) 349 x349 (.node (.node (.node .leaf 350 x350 .leaf) 351 x351 .leaf) 352 x352 (.node .leaf 353 x353 .leaf)))
theorem tyT319_ok : tyT319.All (TyOK Tryz.prog) := ⟨⟨⟨⟨⟨trivial, x332_ok, trivial⟩, x333_ok, trivial⟩, x334_ok, ⟨⟨trivial, x336_ok, trivial⟩, x337_ok, trivial⟩⟩, x338_ok, ⟨⟨⟨trivial, x339_ok, trivial⟩, x340_ok, trivial⟩, x341_ok, ⟨trivial, x342_ok, trivial⟩⟩⟩, x343_ok, ⟨⟨⟨⟨trivial, x344_ok, trivial⟩, x345_ok, trivial⟩, x346_ok, ⟨⟨trivial, x347_ok, trivial⟩, x348_ok, trivial⟩⟩, x349_ok, ⟨⟨⟨trivial, x350_ok, trivial⟩, x351_ok, trivial⟩, x352_ok, ⟨trivial, x353_ok, trivial⟩⟩⟩⟩
def tyT339 : Tr XT := .node (.node (.node (.node (.node .leaf 355 x355 .leaf) 356 x356 .leaf) 357 x357 (.node (.node .leaf 358 x358 .leaf) 359 x359 .leaf)) 360 x360 (.node (.node (.node .leaf 361 x361 .leaf) 362 x362 .leaf) 363 x363 (.node .leaf 364 x364 .leaf))) 365 x365 (.node (.node (.node (.node .leaf 366 x366 .leaf) 367 x367 .leaf) 368 x368 (.node .leaf 369 x369 .leaf)) 370 x370 (.node (.node (.node .leaf 371 x371 .leaf) 372 x372 .leaf) 373 x373 (.node .leaf 374 x374 .leaf)))
theorem tyT339_ok : tyT339.All (TyOK Tryz.prog) := ⟨⟨⟨⟨⟨trivial, x355_ok, trivial⟩, x356_ok, trivial⟩, x357_ok, ⟨⟨trivial, x358_ok, trivial⟩, x359_ok, trivial⟩⟩, x360_ok, ⟨⟨⟨trivial, x361_ok, trivial⟩, x362_ok, trivial⟩, x363_ok, ⟨trivial, x364_ok, trivial⟩⟩⟩, x365_ok, ⟨⟨⟨⟨trivial, x366_ok, trivial⟩, x367_ok, trivial⟩, x368_ok, ⟨trivial, x369_ok, trivial⟩⟩, x370_ok, ⟨⟨⟨trivial, x371_ok, trivial⟩, x372_ok, trivial⟩, x373_ok, ⟨trivial, x374_ok, trivial⟩⟩⟩⟩
def tyT340 : Tr XT := .node tyT319 354 x354 tyT339
theorem tyT340_ok : tyT340.All (TyOK Tryz.prog) := ⟨tyT319_ok, x354_ok, tyT339_ok⟩
def tyT341 : Tr XT := .node tyT298 331 x331 tyT340
theorem tyT341_ok : tyT341.All (TyOK Tryz.prog) := ⟨tyT298_ok, x331_ok, tyT340_ok⟩
def tyT342 : Tr XT := .node tyT256 284 x284 tyT341
theorem tyT342_ok : tyT342.All (TyOK Tryz.prog) := ⟨tyT256_ok, x284_ok, tyT341_ok⟩
def tyT343 : Tr XT := .node tyT171 190 x190 tyT342
theorem tyT343_ok : tyT343.All (TyOK Tryz.prog) := ⟨tyT171_ok, x190_ok, tyT342_ok⟩
def eoT25 : Tr Unit := .node (.node (.node (.node (.node .leaf 7 () .leaf) 8 () (.node .leaf 28 () .leaf)) 29 () (.node (.node .leaf 41 () .leaf) 42 () .leaf)) 65 () (.node (.node (.node .leaf 66 () .leaf) 72 () .leaf) 73 () (.node (.node .leaf 82 () .leaf) 83 () .leaf))) 84 () (.node (.node (.node (.node .leaf 85 () .leaf) 86 () (.node .leaf 87 () .leaf)) 88 () (.node (.node .leaf 89 () .leaf) 108 () .leaf)) 109 () (.node (.node (.node .leaf 121 () .leaf) 122 () .leaf) 125 () (.node (.node .leaf 126 () .leaf) 145 () .leaf)))
theorem eoT25_ok : eoT25.All (fun t _ => EqOK Tryz.prog t) := ⟨⟨⟨⟨⟨trivial, ⟨Tryz.stoodInHeld7, Tryz.eqGuardType7⟩, trivial⟩, ⟨Tryz.stoodInHeld8, Tryz.eqGuardType8⟩, ⟨trivial, ⟨Tryz.stoodInHeld28, Tryz.eqGuardType28⟩, trivial⟩⟩, ⟨Tryz.stoodInHeld29, Tryz.eqGuardType29⟩, ⟨⟨trivial, ⟨Tryz.stoodInHeld41, Tryz.eqGuardType41⟩, trivial⟩, ⟨Tryz.stoodInHeld42, Tryz.eqGuardType42⟩, trivial⟩⟩, ⟨Tryz.stoodInHeld65, Tryz.eqGuardType65⟩, ⟨⟨⟨trivial, ⟨Tryz.stoodInHeld66, Tryz.eqGuardType66⟩, trivial⟩, ⟨Tryz.stoodInHeld72, Tryz.eqGuardType72⟩, trivial⟩, ⟨Tryz.stoodInHeld73, Tryz.eqGuardType73⟩, ⟨⟨trivial, ⟨Tryz.stoodInHeld82, Tryz.eqGuardType82⟩, trivial⟩, ⟨Tryz.stoodInHeld83, Tryz.eqGuardType83⟩, trivial⟩⟩⟩, ⟨Tryz.stoodInHeld84, Tryz.eqGuardType84⟩, ⟨⟨⟨⟨trivial, ⟨Tryz.stoodInHeld85, Tryz.eqGuardType85⟩, trivial⟩, ⟨Tryz.stoodInHeld86, Tryz.eqGuardType86⟩, ⟨trivial, ⟨Tryz.stoodInHeld87, Tryz.eqGuardType87⟩, trivial⟩⟩, ⟨Tryz.stoodInHeld88, Tryz.eqGuardType88⟩, ⟨⟨trivial, ⟨Tryz.stoodInHeld89, Tryz.eqGuardType89⟩, trivial⟩, ⟨Tryz.stoodInHeld108, Tryz.eqGuardType108⟩, trivial⟩⟩, ⟨Tryz.stoodInHeld109, Tryz.eqGuardType109⟩, ⟨⟨⟨trivial, ⟨Tryz.stoodInHeld121, Tryz.eqGuardType121⟩, trivial⟩, ⟨Tryz.stoodInHeld122, Tryz.eqGuardType122⟩, trivial⟩, ⟨Tryz.stoodInHeld125, Tryz.eqGuardType125⟩, ⟨⟨trivial, ⟨Tryz.stoodInHeld126, Tryz.eqGuardType126⟩, trivial⟩, ⟨Tryz.stoodInHeld145, Tryz.eqGuardType145⟩, trivial⟩⟩⟩⟩
def eoT49 : Tr Unit := .node (.node (.node (.node (.node .leaf 176 () .leaf) 177 () (.node .leaf 224 () .leaf)) 225 () (.node (.node .leaf 300 () .leaf) 301 () .leaf)) 336 () (.node (.node (.node .leaf 337 () .leaf) 356 () .leaf) 357 () (.node (.node .leaf 361 () .leaf) 362 () .leaf))) 363 () (.node (.node (.node (.node .leaf 364 () .leaf) 365 () .leaf) 366 () (.node (.node .leaf 367 () .leaf) 368 () .leaf)) 369 () (.node (.node (.node .leaf 370 () .leaf) 371 () .leaf) 372 () (.node (.node .leaf 373 () .leaf) 374 () .leaf)))
theorem eoT49_ok : eoT49.All (fun t _ => EqOK Tryz.prog t) := ⟨⟨⟨⟨⟨trivial, ⟨Tryz.stoodInHeld176, Tryz.eqGuardType176⟩, trivial⟩, ⟨Tryz.stoodInHeld177, Tryz.eqGuardType177⟩, ⟨trivial, ⟨Tryz.stoodInHeld224, Tryz.eqGuardType224⟩, trivial⟩⟩, ⟨Tryz.stoodInHeld225, Tryz.eqGuardType225⟩, ⟨⟨trivial, ⟨Tryz.stoodInHeld300, Tryz.eqGuardType300⟩, trivial⟩, ⟨Tryz.stoodInHeld301, Tryz.eqGuardType301⟩, trivial⟩⟩, ⟨Tryz.stoodInHeld336, Tryz.eqGuardType336⟩, ⟨⟨⟨trivial, ⟨Tryz.stoodInHeld337, Tryz.eqGuardType337⟩, trivial⟩, ⟨Tryz.stoodInHeld356, Tryz.eqGuardType356⟩, trivial⟩, ⟨Tryz.stoodInHeld357, Tryz.eqGuardType357⟩, ⟨⟨trivial, ⟨Tryz.stoodInHeld361, Tryz.eqGuardType361⟩, trivial⟩, ⟨Tryz.stoodInHeld362, Tryz.eqGuardType362⟩, trivial⟩⟩⟩, ⟨Tryz.stoodInHeld363, Tryz.eqGuardType363⟩, ⟨⟨⟨⟨trivial, ⟨Tryz.stoodInHeld364, Tryz.eqGuardType364⟩, trivial⟩, ⟨Tryz.stoodInHeld365, Tryz.eqGuardType365⟩, trivial⟩, ⟨Tryz.stoodInHeld366, Tryz.eqGuardType366⟩, ⟨⟨trivial, ⟨Tryz.stoodInHeld367, Tryz.eqGuardType367⟩, trivial⟩, ⟨Tryz.stoodInHeld368, Tryz.eqGuardType368⟩, trivial⟩⟩, ⟨Tryz.stoodInHeld369, Tryz.eqGuardType369⟩, ⟨⟨⟨trivial, ⟨Tryz.stoodInHeld370, Tryz.eqGuardType370⟩, trivial⟩, ⟨Tryz.stoodInHeld371, Tryz.eqGuardType371⟩, trivial⟩, ⟨Tryz.stoodInHeld372, Tryz.eqGuardType372⟩, ⟨⟨trivial, ⟨Tryz.stoodInHeld373, Tryz.eqGuardType373⟩, trivial⟩, ⟨Tryz.stoodInHeld374, Tryz.eqGuardType374⟩, trivial⟩⟩⟩⟩
def eoT50 : Tr Unit := .node eoT25 146 () eoT49
theorem eoT50_ok : eoT50.All (fun t _ => EqOK Tryz.prog t) := ⟨eoT25_ok, ⟨Tryz.stoodInHeld146, Tryz.eqGuardType146⟩, eoT49_ok⟩
def fnT22 : Tr Func := .node (.node (.node (.node (.node .leaf 11 Tryz.f11 .leaf) 13 Tryz.f13 .leaf) 15 Tryz.f15 (.node (.node .leaf 17 Tryz.f17 .leaf) 18 Tryz.f18 .leaf)) 21 Tryz.f21 (.node (.node (.node .leaf 24 Tryz.f24 .leaf) 27 Tryz.f27 .leaf) 30 Tryz.f30 (.node (.node .leaf 32 Tryz.f32 .leaf) 36 Tryz.f36 .leaf))) 39 Tryz.f39 (.node (.node (.node (.node .leaf 41 Tryz.f41 .leaf) 44 Tryz.f44 .leaf) 45 Tryz.f45 (.node (.node .leaf 46 Tryz.f46 .leaf) 49 Tryz.f49 .leaf)) 53 Tryz.f53 (.node (.node (.node .leaf 54 Tryz.f54 .leaf) 58 Tryz.f58 .leaf) 62 Tryz.f62 (.node .leaf 65 Tryz.f65 .leaf)))
theorem fnT22_ok : fnT22.All (FnOK Tryz.prog) := ⟨⟨⟨⟨⟨trivial, ⟨Tryz.func11, Tryz.call11⟩, trivial⟩, ⟨Tryz.func13, Tryz.call13⟩, trivial⟩, ⟨Tryz.func15, Tryz.call15⟩, ⟨⟨trivial, ⟨Tryz.func17, Tryz.call17⟩, trivial⟩, ⟨Tryz.func18, Tryz.call18⟩, trivial⟩⟩, ⟨Tryz.func21, Tryz.call21⟩, ⟨⟨⟨trivial, ⟨Tryz.func24, Tryz.call24⟩, trivial⟩, ⟨Tryz.func27, Tryz.call27⟩, trivial⟩, ⟨Tryz.func30, Tryz.call30⟩, ⟨⟨trivial, ⟨Tryz.func32, Tryz.call32⟩, trivial⟩, ⟨Tryz.func36, Tryz.call36⟩, trivial⟩⟩⟩, ⟨Tryz.func39, Tryz.call39⟩, ⟨⟨⟨⟨trivial, ⟨Tryz.func41, Tryz.call41⟩, trivial⟩, ⟨Tryz.func44, Tryz.call44⟩, trivial⟩, ⟨Tryz.func45, Tryz.call45⟩, ⟨⟨trivial, ⟨Tryz.func46, Tryz.call46⟩, trivial⟩, ⟨Tryz.func49, Tryz.call49⟩, trivial⟩⟩, ⟨Tryz.func53, Tryz.call53⟩, ⟨⟨⟨trivial, ⟨Tryz.func54, Tryz.call54⟩, trivial⟩, ⟨Tryz.func58, Tryz.call58⟩, trivial⟩, ⟨Tryz.func62, Tryz.call62⟩, ⟨trivial, ⟨Tryz.func65, Tryz.call65⟩, trivial⟩⟩⟩⟩
def fnT44 : Tr Func := .node (.node (.node (.node (.node .leaf 67 Tryz.f67 .leaf) 68 Tryz.f68 .leaf) 69 Tryz.f69 (.node (.node .leaf 70 Tryz.f70 .leaf) 71 Tryz.f71 .leaf)) 73 Tryz.f73 (.node (.node (.node .leaf 74 Tryz.f74 .leaf) 75 Tryz.f75 .leaf) 78 Tryz.f78 (.node (.node .leaf 87 Tryz.f87 .leaf) 90 Tryz.f90 .leaf))) 91 Tryz.f91 (.node (.node (.node (.node .leaf 93 Tryz.f93 .leaf) 94 Tryz.f94 .leaf) 98 Tryz.f98 (.node (.node .leaf 99 Tryz.f99 .leaf) 100 Tryz.f100 .leaf)) 101 Tryz.f101 (.node (.node (.node .leaf 105 Tryz.f105 .leaf) 106 Tryz.f106 .leaf) 107 Tryz.f107 (.node .leaf 111 Tryz.f111 .leaf)))
theorem fnT44_ok : fnT44.All (FnOK Tryz.prog) := ⟨⟨⟨⟨⟨trivial, ⟨Tryz.func67, Tryz.call67⟩, trivial⟩, ⟨Tryz.func68, Tryz.call68⟩, trivial⟩, ⟨Tryz.func69, Tryz.call69⟩, ⟨⟨trivial, ⟨Tryz.func70, Tryz.call70⟩, trivial⟩, ⟨Tryz.func71, Tryz.call71⟩, trivial⟩⟩, ⟨Tryz.func73, Tryz.call73⟩, ⟨⟨⟨trivial, ⟨Tryz.func74, Tryz.call74⟩, trivial⟩, ⟨Tryz.func75, Tryz.call75⟩, trivial⟩, ⟨Tryz.func78, Tryz.call78⟩, ⟨⟨trivial, ⟨Tryz.func87, Tryz.call87⟩, trivial⟩, ⟨Tryz.func90, Tryz.call90⟩, trivial⟩⟩⟩, ⟨Tryz.func91, Tryz.call91⟩, ⟨⟨⟨⟨trivial, ⟨Tryz.func93, Tryz.call93⟩, trivial⟩, ⟨Tryz.func94, Tryz.call94⟩, trivial⟩, ⟨Tryz.func98, Tryz.call98⟩, ⟨⟨trivial, ⟨Tryz.func99, Tryz.call99⟩, trivial⟩, ⟨Tryz.func100, Tryz.call100⟩, trivial⟩⟩, ⟨Tryz.func101, Tryz.call101⟩, ⟨⟨⟨trivial, ⟨Tryz.func105, Tryz.call105⟩, trivial⟩, ⟨Tryz.func106, Tryz.call106⟩, trivial⟩, ⟨Tryz.func107, Tryz.call107⟩, ⟨trivial, ⟨Tryz.func111, Tryz.call111⟩, trivial⟩⟩⟩⟩
def fnT45 : Tr Func := .node fnT22 66 Tryz.f66 fnT44
theorem fnT45_ok : fnT45.All (FnOK Tryz.prog) := ⟨fnT22_ok, ⟨Tryz.func66, Tryz.call66⟩, fnT44_ok⟩
def fnT67 : Tr Func := .node (.node (.node (.node (.node .leaf 115 Tryz.f115 .leaf) 116 Tryz.f116 .leaf) 117 Tryz.f117 (.node (.node .leaf 118 Tryz.f118 .leaf) 119 Tryz.f119 .leaf)) 120 Tryz.f120 (.node (.node (.node .leaf 121 Tryz.f121 .leaf) 122 Tryz.f122 .leaf) 123 Tryz.f123 (.node (.node .leaf 124 Tryz.f124 .leaf) 125 Tryz.f125 .leaf))) 126 Tryz.f126 (.node (.node (.node (.node .leaf 127 Tryz.f127 .leaf) 128 Tryz.f128 .leaf) 129 Tryz.f129 (.node (.node .leaf 130 Tryz.f130 .leaf) 131 Tryz.f131 .leaf)) 132 Tryz.f132 (.node (.node (.node .leaf 138 Tryz.f138 .leaf) 142 Tryz.f142 .leaf) 149 Tryz.f149 (.node .leaf 153 Tryz.f153 .leaf)))
theorem fnT67_ok : fnT67.All (FnOK Tryz.prog) := ⟨⟨⟨⟨⟨trivial, ⟨Tryz.func115, Tryz.call115⟩, trivial⟩, ⟨Tryz.func116, Tryz.call116⟩, trivial⟩, ⟨Tryz.func117, Tryz.call117⟩, ⟨⟨trivial, ⟨Tryz.func118, Tryz.call118⟩, trivial⟩, ⟨Tryz.func119, Tryz.call119⟩, trivial⟩⟩, ⟨Tryz.func120, Tryz.call120⟩, ⟨⟨⟨trivial, ⟨Tryz.func121, Tryz.call121⟩, trivial⟩, ⟨Tryz.func122, Tryz.call122⟩, trivial⟩, ⟨Tryz.func123, Tryz.call123⟩, ⟨⟨trivial, ⟨Tryz.func124, Tryz.call124⟩, trivial⟩, ⟨Tryz.func125, Tryz.call125⟩, trivial⟩⟩⟩, ⟨Tryz.func126, Tryz.call126⟩, ⟨⟨⟨⟨trivial, ⟨Tryz.func127, Tryz.call127⟩, trivial⟩, ⟨Tryz.func128, Tryz.call128⟩, trivial⟩, ⟨Tryz.func129, Tryz.call129⟩, ⟨⟨trivial, ⟨Tryz.func130, Tryz.call130⟩, trivial⟩, ⟨Tryz.func131, Tryz.call131⟩, trivial⟩⟩, ⟨Tryz.func132, Tryz.call132⟩, ⟨⟨⟨trivial, ⟨Tryz.func138, Tryz.call138⟩, trivial⟩, ⟨Tryz.func142, Tryz.call142⟩, trivial⟩, ⟨Tryz.func149, Tryz.call149⟩, ⟨trivial, ⟨Tryz.func153, Tryz.call153⟩, trivial⟩⟩⟩⟩
def fnT88 : Tr Func := .node (.node (.node (.node (.node .leaf 155 Tryz.f155 .leaf) 161 Tryz.f161 .leaf) 162 Tryz.f162 (.node (.node .leaf 166 Tryz.f166 .leaf) 167 Tryz.f167 .leaf)) 178 Tryz.f178 (.node (.node (.node .leaf 179 Tryz.f179 .leaf) 180 Tryz.f180 .leaf) 181 Tryz.f181 (.node .leaf 182 Tryz.f182 .leaf))) 183 Tryz.f183 (.node (.node (.node (.node .leaf 184 Tryz.f184 .leaf) 185 Tryz.f185 .leaf) 186 Tryz.f186 (.node (.node .leaf 187 Tryz.f187 .leaf) 188 Tryz.f188 .leaf)) 189 Tryz.f189 (.node (.node (.node .leaf 190 Tryz.f190 .leaf) 191 Tryz.f191 .leaf) 192 Tryz.f192 (.node .leaf 193 Tryz.f193 .leaf)))
theorem fnT88_ok : fnT88.All (FnOK Tryz.prog) := ⟨⟨⟨⟨⟨trivial, ⟨Tryz.func155, Tryz.call155⟩, trivial⟩, ⟨Tryz.func161, Tryz.call161⟩, trivial⟩, ⟨Tryz.func162, Tryz.call162⟩, ⟨⟨trivial, ⟨Tryz.func166, Tryz.call166⟩, trivial⟩, ⟨Tryz.func167, Tryz.call167⟩, trivial⟩⟩, ⟨Tryz.func178, Tryz.call178⟩, ⟨⟨⟨trivial, ⟨Tryz.func179, Tryz.call179⟩, trivial⟩, ⟨Tryz.func180, Tryz.call180⟩, trivial⟩, ⟨Tryz.func181, Tryz.call181⟩, ⟨trivial, ⟨Tryz.func182, Tryz.call182⟩, trivial⟩⟩⟩, ⟨Tryz.func183, Tryz.call183⟩, ⟨⟨⟨⟨trivial, ⟨Tryz.func184, Tryz.call184⟩, trivial⟩, ⟨Tryz.func185, Tryz.call185⟩, trivial⟩, ⟨Tryz.func186, Tryz.call186⟩, ⟨⟨trivial, ⟨Tryz.func187, Tryz.call187⟩, trivial⟩, ⟨Tryz.func188, Tryz.call188⟩, trivial⟩⟩, ⟨Tryz.func189, Tryz.call189⟩, ⟨⟨⟨trivial, ⟨Tryz.func190, Tryz.call190⟩, trivial⟩, ⟨Tryz.func191, Tryz.call191⟩, trivial⟩, ⟨Tryz.func192, Tryz.call192⟩, ⟨trivial, ⟨Tryz.func193, Tryz.call193⟩, trivial⟩⟩⟩⟩
def fnT89 : Tr Func := .node fnT67 154 Tryz.f154 fnT88
theorem fnT89_ok : fnT89.All (FnOK Tryz.prog) := ⟨fnT67_ok, ⟨Tryz.func154, Tryz.call154⟩, fnT88_ok⟩
def fnT90 : Tr Func := .node fnT45 112 Tryz.f112 fnT89
theorem fnT90_ok : fnT90.All (FnOK Tryz.prog) := ⟨fnT45_ok, ⟨Tryz.func112, Tryz.call112⟩, fnT89_ok⟩
def fnT112 : Tr Func := .node (.node (.node (.node (.node .leaf 195 Tryz.f195 .leaf) 197 Tryz.f197 .leaf) 198 Tryz.f198 (.node (.node .leaf 199 Tryz.f199 .leaf) 200 Tryz.f200 .leaf)) 218 Tryz.f218 (.node (.node (.node .leaf 220 Tryz.f220 .leaf) 221 Tryz.f221 .leaf) 222 Tryz.f222 (.node (.node .leaf 223 Tryz.f223 .leaf) 224 Tryz.f224 .leaf))) 225 Tryz.f225 (.node (.node (.node (.node .leaf 229 Tryz.f229 .leaf) 245 Tryz.f245 .leaf) 246 Tryz.f246 (.node (.node .leaf 247 Tryz.f247 .leaf) 248 Tryz.f248 .leaf)) 249 Tryz.f249 (.node (.node (.node .leaf 250 Tryz.f250 .leaf) 251 Tryz.f251 .leaf) 252 Tryz.f252 (.node .leaf 253 Tryz.f253 .leaf)))
theorem fnT112_ok : fnT112.All (FnOK Tryz.prog) := ⟨⟨⟨⟨⟨trivial, ⟨Tryz.func195, Tryz.call195⟩, trivial⟩, ⟨Tryz.func197, Tryz.call197⟩, trivial⟩, ⟨Tryz.func198, Tryz.call198⟩, ⟨⟨trivial, ⟨Tryz.func199, Tryz.call199⟩, trivial⟩, ⟨Tryz.func200, Tryz.call200⟩, trivial⟩⟩, ⟨Tryz.func218, Tryz.call218⟩, ⟨⟨⟨trivial, ⟨Tryz.func220, Tryz.call220⟩, trivial⟩, ⟨Tryz.func221, Tryz.call221⟩, trivial⟩, ⟨Tryz.func222, Tryz.call222⟩, ⟨⟨trivial, ⟨Tryz.func223, Tryz.call223⟩, trivial⟩, ⟨Tryz.func224, Tryz.call224⟩, trivial⟩⟩⟩, ⟨Tryz.func225, Tryz.call225⟩, ⟨⟨⟨⟨trivial, ⟨Tryz.func229, Tryz.call229⟩, trivial⟩, ⟨Tryz.func245, Tryz.call245⟩, trivial⟩, ⟨Tryz.func246, Tryz.call246⟩, ⟨⟨trivial, ⟨Tryz.func247, Tryz.call247⟩, trivial⟩, ⟨Tryz.func248, Tryz.call248⟩, trivial⟩⟩, ⟨Tryz.func249, Tryz.call249⟩, ⟨⟨⟨trivial, ⟨Tryz.func250, Tryz.call250⟩, trivial⟩, ⟨Tryz.func251, Tryz.call251⟩, trivial⟩, ⟨Tryz.func252, Tryz.call252⟩, ⟨trivial, ⟨Tryz.func253, Tryz.call253⟩, trivial⟩⟩⟩⟩
def fnT134 : Tr Func := .node (.node (.node (.node (.node .leaf 255 Tryz.f255 .leaf) 256 Tryz.f256 .leaf) 257 Tryz.f257 (.node (.node .leaf 258 Tryz.f258 .leaf) 259 Tryz.f259 .leaf)) 260 Tryz.f260 (.node (.node (.node .leaf 261 Tryz.f261 .leaf) 262 Tryz.f262 .leaf) 263 Tryz.f263 (.node (.node .leaf 264 Tryz.f264 .leaf) 265 Tryz.f265 .leaf))) 266 Tryz.f266 (.node (.node (.node (.node .leaf 276 Tryz.f276 .leaf) 278 Tryz.f278 .leaf) 279 Tryz.f279 (.node (.node .leaf 280 Tryz.f280 .leaf) 281 Tryz.f281 .leaf)) 282 Tryz.f282 (.node (.node (.node .leaf 285 Tryz.f285 .leaf) 286 Tryz.f286 .leaf) 287 Tryz.f287 (.node .leaf 288 Tryz.f288 .leaf)))
theorem fnT134_ok : fnT134.All (FnOK Tryz.prog) := ⟨⟨⟨⟨⟨trivial, ⟨Tryz.func255, Tryz.call255⟩, trivial⟩, ⟨Tryz.func256, Tryz.call256⟩, trivial⟩, ⟨Tryz.func257, Tryz.call257⟩, ⟨⟨trivial, ⟨Tryz.func258, Tryz.call258⟩, trivial⟩, ⟨Tryz.func259, Tryz.call259⟩, trivial⟩⟩, ⟨Tryz.func260, Tryz.call260⟩, ⟨⟨⟨trivial, ⟨Tryz.func261, Tryz.call261⟩, trivial⟩, ⟨Tryz.func262, Tryz.call262⟩, trivial⟩, ⟨Tryz.func263, Tryz.call263⟩, ⟨⟨trivial, ⟨Tryz.func264, Tryz.call264⟩, trivial⟩, ⟨Tryz.func265, Tryz.call265⟩, trivial⟩⟩⟩, ⟨Tryz.func266, Tryz.call266⟩, ⟨⟨⟨⟨trivial, ⟨Tryz.func276, Tryz.call276⟩, trivial⟩, ⟨Tryz.func278, Tryz.call278⟩, trivial⟩, ⟨Tryz.func279, Tryz.call279⟩, ⟨⟨trivial, ⟨Tryz.func280, Tryz.call280⟩, trivial⟩, ⟨Tryz.func281, Tryz.call281⟩, trivial⟩⟩, ⟨Tryz.func282, Tryz.call282⟩, ⟨⟨⟨trivial, ⟨Tryz.func285, Tryz.call285⟩, trivial⟩, ⟨Tryz.func286, Tryz.call286⟩, trivial⟩, ⟨Tryz.func287, Tryz.call287⟩, ⟨trivial, ⟨Tryz.func288, Tryz.call288⟩, trivial⟩⟩⟩⟩
def fnT135 : Tr Func := .node fnT112 254 Tryz.f254 fnT134
theorem fnT135_ok : fnT135.All (FnOK Tryz.prog) := ⟨fnT112_ok, ⟨Tryz.func254, Tryz.call254⟩, fnT134_ok⟩
def fnT157 : Tr Func := .node (.node (.node (.node (.node .leaf 290 Tryz.f290 .leaf) 291 Tryz.f291 .leaf) 292 Tryz.f292 (.node (.node .leaf 293 Tryz.f293 .leaf) 301 Tryz.f301 .leaf)) 302 Tryz.f302 (.node (.node (.node .leaf 303 Tryz.f303 .leaf) 304 Tryz.f304 .leaf) 305 Tryz.f305 (.node (.node .leaf 306 Tryz.f306 .leaf) 307 Tryz.f307 .leaf))) 308 Tryz.f308 (.node (.node (.node (.node .leaf 309 Tryz.f309 .leaf) 310 Tryz.f310 .leaf) 311 Tryz.f311 (.node (.node .leaf 312 Tryz.f312 .leaf) 313 Tryz.f313 .leaf)) 314 Tryz.f314 (.node (.node (.node .leaf 315 Tryz.f315 .leaf) 316 Tryz.f316 .leaf) 317 Tryz.f317 (.node .leaf 318 Tryz.f318 .leaf)))
theorem fnT157_ok : fnT157.All (FnOK Tryz.prog) := ⟨⟨⟨⟨⟨trivial, ⟨Tryz.func290, Tryz.call290⟩, trivial⟩, ⟨Tryz.func291, Tryz.call291⟩, trivial⟩, ⟨Tryz.func292, Tryz.call292⟩, ⟨⟨trivial, ⟨Tryz.func293, Tryz.call293⟩, trivial⟩, ⟨Tryz.func301, Tryz.call301⟩, trivial⟩⟩, ⟨Tryz.func302, Tryz.call302⟩, ⟨⟨⟨trivial, ⟨Tryz.func303, Tryz.call303⟩, trivial⟩, ⟨Tryz.func304, Tryz.call304⟩, trivial⟩, ⟨Tryz.func305, Tryz.call305⟩, ⟨⟨trivial, ⟨Tryz.func306, Tryz.call306⟩, trivial⟩, ⟨Tryz.func307, Tryz.call307⟩, trivial⟩⟩⟩, ⟨Tryz.func308, Tryz.call308⟩, ⟨⟨⟨⟨trivial, ⟨Tryz.func309, Tryz.call309⟩, trivial⟩, ⟨Tryz.func310, Tryz.call310⟩, trivial⟩, ⟨Tryz.func311, Tryz.call311⟩, ⟨⟨trivial, ⟨Tryz.func312, Tryz.call312⟩, trivial⟩, ⟨Tryz.func313, Tryz.call313⟩, trivial⟩⟩, ⟨Tryz.func314, Tryz.call314⟩, ⟨⟨⟨trivial, ⟨Tryz.func315, Tryz.call315⟩, trivial⟩, ⟨Tryz.func316, Tryz.call316⟩, trivial⟩, ⟨Tryz.func317, Tryz.call317⟩, ⟨trivial, ⟨Tryz.func318, Tryz.call318⟩, trivial⟩⟩⟩⟩
def fnT178 : Tr Func := .node (.node (.node (.node (.node .leaf 324 Tryz.f324 .leaf) 325 Tryz.f325 .leaf) 326 Tryz.f326 (.node (.node .leaf 327 Tryz.f327 .leaf) 328 Tryz.f328 .leaf)) 329 Tryz.f329 (.node (.node (.node .leaf 335 Tryz.f335 .leaf) 336 Tryz.f336 .leaf) 337 Tryz.f337 (.node .leaf 338 Tryz.f338 .leaf))) 339 Tryz.f339 (.node (.node (.node (.node .leaf 340 Tryz.f340 .leaf) 341 Tryz.f341 .leaf) 342 Tryz.f342 (.node (.node .leaf 344 Tryz.f344 .leaf) 346 Tryz.f346 .leaf)) 347 Tryz.f347 (.node (.node (.node .leaf 348 Tryz.f348 .leaf) 349 Tryz.f349 .leaf) 350 Tryz.f350 (.node .leaf 352 Tryz.f352 .leaf)))
theorem fnT178_ok : fnT178.All (FnOK Tryz.prog) := ⟨⟨⟨⟨⟨trivial, ⟨Tryz.func324, Tryz.call324⟩, trivial⟩, ⟨Tryz.func325, Tryz.call325⟩, trivial⟩, ⟨Tryz.func326, Tryz.call326⟩, ⟨⟨trivial, ⟨Tryz.func327, Tryz.call327⟩, trivial⟩, ⟨Tryz.func328, Tryz.call328⟩, trivial⟩⟩, ⟨Tryz.func329, Tryz.call329⟩, ⟨⟨⟨trivial, ⟨Tryz.func335, Tryz.call335⟩, trivial⟩, ⟨Tryz.func336, Tryz.call336⟩, trivial⟩, ⟨Tryz.func337, Tryz.call337⟩, ⟨trivial, ⟨Tryz.func338, Tryz.call338⟩, trivial⟩⟩⟩, ⟨Tryz.func339, Tryz.call339⟩, ⟨⟨⟨⟨trivial, ⟨Tryz.func340, Tryz.call340⟩, trivial⟩, ⟨Tryz.func341, Tryz.call341⟩, trivial⟩, ⟨Tryz.func342, Tryz.call342⟩, ⟨⟨trivial, ⟨Tryz.func344, Tryz.call344⟩, trivial⟩, ⟨Tryz.func346, Tryz.call346⟩, trivial⟩⟩, ⟨Tryz.func347, Tryz.call347⟩, ⟨⟨⟨trivial, ⟨Tryz.func348, Tryz.call348⟩, trivial⟩, ⟨Tryz.func349, Tryz.call349⟩, trivial⟩, ⟨Tryz.func350, Tryz.call350⟩, ⟨trivial, ⟨Tryz.func352, Tryz.call352⟩, trivial⟩⟩⟩⟩
def fnT179 : Tr Func := .node fnT157 319 Tryz.f319 fnT178
theorem fnT179_ok : fnT179.All (FnOK Tryz.prog) := ⟨fnT157_ok, ⟨Tryz.func319, Tryz.call319⟩, fnT178_ok⟩
def fnT180 : Tr Func := .node fnT135 289 Tryz.f289 fnT179
theorem fnT180_ok : fnT180.All (FnOK Tryz.prog) := ⟨fnT135_ok, ⟨Tryz.func289, Tryz.call289⟩, fnT179_ok⟩
def fnT181 : Tr Func := .node fnT90 194 Tryz.f194 fnT180
theorem fnT181_ok : fnT181.All (FnOK Tryz.prog) := ⟨fnT90_ok, ⟨Tryz.func194, Tryz.call194⟩, fnT180_ok⟩
def tab : Tab := tabOf tyT343 eoT50 fnT181
theorem tab_ok : TabOK Tryz.prog tab := tabOf_ok tyT343_ok eoT50_ok fnT181_ok
theorem mixed : Tryz.prog.follows .mixedOrders = true := by kernel_rfl
end -- nc
end Go.Proofs.YtgjbehfdjnekdaaGreatDoor.Xc
end
