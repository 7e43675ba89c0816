/-
  A part of a proof: see the last text of this claim for what is proved.
-/
import Derived.Test.YthdlbokgbkejnaaGreatDoorBM
import Derived.Test.YthdlbokgbkejnaaGreatDoorProg
import Derived.KernelRfl
namespace Go.AM
open Go Go.Proofs
theorem sz1 : szOf Tryz.prog 1 = some 1 := by kernel_rfl
theorem by1 : bytesT Tryz.prog 1 = some 8 := by kernel_rfl
theorem ze1 : zeroT Tryz.prog 1 = some Value.nilFunc := by kernel_rfl
theorem sz2 : szOf Tryz.prog 2 = some 1 := by kernel_rfl
theorem by2 : bytesT Tryz.prog 2 = some 8 := by kernel_rfl
theorem ze2 : zeroT Tryz.prog 2 = some (Value.int IntKind.i64 0) := by kernel_rfl
theorem sz3 : szOf Tryz.prog 3 = some 1 := by kernel_rfl
theorem by3 : bytesT Tryz.prog 3 = some 8 := by kernel_rfl
theorem ze3 : zeroT Tryz.prog 3 = some (Value.int IntKind.i64 0) := by kernel_rfl
theorem sz4 : szOf Tryz.prog 4 = some 1 := by kernel_rfl
theorem by4 : bytesT Tryz.prog 4 = some 1 := by kernel_rfl
theorem ze4 : zeroT Tryz.prog 4 = some (Value.bool false) := by kernel_rfl
theorem sz5 : szOf Tryz.prog 5 = some 1 := by kernel_rfl
theorem by5 : bytesT Tryz.prog 5 = some 1 := by kernel_rfl
theorem ze5 : zeroT Tryz.prog 5 = some (Value.int IntKind.u8 0) := by kernel_rfl
theorem sz6 : szOf Tryz.prog 6 = some 1 := by kernel_rfl
theorem by6 : bytesT Tryz.prog 6 = some 1 := by kernel_rfl
theorem ze6 : zeroT Tryz.prog 6 = some (Value.int IntKind.u8 0) := by kernel_rfl
theorem sz9 : szOf Tryz.prog 9 = some 1 := by kernel_rfl
theorem by9 : bytesT Tryz.prog 9 = some 16 := by kernel_rfl
theorem ze9 : zeroT Tryz.prog 9 = some (Value.string { data := #[] }) := by kernel_rfl
theorem sz12 : szOf Tryz.prog 12 = some 1 := by kernel_rfl
theorem by12 : bytesT Tryz.prog 12 = some 8 := by kernel_rfl
theorem ze12 : zeroT Tryz.prog 12 = some (Value.int IntKind.u64 0) := by kernel_rfl
theorem sz21 : szOf Tryz.prog 21 = some 1 := by kernel_rfl
theorem by21 : bytesT Tryz.prog 21 = some 4 := by kernel_rfl
theorem ze21 : zeroT Tryz.prog 21 = some (Value.int IntKind.i32 0) := by kernel_rfl
theorem sz22 : szOf Tryz.prog 22 = some 1 := by kernel_rfl
theorem by22 : bytesT Tryz.prog 22 = some 24 := by kernel_rfl
theorem ze22 : zeroT Tryz.prog 22 = some (Value.slice none 0 0) := by kernel_rfl
theorem sz23 : szOf Tryz.prog 23 = some 1 := by kernel_rfl
theorem by23 : bytesT Tryz.prog 23 = some 24 := by kernel_rfl
theorem ze23 : zeroT Tryz.prog 23 = some (Value.slice none 0 0) := by kernel_rfl
theorem sz24 : szOf Tryz.prog 24 = some 1 := by kernel_rfl
theorem by24 : bytesT Tryz.prog 24 = some 24 := by kernel_rfl
theorem ze24 : zeroT Tryz.prog 24 = some (Value.slice none 0 0) := by kernel_rfl
theorem sz28 : szOf Tryz.prog 28 = some 3 := by kernel_rfl
theorem by28 : bytesT Tryz.prog 28 = some 32 := by kernel_rfl
theorem ze28 : zeroT Tryz.prog 28 = some (Value.agg #[Value.string { data := #[] }, Value.int IntKind.i64 0, Value.int IntKind.i64 0]) := by kernel_rfl
theorem fa28_0 : fieldAt Tryz.prog 28 0 = some (0, 9) := by kernel_rfl
theorem fa28_1 : fieldAt Tryz.prog 28 1 = some (1, 3) := by kernel_rfl
theorem fa28_2 : fieldAt Tryz.prog 28 2 = some (2, 3) := by kernel_rfl
theorem sz29 : szOf Tryz.prog 29 = some 1 := by kernel_rfl
theorem by29 : bytesT Tryz.prog 29 = some 8 := by kernel_rfl
theorem ze29 : zeroT Tryz.prog 29 = some (Value.pointer none) := by kernel_rfl
theorem sz34 : szOf Tryz.prog 34 = some 1 := by kernel_rfl
theorem by34 : bytesT Tryz.prog 34 = some 24 := by kernel_rfl
theorem ze34 : zeroT Tryz.prog 34 = some (Value.slice none 0 0) := by kernel_rfl
theorem sz40 : szOf Tryz.prog 40 = some 1 := by kernel_rfl
theorem by40 : bytesT Tryz.prog 40 = some 24 := by kernel_rfl
theorem ze40 : zeroT Tryz.prog 40 = some (Value.slice none 0 0) := by kernel_rfl
theorem sz43 : szOf Tryz.prog 43 = some 1 := by kernel_rfl
theorem by43 : bytesT Tryz.prog 43 = some 24 := by kernel_rfl
theorem ze43 : zeroT Tryz.prog 43 = some (Value.slice none 0 0) := by kernel_rfl
theorem sz44 : szOf Tryz.prog 44 = some 1 := by kernel_rfl
theorem by44 : bytesT Tryz.prog 44 = some 8 := by kernel_rfl
theorem ze44 : zeroT Tryz.prog 44 = some (Value.int IntKind.i64 0) := by kernel_rfl
theorem sz51 : szOf Tryz.prog 51 = some 1 := by kernel_rfl
theorem by51 : bytesT Tryz.prog 51 = some 24 := by kernel_rfl
theorem ze51 : zeroT Tryz.prog 51 = some (Value.slice none 0 0) := by kernel_rfl
theorem sz52 : szOf Tryz.prog 52 = some 1 := by kernel_rfl
theorem by52 : bytesT Tryz.prog 52 = some 0 := by kernel_rfl
theorem ze52 : zeroT Tryz.prog 52 = some (Value.tuple #[Value.int IntKind.i64 0, Value.int IntKind.i64 0]) := by kernel_rfl
theorem sz55 : szOf Tryz.prog 55 = some 1 := by kernel_rfl
theorem by55 : bytesT Tryz.prog 55 = some 0 := by kernel_rfl
theorem ze55 : zeroT Tryz.prog 55 = some (Value.tuple #[Value.slice none 0 0, Value.int IntKind.i64 0, Value.int IntKind.i64 0]) := by kernel_rfl
theorem sz60 : szOf Tryz.prog 60 = some 2 := by kernel_rfl
theorem by60 : bytesT Tryz.prog 60 = some 32 := by kernel_rfl
theorem ze60 : zeroT Tryz.prog 60 = some (Value.agg #[Value.string { data := #[] }, Value.string { data := #[] }]) := by kernel_rfl
theorem fa60_0 : fieldAt Tryz.prog 60 0 = some (0, 9) := by kernel_rfl
theorem fa60_1 : fieldAt Tryz.prog 60 1 = some (1, 9) := by kernel_rfl
theorem sz62 : szOf Tryz.prog 62 = some 2 := by kernel_rfl
theorem by62 : bytesT Tryz.prog 62 = some 32 := by kernel_rfl
theorem ze62 : zeroT Tryz.prog 62 = some (Value.agg #[Value.slice none 0 0, Value.int IntKind.i64 0]) := by kernel_rfl
theorem fa62_0 : fieldAt Tryz.prog 62 0 = some (0, 22) := by kernel_rfl
theorem fa62_1 : fieldAt Tryz.prog 62 1 = some (1, 3) := by kernel_rfl
theorem sz66 : szOf Tryz.prog 66 = some 1 := by kernel_rfl
theorem by66 : bytesT Tryz.prog 66 = some 8 := by kernel_rfl
theorem ze66 : zeroT Tryz.prog 66 = some Value.nilFunc := by kernel_rfl
theorem sz70 : szOf Tryz.prog 70 = some 1 := by kernel_rfl
theorem by70 : bytesT Tryz.prog 70 = some 0 := by kernel_rfl
theorem ze70 : zeroT Tryz.prog 70 = some (Value.tuple #[Value.int IntKind.i64 0, Value.nilIface]) := by kernel_rfl
theorem sz77 : szOf Tryz.prog 77 = some 1 := by kernel_rfl
theorem by77 : bytesT Tryz.prog 77 = some 8 := by kernel_rfl
theorem ze77 : zeroT Tryz.prog 77 = some (Value.pointer none) := by kernel_rfl
theorem sz78 : szOf Tryz.prog 78 = some 1 := by kernel_rfl
theorem by78 : bytesT Tryz.prog 78 = some 24 := by kernel_rfl
theorem ze78 : zeroT Tryz.prog 78 = some (Value.slice none 0 0) := by kernel_rfl
theorem sz80 : szOf Tryz.prog 80 = some 2 := by kernel_rfl
theorem by80 : bytesT Tryz.prog 80 = some 32 := by kernel_rfl
theorem ze80 : zeroT Tryz.prog 80 = some (Value.agg #[Value.pointer none, Value.slice none 0 0]) := by kernel_rfl
theorem fa80_0 : fieldAt Tryz.prog 80 0 = some (0, 77) := by kernel_rfl
theorem fa80_1 : fieldAt Tryz.prog 80 1 = some (1, 78) := by kernel_rfl
theorem sz83 : szOf Tryz.prog 83 = some 1 := by kernel_rfl
theorem by83 : bytesT Tryz.prog 83 = some 8 := by kernel_rfl
theorem ze83 : zeroT Tryz.prog 83 = some Value.nilFunc := by kernel_rfl
theorem sz84 : szOf Tryz.prog 84 = some 1 := by kernel_rfl
theorem by84 : bytesT Tryz.prog 84 = some 8 := by kernel_rfl
theorem ze84 : zeroT Tryz.prog 84 = some (Value.map none) := by kernel_rfl
theorem sz89 : szOf Tryz.prog 89 = some 1 := by kernel_rfl
theorem by89 : bytesT Tryz.prog 89 = some 0 := by kernel_rfl
theorem ze89 : zeroT Tryz.prog 89 = some (Value.tuple #[Value.string { data := #[] }, Value.string { data := #[] }, Value.bool false]) := by kernel_rfl
theorem sz141 : szOf Tryz.prog 141 = some 256 := by kernel_rfl
theorem by141 : bytesT Tryz.prog 141 = some 256 := by kernel_rfl
theorem sz142 : szOf Tryz.prog 142 = some 1 := by kernel_rfl
theorem by142 : bytesT Tryz.prog 142 = some 0 := by kernel_rfl
theorem sz145 : szOf Tryz.prog 145 = some 1 := by kernel_rfl
theorem by145 : bytesT Tryz.prog 145 = some 8 := by kernel_rfl
theorem ze145 : zeroT Tryz.prog 145 = some (Value.pointer none) := by kernel_rfl
end Go.AM
