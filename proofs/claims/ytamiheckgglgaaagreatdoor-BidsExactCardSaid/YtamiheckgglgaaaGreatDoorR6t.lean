/-
  A part of a proof: see the last text of this claim for what is proved.
-/
import Derived.Test.YtamiheckgglgaaaGreatDoorBM
import Derived.Test.YtamiheckgglgaaaGreatDoorProg
import Derived.KernelRfl
namespace Go.AM
open Go Go.Proofs
theorem sz0 : szOf Tryz.prog 0 = some 1 := by kernel_rfl
theorem by0 : bytesT Tryz.prog 0 = some 0 := by kernel_rfl
theorem ze0 : zeroT Tryz.prog 0 = some (Value.tuple #[]) := by kernel_rfl
theorem sz1 : szOf Tryz.prog 1 = some 1 := by kernel_rfl
theorem by1 : bytesT Tryz.prog 1 = some 8 := by kernel_rfl
theorem ze1 : zeroT Tryz.prog 1 = some Value.nilFunc := by kernel_rfl
theorem sz2 : szOf Tryz.prog 2 = some 1 := by kernel_rfl
theorem by2 : bytesT Tryz.prog 2 = some 8 := by kernel_rfl
theorem ze2 : zeroT Tryz.prog 2 = some (Value.int IntKind.i64 0) := by kernel_rfl
theorem sz3 : szOf Tryz.prog 3 = some 1 := by kernel_rfl
theorem by3 : bytesT Tryz.prog 3 = some 8 := by kernel_rfl
theorem ze3 : zeroT Tryz.prog 3 = some (Value.int IntKind.i64 0) := by kernel_rfl
theorem sz4 : szOf Tryz.prog 4 = some 1 := by kernel_rfl
theorem by4 : bytesT Tryz.prog 4 = some 1 := by kernel_rfl
theorem ze4 : zeroT Tryz.prog 4 = some (Value.bool false) := by kernel_rfl
theorem sz5 : szOf Tryz.prog 5 = some 1 := by kernel_rfl
theorem by5 : bytesT Tryz.prog 5 = some 1 := by kernel_rfl
theorem ze5 : zeroT Tryz.prog 5 = some (Value.int IntKind.u8 0) := by kernel_rfl
theorem sz6 : szOf Tryz.prog 6 = some 1 := by kernel_rfl
theorem by6 : bytesT Tryz.prog 6 = some 1 := by kernel_rfl
theorem ze6 : zeroT Tryz.prog 6 = some (Value.int IntKind.u8 0) := by kernel_rfl
theorem sz7 : szOf Tryz.prog 7 = some 4 := by kernel_rfl
theorem by7 : bytesT Tryz.prog 7 = some 24 := by kernel_rfl
theorem ze7 : zeroT Tryz.prog 7 = some (Value.agg #[Value.int IntKind.i64 0, Value.int IntKind.i64 0, Value.bool false, Value.int IntKind.u8 0]) := by kernel_rfl
theorem fa7_0 : fieldAt Tryz.prog 7 0 = some (0, 2) := by kernel_rfl
theorem fa7_1 : fieldAt Tryz.prog 7 1 = some (1, 3) := by kernel_rfl
theorem fa7_2 : fieldAt Tryz.prog 7 2 = some (2, 4) := by kernel_rfl
theorem fa7_3 : fieldAt Tryz.prog 7 3 = some (3, 6) := by kernel_rfl
theorem sz8 : szOf Tryz.prog 8 = some 4 := by kernel_rfl
theorem by8 : bytesT Tryz.prog 8 = some 24 := by kernel_rfl
theorem ze8 : zeroT Tryz.prog 8 = some (Value.agg #[Value.int IntKind.i64 0, Value.int IntKind.i64 0, Value.bool false, Value.int IntKind.u8 0]) := by kernel_rfl
theorem fa8_0 : fieldAt Tryz.prog 8 0 = some (0, 2) := by kernel_rfl
theorem fa8_1 : fieldAt Tryz.prog 8 1 = some (1, 3) := by kernel_rfl
theorem fa8_2 : fieldAt Tryz.prog 8 2 = some (2, 4) := by kernel_rfl
theorem fa8_3 : fieldAt Tryz.prog 8 3 = some (3, 6) := by kernel_rfl
theorem sz9 : szOf Tryz.prog 9 = some 1 := by kernel_rfl
theorem by9 : bytesT Tryz.prog 9 = some 16 := by kernel_rfl
theorem ze9 : zeroT Tryz.prog 9 = some (Value.string { data := #[] }) := by kernel_rfl
theorem sz10 : szOf Tryz.prog 10 = some 1 := by kernel_rfl
theorem by10 : bytesT Tryz.prog 10 = some 16 := by kernel_rfl
theorem ze10 : zeroT Tryz.prog 10 = some (Value.string { data := #[] }) := by kernel_rfl
theorem sz11 : szOf Tryz.prog 11 = some 1 := by kernel_rfl
theorem by11 : bytesT Tryz.prog 11 = some 16 := by kernel_rfl
theorem ze11 : zeroT Tryz.prog 11 = some (Value.string { data := #[] }) := by kernel_rfl
theorem sz12 : szOf Tryz.prog 12 = some 1 := by kernel_rfl
theorem by12 : bytesT Tryz.prog 12 = some 8 := by kernel_rfl
theorem ze12 : zeroT Tryz.prog 12 = some (Value.int IntKind.u64 0) := by kernel_rfl
theorem sz13 : szOf Tryz.prog 13 = some 2 := by kernel_rfl
theorem by13 : bytesT Tryz.prog 13 = some 24 := by kernel_rfl
theorem ze13 : zeroT Tryz.prog 13 = some (Value.agg #[Value.string { data := #[] }, Value.int IntKind.u64 0]) := by kernel_rfl
theorem fa13_0 : fieldAt Tryz.prog 13 0 = some (0, 9) := by kernel_rfl
theorem fa13_1 : fieldAt Tryz.prog 13 1 = some (1, 12) := by kernel_rfl
theorem sz14 : szOf Tryz.prog 14 = some 2 := by kernel_rfl
theorem by14 : bytesT Tryz.prog 14 = some 24 := by kernel_rfl
theorem ze14 : zeroT Tryz.prog 14 = some (Value.agg #[Value.string { data := #[] }, Value.int IntKind.u64 0]) := by kernel_rfl
theorem fa14_0 : fieldAt Tryz.prog 14 0 = some (0, 9) := by kernel_rfl
theorem fa14_1 : fieldAt Tryz.prog 14 1 = some (1, 12) := by kernel_rfl
theorem sz15 : szOf Tryz.prog 15 = some 1 := by kernel_rfl
theorem by15 : bytesT Tryz.prog 15 = some 8 := by kernel_rfl
theorem ze15 : zeroT Tryz.prog 15 = some (Value.pointer none) := by kernel_rfl
theorem sz16 : szOf Tryz.prog 16 = some 1 := by kernel_rfl
theorem by16 : bytesT Tryz.prog 16 = some 8 := by kernel_rfl
theorem ze16 : zeroT Tryz.prog 16 = some (Value.pointer none) := by kernel_rfl
theorem sz17 : szOf Tryz.prog 17 = some 1 := by kernel_rfl
theorem by17 : bytesT Tryz.prog 17 = some 8 := by kernel_rfl
theorem ze17 : zeroT Tryz.prog 17 = some (Value.pointer none) := by kernel_rfl
theorem sz18 : szOf Tryz.prog 18 = some 1 := by kernel_rfl
theorem by18 : bytesT Tryz.prog 18 = some 8 := by kernel_rfl
theorem ze18 : zeroT Tryz.prog 18 = some (Value.agg #[Value.pointer none]) := by kernel_rfl
theorem fa18_0 : fieldAt Tryz.prog 18 0 = some (0, 17) := by kernel_rfl
theorem sz19 : szOf Tryz.prog 19 = some 1 := by kernel_rfl
theorem by19 : bytesT Tryz.prog 19 = some 8 := by kernel_rfl
theorem ze19 : zeroT Tryz.prog 19 = some (Value.agg #[Value.pointer none]) := by kernel_rfl
theorem fa19_0 : fieldAt Tryz.prog 19 0 = some (0, 17) := by kernel_rfl
theorem sz20 : szOf Tryz.prog 20 = some 1 := by kernel_rfl
theorem by20 : bytesT Tryz.prog 20 = some 16 := by kernel_rfl
theorem ze20 : zeroT Tryz.prog 20 = some Value.nilIface := by kernel_rfl
theorem sz21 : szOf Tryz.prog 21 = some 1 := by kernel_rfl
theorem by21 : bytesT Tryz.prog 21 = some 4 := by kernel_rfl
theorem ze21 : zeroT Tryz.prog 21 = some (Value.int IntKind.i32 0) := by kernel_rfl
theorem sz22 : szOf Tryz.prog 22 = some 1 := by kernel_rfl
theorem by22 : bytesT Tryz.prog 22 = some 24 := by kernel_rfl
theorem ze22 : zeroT Tryz.prog 22 = some (Value.slice none 0 0) := by kernel_rfl
theorem sz23 : szOf Tryz.prog 23 = some 1 := by kernel_rfl
theorem by23 : bytesT Tryz.prog 23 = some 24 := by kernel_rfl
theorem ze23 : zeroT Tryz.prog 23 = some (Value.slice none 0 0) := by kernel_rfl
theorem sz24 : szOf Tryz.prog 24 = some 1 := by kernel_rfl
theorem by24 : bytesT Tryz.prog 24 = some 8 := by kernel_rfl
theorem ze24 : zeroT Tryz.prog 24 = some Value.nilFunc := by kernel_rfl
theorem sz25 : szOf Tryz.prog 25 = some 1 := by kernel_rfl
theorem by25 : bytesT Tryz.prog 25 = some 8 := by kernel_rfl
theorem ze25 : zeroT Tryz.prog 25 = some (Value.pointer none) := by kernel_rfl
theorem sz26 : szOf Tryz.prog 26 = some 1 := by kernel_rfl
theorem by26 : bytesT Tryz.prog 26 = some 8 := by kernel_rfl
theorem ze26 : zeroT Tryz.prog 26 = some Value.nilFunc := by kernel_rfl
theorem sz27 : szOf Tryz.prog 27 = some 1 := by kernel_rfl
theorem by27 : bytesT Tryz.prog 27 = some 8 := by kernel_rfl
theorem ze27 : zeroT Tryz.prog 27 = some Value.nilFunc := by kernel_rfl
theorem sz28 : szOf Tryz.prog 28 = some 5 := by kernel_rfl
theorem by28 : bytesT Tryz.prog 28 = some 40 := by kernel_rfl
theorem ze28 : zeroT Tryz.prog 28 = some (Value.agg #[Value.int IntKind.i64 0, Value.int IntKind.i64 0, Value.int IntKind.i64 0, Value.int IntKind.i64 0, Value.bool false]) := by kernel_rfl
theorem fa28_0 : fieldAt Tryz.prog 28 0 = some (0, 3) := by kernel_rfl
theorem fa28_1 : fieldAt Tryz.prog 28 1 = some (1, 3) := by kernel_rfl
theorem fa28_2 : fieldAt Tryz.prog 28 2 = some (2, 3) := by kernel_rfl
theorem fa28_3 : fieldAt Tryz.prog 28 3 = some (3, 3) := by kernel_rfl
theorem fa28_4 : fieldAt Tryz.prog 28 4 = some (4, 4) := by kernel_rfl
theorem sz29 : szOf Tryz.prog 29 = some 5 := by kernel_rfl
theorem by29 : bytesT Tryz.prog 29 = some 40 := by kernel_rfl
theorem ze29 : zeroT Tryz.prog 29 = some (Value.agg #[Value.int IntKind.i64 0, Value.int IntKind.i64 0, Value.int IntKind.i64 0, Value.int IntKind.i64 0, Value.bool false]) := by kernel_rfl
theorem fa29_0 : fieldAt Tryz.prog 29 0 = some (0, 3) := by kernel_rfl
theorem fa29_1 : fieldAt Tryz.prog 29 1 = some (1, 3) := by kernel_rfl
theorem fa29_2 : fieldAt Tryz.prog 29 2 = some (2, 3) := by kernel_rfl
theorem fa29_3 : fieldAt Tryz.prog 29 3 = some (3, 3) := by kernel_rfl
theorem fa29_4 : fieldAt Tryz.prog 29 4 = some (4, 4) := by kernel_rfl
theorem sz30 : szOf Tryz.prog 30 = some 1 := by kernel_rfl
theorem by30 : bytesT Tryz.prog 30 = some 8 := by kernel_rfl
theorem ze30 : zeroT Tryz.prog 30 = some Value.nilFunc := by kernel_rfl
theorem sz31 : szOf Tryz.prog 31 = some 3 := by kernel_rfl
theorem by31 : bytesT Tryz.prog 31 = some 72 := by kernel_rfl
theorem ze31 : zeroT Tryz.prog 31 = some (Value.agg #[Value.slice none 0 0, Value.slice none 0 0, Value.slice none 0 0]) := by kernel_rfl
theorem sz32 : szOf Tryz.prog 32 = some 1 := by kernel_rfl
theorem by32 : bytesT Tryz.prog 32 = some 8 := by kernel_rfl
theorem ze32 : zeroT Tryz.prog 32 = some (Value.int IntKind.i64 0) := by kernel_rfl
theorem sz33 : szOf Tryz.prog 33 = some 1 := by kernel_rfl
theorem by33 : bytesT Tryz.prog 33 = some 0 := by kernel_rfl
theorem ze33 : zeroT Tryz.prog 33 = some (Value.tuple #[Value.string { data := #[] }, Value.int IntKind.i64 0]) := by kernel_rfl
theorem sz34 : szOf Tryz.prog 34 = some 1 := by kernel_rfl
theorem by34 : bytesT Tryz.prog 34 = some 8 := by kernel_rfl
theorem ze34 : zeroT Tryz.prog 34 = some Value.nilFunc := by kernel_rfl
theorem sz35 : szOf Tryz.prog 35 = some 1 := by kernel_rfl
theorem by35 : bytesT Tryz.prog 35 = some 8 := by kernel_rfl
theorem ze35 : zeroT Tryz.prog 35 = some Value.nilFunc := by kernel_rfl
theorem sz36 : szOf Tryz.prog 36 = some 1 := by kernel_rfl
theorem by36 : bytesT Tryz.prog 36 = some 8 := by kernel_rfl
theorem ze36 : zeroT Tryz.prog 36 = some Value.nilFunc := by kernel_rfl
theorem sz37 : szOf Tryz.prog 37 = some 1 := by kernel_rfl
theorem by37 : bytesT Tryz.prog 37 = some 8 := by kernel_rfl
theorem ze37 : zeroT Tryz.prog 37 = some Value.nilFunc := by kernel_rfl
theorem sz38 : szOf Tryz.prog 38 = some 1 := by kernel_rfl
theorem by38 : bytesT Tryz.prog 38 = some 8 := by kernel_rfl
theorem ze38 : zeroT Tryz.prog 38 = some Value.nilFunc := by kernel_rfl
theorem sz39 : szOf Tryz.prog 39 = some 1 := by kernel_rfl
theorem by39 : bytesT Tryz.prog 39 = some 8 := by kernel_rfl
theorem ze39 : zeroT Tryz.prog 39 = some Value.nilFunc := by kernel_rfl
theorem sz40 : szOf Tryz.prog 40 = some 1 := by kernel_rfl
theorem by40 : bytesT Tryz.prog 40 = some 8 := by kernel_rfl
theorem ze40 : zeroT Tryz.prog 40 = some Value.nilFunc := by kernel_rfl
theorem sz41 : szOf Tryz.prog 41 = some 1 := by kernel_rfl
theorem by41 : bytesT Tryz.prog 41 = some 8 := by kernel_rfl
theorem ze41 : zeroT Tryz.prog 41 = some Value.nilFunc := by kernel_rfl
theorem sz42 : szOf Tryz.prog 42 = some 1 := by kernel_rfl
theorem by42 : bytesT Tryz.prog 42 = some 8 := by kernel_rfl
theorem ze42 : zeroT Tryz.prog 42 = some Value.nilFunc := by kernel_rfl
theorem sz43 : szOf Tryz.prog 43 = some 1 := by kernel_rfl
theorem by43 : bytesT Tryz.prog 43 = some 8 := by kernel_rfl
theorem ze43 : zeroT Tryz.prog 43 = some Value.nilFunc := by kernel_rfl
theorem sz44 : szOf Tryz.prog 44 = some 4 := by kernel_rfl
theorem by44 : bytesT Tryz.prog 44 = some 64 := by kernel_rfl
theorem ze44 : zeroT Tryz.prog 44 = some (Value.agg #[Value.string { data := #[] }, Value.string { data := #[] }, Value.string { data := #[] }, Value.string { data := #[] }]) := by kernel_rfl
theorem sz45 : szOf Tryz.prog 45 = some 1 := by kernel_rfl
theorem by45 : bytesT Tryz.prog 45 = some 0 := by kernel_rfl
theorem ze45 : zeroT Tryz.prog 45 = some (Value.tuple #[Value.slice none 0 0, Value.int IntKind.i64 0, Value.int IntKind.i64 0]) := by kernel_rfl
theorem sz46 : szOf Tryz.prog 46 = some 1 := by kernel_rfl
theorem by46 : bytesT Tryz.prog 46 = some 8 := by kernel_rfl
theorem ze46 : zeroT Tryz.prog 46 = some Value.nilFunc := by kernel_rfl
theorem sz47 : szOf Tryz.prog 47 = some 1 := by kernel_rfl
theorem by47 : bytesT Tryz.prog 47 = some 8 := by kernel_rfl
theorem ze47 : zeroT Tryz.prog 47 = some Value.nilFunc := by kernel_rfl
theorem sz48 : szOf Tryz.prog 48 = some 2 := by kernel_rfl
theorem by48 : bytesT Tryz.prog 48 = some 32 := by kernel_rfl
theorem ze48 : zeroT Tryz.prog 48 = some (Value.agg #[Value.slice none 0 0, Value.int IntKind.i64 0]) := by kernel_rfl
theorem fa48_0 : fieldAt Tryz.prog 48 0 = some (0, 22) := by kernel_rfl
theorem fa48_1 : fieldAt Tryz.prog 48 1 = some (1, 3) := by kernel_rfl
theorem sz49 : szOf Tryz.prog 49 = some 2 := by kernel_rfl
theorem by49 : bytesT Tryz.prog 49 = some 32 := by kernel_rfl
theorem ze49 : zeroT Tryz.prog 49 = some (Value.agg #[Value.slice none 0 0, Value.int IntKind.i64 0]) := by kernel_rfl
theorem fa49_0 : fieldAt Tryz.prog 49 0 = some (0, 22) := by kernel_rfl
theorem fa49_1 : fieldAt Tryz.prog 49 1 = some (1, 3) := by kernel_rfl
theorem sz50 : szOf Tryz.prog 50 = some 1 := by kernel_rfl
theorem by50 : bytesT Tryz.prog 50 = some 8 := by kernel_rfl
theorem ze50 : zeroT Tryz.prog 50 = some Value.nilFunc := by kernel_rfl
theorem sz51 : szOf Tryz.prog 51 = some 1 := by kernel_rfl
theorem by51 : bytesT Tryz.prog 51 = some 8 := by kernel_rfl
theorem ze51 : zeroT Tryz.prog 51 = some Value.nilFunc := by kernel_rfl
theorem sz52 : szOf Tryz.prog 52 = some 1 := by kernel_rfl
theorem by52 : bytesT Tryz.prog 52 = some 8 := by kernel_rfl
theorem ze52 : zeroT Tryz.prog 52 = some (Value.pointer none) := by kernel_rfl
theorem sz53 : szOf Tryz.prog 53 = some 1 := by kernel_rfl
theorem by53 : bytesT Tryz.prog 53 = some 24 := by kernel_rfl
theorem ze53 : zeroT Tryz.prog 53 = some (Value.slice none 0 0) := by kernel_rfl
theorem sz54 : szOf Tryz.prog 54 = some 2 := by kernel_rfl
theorem by54 : bytesT Tryz.prog 54 = some 32 := by kernel_rfl
theorem ze54 : zeroT Tryz.prog 54 = some (Value.agg #[Value.pointer none, Value.slice none 0 0]) := by kernel_rfl
theorem fa54_0 : fieldAt Tryz.prog 54 0 = some (0, 52) := by kernel_rfl
theorem fa54_1 : fieldAt Tryz.prog 54 1 = some (1, 53) := by kernel_rfl
theorem sz55 : szOf Tryz.prog 55 = some 2 := by kernel_rfl
theorem by55 : bytesT Tryz.prog 55 = some 32 := by kernel_rfl
theorem ze55 : zeroT Tryz.prog 55 = some (Value.agg #[Value.pointer none, Value.slice none 0 0]) := by kernel_rfl
theorem fa55_0 : fieldAt Tryz.prog 55 0 = some (0, 52) := by kernel_rfl
theorem fa55_1 : fieldAt Tryz.prog 55 1 = some (1, 53) := by kernel_rfl
theorem sz56 : szOf Tryz.prog 56 = some 1 := by kernel_rfl
theorem by56 : bytesT Tryz.prog 56 = some 16 := by kernel_rfl
theorem ze56 : zeroT Tryz.prog 56 = some Value.nilIface := by kernel_rfl
theorem sz57 : szOf Tryz.prog 57 = some 1 := by kernel_rfl
theorem by57 : bytesT Tryz.prog 57 = some 16 := by kernel_rfl
theorem ze57 : zeroT Tryz.prog 57 = some Value.nilIface := by kernel_rfl
theorem sz58 : szOf Tryz.prog 58 = some 1 := by kernel_rfl
theorem by58 : bytesT Tryz.prog 58 = some 0 := by kernel_rfl
theorem ze58 : zeroT Tryz.prog 58 = some (Value.tuple #[Value.int IntKind.i64 0, Value.nilIface]) := by kernel_rfl
theorem sz59 : szOf Tryz.prog 59 = some 1 := by kernel_rfl
theorem by59 : bytesT Tryz.prog 59 = some 8 := by kernel_rfl
theorem ze59 : zeroT Tryz.prog 59 = some Value.nilFunc := by kernel_rfl
theorem sz60 : szOf Tryz.prog 60 = some 1 := by kernel_rfl
theorem by60 : bytesT Tryz.prog 60 = some 8 := by kernel_rfl
theorem ze60 : zeroT Tryz.prog 60 = some Value.nilFunc := by kernel_rfl
theorem sz61 : szOf Tryz.prog 61 = some 1 := by kernel_rfl
theorem by61 : bytesT Tryz.prog 61 = some 8 := by kernel_rfl
theorem ze61 : zeroT Tryz.prog 61 = some Value.nilFunc := by kernel_rfl
theorem sz62 : szOf Tryz.prog 62 = some 1 := by kernel_rfl
theorem by62 : bytesT Tryz.prog 62 = some 8 := by kernel_rfl
theorem ze62 : zeroT Tryz.prog 62 = some Value.nilFunc := by kernel_rfl
theorem sz63 : szOf Tryz.prog 63 = some 1 := by kernel_rfl
theorem by63 : bytesT Tryz.prog 63 = some 8 := by kernel_rfl
theorem ze63 : zeroT Tryz.prog 63 = some (Value.map none) := by kernel_rfl
theorem sz64 : szOf Tryz.prog 64 = some 2 := by kernel_rfl
theorem by64 : bytesT Tryz.prog 64 = some 16 := by kernel_rfl
theorem ze64 : zeroT Tryz.prog 64 = some (Value.agg #[Value.int IntKind.i64 0, Value.int IntKind.i64 0]) := by kernel_rfl
theorem sz65 : szOf Tryz.prog 65 = some 1 := by kernel_rfl
theorem by65 : bytesT Tryz.prog 65 = some 8 := by kernel_rfl
theorem ze65 : zeroT Tryz.prog 65 = some Value.nilFunc := by kernel_rfl
theorem sz66 : szOf Tryz.prog 66 = some 1 := by kernel_rfl
theorem by66 : bytesT Tryz.prog 66 = some 8 := by kernel_rfl
theorem ze66 : zeroT Tryz.prog 66 = some Value.nilFunc := by kernel_rfl
theorem sz67 : szOf Tryz.prog 67 = some 1 := by kernel_rfl
theorem by67 : bytesT Tryz.prog 67 = some 8 := by kernel_rfl
theorem ze67 : zeroT Tryz.prog 67 = some Value.nilFunc := by kernel_rfl
theorem sz68 : szOf Tryz.prog 68 = some 1 := by kernel_rfl
theorem by68 : bytesT Tryz.prog 68 = some 8 := by kernel_rfl
theorem ze68 : zeroT Tryz.prog 68 = some Value.nilFunc := by kernel_rfl
theorem sz69 : szOf Tryz.prog 69 = some 1 := by kernel_rfl
theorem by69 : bytesT Tryz.prog 69 = some 24 := by kernel_rfl
theorem ze69 : zeroT Tryz.prog 69 = some (Value.slice none 0 0) := by kernel_rfl
theorem sz70 : szOf Tryz.prog 70 = some 1 := by kernel_rfl
theorem by70 : bytesT Tryz.prog 70 = some 8 := by kernel_rfl
theorem ze70 : zeroT Tryz.prog 70 = some Value.nilFunc := by kernel_rfl
theorem sz71 : szOf Tryz.prog 71 = some 1 := by kernel_rfl
theorem by71 : bytesT Tryz.prog 71 = some 8 := by kernel_rfl
theorem ze71 : zeroT Tryz.prog 71 = some Value.nilFunc := by kernel_rfl
theorem sz72 : szOf Tryz.prog 72 = some 1 := by kernel_rfl
theorem by72 : bytesT Tryz.prog 72 = some 8 := by kernel_rfl
theorem ze72 : zeroT Tryz.prog 72 = some Value.nilFunc := by kernel_rfl
theorem sz73 : szOf Tryz.prog 73 = some 1 := by kernel_rfl
theorem by73 : bytesT Tryz.prog 73 = some 8 := by kernel_rfl
theorem ze73 : zeroT Tryz.prog 73 = some Value.nilFunc := by kernel_rfl
theorem sz74 : szOf Tryz.prog 74 = some 1 := by kernel_rfl
theorem by74 : bytesT Tryz.prog 74 = some 8 := by kernel_rfl
theorem ze74 : zeroT Tryz.prog 74 = some Value.nilFunc := by kernel_rfl
theorem sz75 : szOf Tryz.prog 75 = some 1 := by kernel_rfl
theorem by75 : bytesT Tryz.prog 75 = some 8 := by kernel_rfl
theorem ze75 : zeroT Tryz.prog 75 = some Value.nilFunc := by kernel_rfl
theorem sz76 : szOf Tryz.prog 76 = some 1 := by kernel_rfl
theorem by76 : bytesT Tryz.prog 76 = some 8 := by kernel_rfl
theorem ze76 : zeroT Tryz.prog 76 = some Value.nilFunc := by kernel_rfl
theorem sz77 : szOf Tryz.prog 77 = some 1 := by kernel_rfl
theorem by77 : bytesT Tryz.prog 77 = some 8 := by kernel_rfl
theorem ze77 : zeroT Tryz.prog 77 = some Value.nilFunc := by kernel_rfl
theorem sz78 : szOf Tryz.prog 78 = some 1 := by kernel_rfl
theorem by78 : bytesT Tryz.prog 78 = some 8 := by kernel_rfl
theorem ze78 : zeroT Tryz.prog 78 = some (Value.pointer none) := by kernel_rfl
theorem sz79 : szOf Tryz.prog 79 = some 1 := by kernel_rfl
theorem by79 : bytesT Tryz.prog 79 = some 8 := by kernel_rfl
theorem ze79 : zeroT Tryz.prog 79 = some Value.nilFunc := by kernel_rfl
theorem sz80 : szOf Tryz.prog 80 = some 1 := by kernel_rfl
theorem by80 : bytesT Tryz.prog 80 = some 8 := by kernel_rfl
theorem ze80 : zeroT Tryz.prog 80 = some Value.nilFunc := by kernel_rfl
theorem sz81 : szOf Tryz.prog 81 = some 1 := by kernel_rfl
theorem by81 : bytesT Tryz.prog 81 = some 8 := by kernel_rfl
theorem ze81 : zeroT Tryz.prog 81 = some Value.nilFunc := by kernel_rfl
theorem sz82 : szOf Tryz.prog 82 = some 1 := by kernel_rfl
theorem by82 : bytesT Tryz.prog 82 = some 8 := by kernel_rfl
theorem ze82 : zeroT Tryz.prog 82 = some Value.nilFunc := by kernel_rfl
theorem sz83 : szOf Tryz.prog 83 = some 1 := by kernel_rfl
theorem by83 : bytesT Tryz.prog 83 = some 8 := by kernel_rfl
theorem ze83 : zeroT Tryz.prog 83 = some Value.nilFunc := by kernel_rfl
theorem sz84 : szOf Tryz.prog 84 = some 1 := by kernel_rfl
theorem by84 : bytesT Tryz.prog 84 = some 8 := by kernel_rfl
theorem ze84 : zeroT Tryz.prog 84 = some Value.nilFunc := by kernel_rfl
theorem sz85 : szOf Tryz.prog 85 = some 4 := by kernel_rfl
theorem by85 : bytesT Tryz.prog 85 = some 32 := by kernel_rfl
theorem ze85 : zeroT Tryz.prog 85 = some (Value.agg #[Value.int IntKind.i64 0, Value.int IntKind.i64 0, Value.int IntKind.i64 0, Value.int IntKind.i64 0]) := by kernel_rfl
theorem sz86 : szOf Tryz.prog 86 = some 1 := by kernel_rfl
theorem by86 : bytesT Tryz.prog 86 = some 8 := by kernel_rfl
theorem ze86 : zeroT Tryz.prog 86 = some (Value.pointer none) := by kernel_rfl
theorem sz87 : szOf Tryz.prog 87 = some 1 := by kernel_rfl
theorem by87 : bytesT Tryz.prog 87 = some 8 := by kernel_rfl
theorem ze87 : zeroT Tryz.prog 87 = some Value.nilFunc := by kernel_rfl
theorem sz88 : szOf Tryz.prog 88 = some 1 := by kernel_rfl
theorem by88 : bytesT Tryz.prog 88 = some 8 := by kernel_rfl
theorem ze88 : zeroT Tryz.prog 88 = some Value.nilFunc := by kernel_rfl
theorem sz89 : szOf Tryz.prog 89 = some 1 := by kernel_rfl
theorem by89 : bytesT Tryz.prog 89 = some 8 := by kernel_rfl
theorem ze89 : zeroT Tryz.prog 89 = some Value.nilFunc := by kernel_rfl
theorem sz90 : szOf Tryz.prog 90 = some 1 := by kernel_rfl
theorem by90 : bytesT Tryz.prog 90 = some 8 := by kernel_rfl
theorem ze90 : zeroT Tryz.prog 90 = some Value.nilFunc := by kernel_rfl
theorem sz91 : szOf Tryz.prog 91 = some 1 := by kernel_rfl
theorem by91 : bytesT Tryz.prog 91 = some 8 := by kernel_rfl
theorem ze91 : zeroT Tryz.prog 91 = some Value.nilFunc := by kernel_rfl
theorem sz92 : szOf Tryz.prog 92 = some 1 := by kernel_rfl
theorem by92 : bytesT Tryz.prog 92 = some 8 := by kernel_rfl
theorem ze92 : zeroT Tryz.prog 92 = some Value.nilFunc := by kernel_rfl
theorem sz93 : szOf Tryz.prog 93 = some 1 := by kernel_rfl
theorem by93 : bytesT Tryz.prog 93 = some 8 := by kernel_rfl
theorem ze93 : zeroT Tryz.prog 93 = some Value.nilFunc := by kernel_rfl
theorem sz94 : szOf Tryz.prog 94 = some 1 := by kernel_rfl
theorem by94 : bytesT Tryz.prog 94 = some 8 := by kernel_rfl
theorem ze94 : zeroT Tryz.prog 94 = some Value.nilFunc := by kernel_rfl
theorem sz95 : szOf Tryz.prog 95 = some 1 := by kernel_rfl
theorem by95 : bytesT Tryz.prog 95 = some 8 := by kernel_rfl
theorem ze95 : zeroT Tryz.prog 95 = some (Value.int IntKind.u64 0) := by kernel_rfl
theorem sz96 : szOf Tryz.prog 96 = some 1 := by kernel_rfl
theorem by96 : bytesT Tryz.prog 96 = some 8 := by kernel_rfl
theorem ze96 : zeroT Tryz.prog 96 = some Value.nilFunc := by kernel_rfl
theorem sz97 : szOf Tryz.prog 97 = some 1 := by kernel_rfl
theorem by97 : bytesT Tryz.prog 97 = some 8 := by kernel_rfl
theorem ze97 : zeroT Tryz.prog 97 = some (Value.int IntKind.i64 0) := by kernel_rfl
theorem sz98 : szOf Tryz.prog 98 = some 1 := by kernel_rfl
theorem by98 : bytesT Tryz.prog 98 = some 0 := by kernel_rfl
theorem ze98 : zeroT Tryz.prog 98 = some (Value.tuple #[Value.int IntKind.i64 0, Value.nilIface]) := by kernel_rfl
theorem sz99 : szOf Tryz.prog 99 = some 1 := by kernel_rfl
theorem by99 : bytesT Tryz.prog 99 = some 8 := by kernel_rfl
theorem ze99 : zeroT Tryz.prog 99 = some Value.nilFunc := by kernel_rfl
theorem sz100 : szOf Tryz.prog 100 = some 1 := by kernel_rfl
theorem by100 : bytesT Tryz.prog 100 = some 8 := by kernel_rfl
theorem ze100 : zeroT Tryz.prog 100 = some (Value.pointer none) := by kernel_rfl
theorem sz101 : szOf Tryz.prog 101 = some 1 := by kernel_rfl
theorem by101 : bytesT Tryz.prog 101 = some 8 := by kernel_rfl
theorem ze101 : zeroT Tryz.prog 101 = some Value.nilFunc := by kernel_rfl
theorem sz102 : szOf Tryz.prog 102 = some 1 := by kernel_rfl
theorem by102 : bytesT Tryz.prog 102 = some 8 := by kernel_rfl
theorem ze102 : zeroT Tryz.prog 102 = some Value.nilFunc := by kernel_rfl
theorem sz103 : szOf Tryz.prog 103 = some 24 := by kernel_rfl
theorem by103 : bytesT Tryz.prog 103 = some 24 := by kernel_rfl
theorem ze103 : zeroT Tryz.prog 103 = some (Value.agg #[Value.int IntKind.u8 0, Value.int IntKind.u8 0, Value.int IntKind.u8 0, Value.int IntKind.u8 0, Value.int IntKind.u8 0, Value.int IntKind.u8 0, Value.int IntKind.u8 0, Value.int IntKind.u8 0, Value.int IntKind.u8 0, Value.int IntKind.u8 0, Value.int IntKind.u8 0, Value.int IntKind.u8 0, Value.int IntKind.u8 0, Value.int IntKind.u8 0, Value.int IntKind.u8 0, Value.int IntKind.u8 0, Value.int IntKind.u8 0, Value.int IntKind.u8 0, Value.int IntKind.u8 0, Value.int IntKind.u8 0, Value.int IntKind.u8 0, Value.int IntKind.u8 0, Value.int IntKind.u8 0, Value.int IntKind.u8 0]) := by kernel_rfl
theorem sz104 : szOf Tryz.prog 104 = some 1 := by kernel_rfl
theorem by104 : bytesT Tryz.prog 104 = some 8 := by kernel_rfl
theorem ze104 : zeroT Tryz.prog 104 = some (Value.int IntKind.u64 0) := by kernel_rfl
theorem sz105 : szOf Tryz.prog 105 = some 1 := by kernel_rfl
theorem by105 : bytesT Tryz.prog 105 = some 8 := by kernel_rfl
theorem ze105 : zeroT Tryz.prog 105 = some Value.nilFunc := by kernel_rfl
theorem sz106 : szOf Tryz.prog 106 = some 1 := by kernel_rfl
theorem by106 : bytesT Tryz.prog 106 = some 8 := by kernel_rfl
theorem ze106 : zeroT Tryz.prog 106 = some Value.nilFunc := by kernel_rfl
theorem sz107 : szOf Tryz.prog 107 = some 1 := by kernel_rfl
theorem by107 : bytesT Tryz.prog 107 = some 0 := by kernel_rfl
theorem ze107 : zeroT Tryz.prog 107 = some (Value.tuple #[Value.slice none 0 0, Value.string { data := #[] }]) := by kernel_rfl
theorem sz108 : szOf Tryz.prog 108 = some 1 := by kernel_rfl
theorem by108 : bytesT Tryz.prog 108 = some 8 := by kernel_rfl
theorem ze108 : zeroT Tryz.prog 108 = some Value.nilFunc := by kernel_rfl
theorem sz109 : szOf Tryz.prog 109 = some 1 := by kernel_rfl
theorem by109 : bytesT Tryz.prog 109 = some 8 := by kernel_rfl
theorem ze109 : zeroT Tryz.prog 109 = some Value.nilFunc := by kernel_rfl
theorem sz110 : szOf Tryz.prog 110 = some 1 := by kernel_rfl
theorem by110 : bytesT Tryz.prog 110 = some 4 := by kernel_rfl
theorem ze110 : zeroT Tryz.prog 110 = some (Value.int IntKind.u32 0) := by kernel_rfl
theorem sz111 : szOf Tryz.prog 111 = some 1 := by kernel_rfl
theorem by111 : bytesT Tryz.prog 111 = some 0 := by kernel_rfl
theorem ze111 : zeroT Tryz.prog 111 = some (Value.tuple #[Value.int IntKind.u32 0, Value.int IntKind.u32 0]) := by kernel_rfl
theorem sz112 : szOf Tryz.prog 112 = some 1 := by kernel_rfl
theorem by112 : bytesT Tryz.prog 112 = some 8 := by kernel_rfl
theorem ze112 : zeroT Tryz.prog 112 = some Value.nilFunc := by kernel_rfl
theorem sz113 : szOf Tryz.prog 113 = some 1 := by kernel_rfl
theorem by113 : bytesT Tryz.prog 113 = some 0 := by kernel_rfl
theorem ze113 : zeroT Tryz.prog 113 = some (Value.tuple #[Value.int IntKind.i32 0, Value.int IntKind.i64 0]) := by kernel_rfl
theorem sz114 : szOf Tryz.prog 114 = some 1 := by kernel_rfl
theorem by114 : bytesT Tryz.prog 114 = some 8 := by kernel_rfl
theorem ze114 : zeroT Tryz.prog 114 = some Value.nilFunc := by kernel_rfl
theorem sz115 : szOf Tryz.prog 115 = some 1 := by kernel_rfl
theorem by115 : bytesT Tryz.prog 115 = some 0 := by kernel_rfl
theorem ze115 : zeroT Tryz.prog 115 = some (Value.tuple #[Value.int IntKind.u64 0, Value.nilIface]) := by kernel_rfl
theorem sz116 : szOf Tryz.prog 116 = some 1 := by kernel_rfl
theorem by116 : bytesT Tryz.prog 116 = some 8 := by kernel_rfl
theorem ze116 : zeroT Tryz.prog 116 = some Value.nilFunc := by kernel_rfl
theorem sz117 : szOf Tryz.prog 117 = some 1 := by kernel_rfl
theorem by117 : bytesT Tryz.prog 117 = some 8 := by kernel_rfl
theorem ze117 : zeroT Tryz.prog 117 = some Value.nilFunc := by kernel_rfl
theorem sz118 : szOf Tryz.prog 118 = some 3 := by kernel_rfl
theorem by118 : bytesT Tryz.prog 118 = some 48 := by kernel_rfl
theorem ze118 : zeroT Tryz.prog 118 = some (Value.agg #[Value.string { data := #[] }, Value.string { data := #[] }, Value.nilIface]) := by kernel_rfl
theorem fa118_0 : fieldAt Tryz.prog 118 0 = some (0, 9) := by kernel_rfl
theorem fa118_1 : fieldAt Tryz.prog 118 1 = some (1, 9) := by kernel_rfl
theorem fa118_2 : fieldAt Tryz.prog 118 2 = some (2, 57) := by kernel_rfl
theorem sz119 : szOf Tryz.prog 119 = some 3 := by kernel_rfl
theorem by119 : bytesT Tryz.prog 119 = some 48 := by kernel_rfl
theorem ze119 : zeroT Tryz.prog 119 = some (Value.agg #[Value.string { data := #[] }, Value.string { data := #[] }, Value.nilIface]) := by kernel_rfl
theorem fa119_0 : fieldAt Tryz.prog 119 0 = some (0, 9) := by kernel_rfl
theorem fa119_1 : fieldAt Tryz.prog 119 1 = some (1, 9) := by kernel_rfl
theorem fa119_2 : fieldAt Tryz.prog 119 2 = some (2, 57) := by kernel_rfl
theorem sz120 : szOf Tryz.prog 120 = some 1 := by kernel_rfl
theorem by120 : bytesT Tryz.prog 120 = some 8 := by kernel_rfl
theorem ze120 : zeroT Tryz.prog 120 = some Value.nilFunc := by kernel_rfl
theorem sz121 : szOf Tryz.prog 121 = some 1 := by kernel_rfl
theorem by121 : bytesT Tryz.prog 121 = some 8 := by kernel_rfl
theorem ze121 : zeroT Tryz.prog 121 = some Value.nilFunc := by kernel_rfl
theorem sz122 : szOf Tryz.prog 122 = some 20 := by kernel_rfl
theorem by122 : bytesT Tryz.prog 122 = some 160 := by kernel_rfl
theorem ze122 : zeroT Tryz.prog 122 = some (Value.agg #[Value.int IntKind.u64 0, Value.int IntKind.u64 0, Value.int IntKind.u64 0, Value.int IntKind.u64 0, Value.int IntKind.u64 0, Value.int IntKind.u64 0, Value.int IntKind.u64 0, Value.int IntKind.u64 0, Value.int IntKind.u64 0, Value.int IntKind.u64 0, Value.int IntKind.u64 0, Value.int IntKind.u64 0, Value.int IntKind.u64 0, Value.int IntKind.u64 0, Value.int IntKind.u64 0, Value.int IntKind.u64 0, Value.int IntKind.u64 0, Value.int IntKind.u64 0, Value.int IntKind.u64 0, Value.int IntKind.u64 0]) := by kernel_rfl
theorem sz123 : szOf Tryz.prog 123 = some 65 := by kernel_rfl
theorem by123 : bytesT Tryz.prog 123 = some 65 := by kernel_rfl
theorem ze123 : zeroT Tryz.prog 123 = some (Value.agg ([Value.int IntKind.u8 0, Value.int IntKind.u8 0, Value.int IntKind.u8 0, Value.int IntKind.u8 0, Value.int IntKind.u8 0, Value.int IntKind.u8 0, Value.int IntKind.u8 0, Value.int IntKind.u8 0, Value.int IntKind.u8 0, Value.int IntKind.u8 0, Value.int IntKind.u8 0, Value.int IntKind.u8 0, Value.int IntKind.u8 0, Value.int IntKind.u8 0, Value.int IntKind.u8 0, Value.int IntKind.u8 0, Value.int IntKind.u8 0, Value.int IntKind.u8 0, Value.int IntKind.u8 0, Value.int IntKind.u8 0, Value.int IntKind.u8 0, Value.int IntKind.u8 0, Value.int IntKind.u8 0, Value.int IntKind.u8 0, Value.int IntKind.u8 0, Value.int IntKind.u8 0, Value.int IntKind.u8 0, Value.int IntKind.u8 0, Value.int IntKind.u8 0, Value.int IntKind.u8 0, Value.int IntKind.u8 0, Value.int IntKind.u8 0].append [Value.int IntKind.u8 0, Value.int IntKind.u8 0, Value.int IntKind.u8 0, Value.int IntKind.u8 0, Value.int IntKind.u8 0, Value.int IntKind.u8 0, Value.int IntKind.u8 0, Value.int IntKind.u8 0, Value.int IntKind.u8 0, Value.int IntKind.u8 0, Value.int IntKind.u8 0, Value.int IntKind.u8 0, Value.int IntKind.u8 0, Value.int IntKind.u8 0, Value.int IntKind.u8 0, Value.int IntKind.u8 0, Value.int IntKind.u8 0, Value.int IntKind.u8 0, Value.int IntKind.u8 0, Value.int IntKind.u8 0, Value.int IntKind.u8 0, Value.int IntKind.u8 0, Value.int IntKind.u8 0, Value.int IntKind.u8 0, Value.int IntKind.u8 0, Value.int IntKind.u8 0, Value.int IntKind.u8 0, Value.int IntKind.u8 0, Value.int IntKind.u8 0, Value.int IntKind.u8 0, Value.int IntKind.u8 0, Value.int IntKind.u8 0, Value.int IntKind.u8 0]).toArray) := by kernel_rfl
theorem sz124 : szOf Tryz.prog 124 = some 1 := by kernel_rfl
theorem by124 : bytesT Tryz.prog 124 = some 8 := by kernel_rfl
theorem ze124 : zeroT Tryz.prog 124 = some Value.nilFunc := by kernel_rfl
theorem sz125 : szOf Tryz.prog 125 = some 1 := by kernel_rfl
theorem by125 : bytesT Tryz.prog 125 = some 8 := by kernel_rfl
theorem ze125 : zeroT Tryz.prog 125 = some Value.nilFunc := by kernel_rfl
theorem sz126 : szOf Tryz.prog 126 = some 1 := by kernel_rfl
theorem by126 : bytesT Tryz.prog 126 = some 8 := by kernel_rfl
theorem ze126 : zeroT Tryz.prog 126 = some (Value.pointer none) := by kernel_rfl
theorem sz127 : szOf Tryz.prog 127 = some 1 := by kernel_rfl
theorem by127 : bytesT Tryz.prog 127 = some 16 := by kernel_rfl
theorem ze127 : zeroT Tryz.prog 127 = some (Value.agg #[Value.string { data := #[] }]) := by kernel_rfl
theorem fa127_0 : fieldAt Tryz.prog 127 0 = some (0, 9) := by kernel_rfl
theorem sz128 : szOf Tryz.prog 128 = some 1 := by kernel_rfl
theorem by128 : bytesT Tryz.prog 128 = some 16 := by kernel_rfl
theorem ze128 : zeroT Tryz.prog 128 = some (Value.agg #[Value.string { data := #[] }]) := by kernel_rfl
theorem fa128_0 : fieldAt Tryz.prog 128 0 = some (0, 9) := by kernel_rfl
theorem sz129 : szOf Tryz.prog 129 = some 1 := by kernel_rfl
theorem by129 : bytesT Tryz.prog 129 = some 8 := by kernel_rfl
theorem ze129 : zeroT Tryz.prog 129 = some Value.nilFunc := by kernel_rfl
theorem sz130 : szOf Tryz.prog 130 = some 256 := by kernel_rfl
theorem by130 : bytesT Tryz.prog 130 = some 256 := by kernel_rfl
theorem sz131 : szOf Tryz.prog 131 = some 2 := by kernel_rfl
theorem by131 : bytesT Tryz.prog 131 = some 2 := by kernel_rfl
theorem ze131 : zeroT Tryz.prog 131 = some (Value.agg #[Value.int IntKind.u8 0, Value.int IntKind.u8 0]) := by kernel_rfl
theorem fa131_0 : fieldAt Tryz.prog 131 0 = some (0, 5) := by kernel_rfl
theorem fa131_1 : fieldAt Tryz.prog 131 1 = some (1, 5) := by kernel_rfl
theorem sz132 : szOf Tryz.prog 132 = some 2 := by kernel_rfl
theorem by132 : bytesT Tryz.prog 132 = some 2 := by kernel_rfl
theorem ze132 : zeroT Tryz.prog 132 = some (Value.agg #[Value.int IntKind.u8 0, Value.int IntKind.u8 0]) := by kernel_rfl
theorem fa132_0 : fieldAt Tryz.prog 132 0 = some (0, 5) := by kernel_rfl
theorem fa132_1 : fieldAt Tryz.prog 132 1 = some (1, 5) := by kernel_rfl
theorem sz133 : szOf Tryz.prog 133 = some 32 := by kernel_rfl
theorem by133 : bytesT Tryz.prog 133 = some 32 := by kernel_rfl
theorem ze133 : zeroT Tryz.prog 133 = some (Value.agg #[Value.int IntKind.u8 0, Value.int IntKind.u8 0, Value.int IntKind.u8 0, Value.int IntKind.u8 0, Value.int IntKind.u8 0, Value.int IntKind.u8 0, Value.int IntKind.u8 0, Value.int IntKind.u8 0, Value.int IntKind.u8 0, Value.int IntKind.u8 0, Value.int IntKind.u8 0, Value.int IntKind.u8 0, Value.int IntKind.u8 0, Value.int IntKind.u8 0, Value.int IntKind.u8 0, Value.int IntKind.u8 0, Value.int IntKind.u8 0, Value.int IntKind.u8 0, Value.int IntKind.u8 0, Value.int IntKind.u8 0, Value.int IntKind.u8 0, Value.int IntKind.u8 0, Value.int IntKind.u8 0, Value.int IntKind.u8 0, Value.int IntKind.u8 0, Value.int IntKind.u8 0, Value.int IntKind.u8 0, Value.int IntKind.u8 0, Value.int IntKind.u8 0, Value.int IntKind.u8 0, Value.int IntKind.u8 0, Value.int IntKind.u8 0]) := by kernel_rfl
theorem sz134 : szOf Tryz.prog 134 = some 32 := by kernel_rfl
theorem by134 : bytesT Tryz.prog 134 = some 32 := by kernel_rfl
theorem ze134 : zeroT Tryz.prog 134 = some (Value.agg #[Value.int IntKind.u8 0, Value.int IntKind.u8 0, Value.int IntKind.u8 0, Value.int IntKind.u8 0, Value.int IntKind.u8 0, Value.int IntKind.u8 0, Value.int IntKind.u8 0, Value.int IntKind.u8 0, Value.int IntKind.u8 0, Value.int IntKind.u8 0, Value.int IntKind.u8 0, Value.int IntKind.u8 0, Value.int IntKind.u8 0, Value.int IntKind.u8 0, Value.int IntKind.u8 0, Value.int IntKind.u8 0, Value.int IntKind.u8 0, Value.int IntKind.u8 0, Value.int IntKind.u8 0, Value.int IntKind.u8 0, Value.int IntKind.u8 0, Value.int IntKind.u8 0, Value.int IntKind.u8 0, Value.int IntKind.u8 0, Value.int IntKind.u8 0, Value.int IntKind.u8 0, Value.int IntKind.u8 0, Value.int IntKind.u8 0, Value.int IntKind.u8 0, Value.int IntKind.u8 0, Value.int IntKind.u8 0, Value.int IntKind.u8 0]) := by kernel_rfl
theorem sz135 : szOf Tryz.prog 135 = some 64 := by kernel_rfl
theorem by135 : bytesT Tryz.prog 135 = some 64 := by kernel_rfl
theorem ze135 : zeroT Tryz.prog 135 = some (Value.agg #[Value.int IntKind.u8 0, Value.int IntKind.u8 0, Value.int IntKind.u8 0, Value.int IntKind.u8 0, Value.int IntKind.u8 0, Value.int IntKind.u8 0, Value.int IntKind.u8 0, Value.int IntKind.u8 0, Value.int IntKind.u8 0, Value.int IntKind.u8 0, Value.int IntKind.u8 0, Value.int IntKind.u8 0, Value.int IntKind.u8 0, Value.int IntKind.u8 0, Value.int IntKind.u8 0, Value.int IntKind.u8 0, Value.int IntKind.u8 0, Value.int IntKind.u8 0, Value.int IntKind.u8 0, Value.int IntKind.u8 0, Value.int IntKind.u8 0, Value.int IntKind.u8 0, Value.int IntKind.u8 0, Value.int IntKind.u8 0, Value.int IntKind.u8 0, Value.int IntKind.u8 0, Value.int IntKind.u8 0, Value.int IntKind.u8 0, Value.int IntKind.u8 0, Value.int IntKind.u8 0, Value.int IntKind.u8 0, Value.int IntKind.u8 0, Value.int IntKind.u8 0, Value.int IntKind.u8 0, Value.int IntKind.u8 0, Value.int IntKind.u8 0, Value.int IntKind.u8 0, Value.int IntKind.u8 0, Value.int IntKind.u8 0, Value.int IntKind.u8 0, Value.int IntKind.u8 0, Value.int IntKind.u8 0, Value.int IntKind.u8 0, Value.int IntKind.u8 0, Value.int IntKind.u8 0, Value.int IntKind.u8 0, Value.int IntKind.u8 0, Value.int IntKind.u8 0, Value.int IntKind.u8 0, Value.int IntKind.u8 0, Value.int IntKind.u8 0, Value.int IntKind.u8 0, Value.int IntKind.u8 0, Value.int IntKind.u8 0, Value.int IntKind.u8 0, Value.int IntKind.u8 0, Value.int IntKind.u8 0, Value.int IntKind.u8 0, Value.int IntKind.u8 0, Value.int IntKind.u8 0, Value.int IntKind.u8 0, Value.int IntKind.u8 0, Value.int IntKind.u8 0, Value.int IntKind.u8 0]) := by kernel_rfl
theorem sz136 : szOf Tryz.prog 136 = some 4 := by kernel_rfl
theorem by136 : bytesT Tryz.prog 136 = some 40 := by kernel_rfl
theorem ze136 : zeroT Tryz.prog 136 = some (Value.agg #[Value.pointer none, Value.pointer none, Value.pointer none, Value.string { data := #[] }]) := by kernel_rfl
theorem fa136_0 : fieldAt Tryz.prog 136 0 = some (0, 17) := by kernel_rfl
theorem fa136_1 : fieldAt Tryz.prog 136 1 = some (1, 17) := by kernel_rfl
theorem fa136_2 : fieldAt Tryz.prog 136 2 = some (2, 17) := by kernel_rfl
theorem fa136_3 : fieldAt Tryz.prog 136 3 = some (3, 9) := by kernel_rfl
theorem sz137 : szOf Tryz.prog 137 = some 4 := by kernel_rfl
theorem by137 : bytesT Tryz.prog 137 = some 40 := by kernel_rfl
theorem ze137 : zeroT Tryz.prog 137 = some (Value.agg #[Value.pointer none, Value.pointer none, Value.pointer none, Value.string { data := #[] }]) := by kernel_rfl
theorem fa137_0 : fieldAt Tryz.prog 137 0 = some (0, 17) := by kernel_rfl
theorem fa137_1 : fieldAt Tryz.prog 137 1 = some (1, 17) := by kernel_rfl
theorem fa137_2 : fieldAt Tryz.prog 137 2 = some (2, 17) := by kernel_rfl
theorem fa137_3 : fieldAt Tryz.prog 137 3 = some (3, 9) := by kernel_rfl
theorem sz138 : szOf Tryz.prog 138 = some 0 := by kernel_rfl
theorem by138 : bytesT Tryz.prog 138 = some 0 := by kernel_rfl
theorem ze138 : zeroT Tryz.prog 138 = some (Value.agg #[]) := by kernel_rfl
theorem sz139 : szOf Tryz.prog 139 = some 0 := by kernel_rfl
theorem by139 : bytesT Tryz.prog 139 = some 0 := by kernel_rfl
theorem ze139 : zeroT Tryz.prog 139 = some (Value.agg #[]) := by kernel_rfl
theorem fa139_0 : fieldAt Tryz.prog 139 0 = some (0, 138) := by kernel_rfl
theorem sz140 : szOf Tryz.prog 140 = some 0 := by kernel_rfl
theorem by140 : bytesT Tryz.prog 140 = some 0 := by kernel_rfl
theorem ze140 : zeroT Tryz.prog 140 = some (Value.agg #[]) := by kernel_rfl
theorem fa140_0 : fieldAt Tryz.prog 140 0 = some (0, 138) := by kernel_rfl
theorem sz141 : szOf Tryz.prog 141 = some 1 := by kernel_rfl
theorem by141 : bytesT Tryz.prog 141 = some 8 := by kernel_rfl
theorem ze141 : zeroT Tryz.prog 141 = some Value.nilFunc := by kernel_rfl
theorem sz142 : szOf Tryz.prog 142 = some 1 := by kernel_rfl
theorem by142 : bytesT Tryz.prog 142 = some 1 := by kernel_rfl
theorem ze142 : zeroT Tryz.prog 142 = some (Value.int IntKind.u8 0) := by kernel_rfl
theorem sz143 : szOf Tryz.prog 143 = some 1 := by kernel_rfl
theorem by143 : bytesT Tryz.prog 143 = some 1 := by kernel_rfl
theorem ze143 : zeroT Tryz.prog 143 = some (Value.int IntKind.u8 0) := by kernel_rfl
theorem sz144 : szOf Tryz.prog 144 = some 1 := by kernel_rfl
theorem by144 : bytesT Tryz.prog 144 = some 8 := by kernel_rfl
theorem ze144 : zeroT Tryz.prog 144 = some Value.nilFunc := by kernel_rfl
theorem sz145 : szOf Tryz.prog 145 = some 1 := by kernel_rfl
theorem by145 : bytesT Tryz.prog 145 = some 4 := by kernel_rfl
theorem ze145 : zeroT Tryz.prog 145 = some (Value.int IntKind.i32 0) := by kernel_rfl
theorem sz146 : szOf Tryz.prog 146 = some 1 := by kernel_rfl
theorem by146 : bytesT Tryz.prog 146 = some 4 := by kernel_rfl
theorem ze146 : zeroT Tryz.prog 146 = some (Value.int IntKind.i32 0) := by kernel_rfl
theorem sz147 : szOf Tryz.prog 147 = some 11 := by kernel_rfl
theorem by147 : bytesT Tryz.prog 147 = some 48 := by kernel_rfl
theorem ze147 : zeroT Tryz.prog 147 = some (Value.agg #[Value.int IntKind.u64 0, Value.int IntKind.u64 0, Value.int IntKind.u32 0, Value.int IntKind.u8 0, Value.int IntKind.u8 0, Value.int IntKind.u8 0, Value.int IntKind.u8 0, Value.nilFunc, Value.pointer none, Value.int IntKind.i32 0, Value.int IntKind.i32 0]) := by kernel_rfl
theorem fa147_0 : fieldAt Tryz.prog 147 0 = some (0, 12) := by kernel_rfl
theorem fa147_1 : fieldAt Tryz.prog 147 1 = some (1, 12) := by kernel_rfl
theorem fa147_2 : fieldAt Tryz.prog 147 2 = some (2, 110) := by kernel_rfl
theorem fa147_3 : fieldAt Tryz.prog 147 3 = some (3, 142) := by kernel_rfl
theorem fa147_4 : fieldAt Tryz.prog 147 4 = some (4, 5) := by kernel_rfl
theorem fa147_5 : fieldAt Tryz.prog 147 5 = some (5, 5) := by kernel_rfl
theorem fa147_6 : fieldAt Tryz.prog 147 6 = some (6, 143) := by kernel_rfl
theorem fa147_7 : fieldAt Tryz.prog 147 7 = some (7, 144) := by kernel_rfl
theorem fa147_8 : fieldAt Tryz.prog 147 8 = some (8, 78) := by kernel_rfl
theorem fa147_9 : fieldAt Tryz.prog 147 9 = some (9, 145) := by kernel_rfl
theorem fa147_10 : fieldAt Tryz.prog 147 10 = some (10, 146) := by kernel_rfl
theorem sz148 : szOf Tryz.prog 148 = some 11 := by kernel_rfl
theorem by148 : bytesT Tryz.prog 148 = some 48 := by kernel_rfl
theorem ze148 : zeroT Tryz.prog 148 = some (Value.agg #[Value.int IntKind.u64 0, Value.int IntKind.u64 0, Value.int IntKind.u32 0, Value.int IntKind.u8 0, Value.int IntKind.u8 0, Value.int IntKind.u8 0, Value.int IntKind.u8 0, Value.nilFunc, Value.pointer none, Value.int IntKind.i32 0, Value.int IntKind.i32 0]) := by kernel_rfl
theorem fa148_0 : fieldAt Tryz.prog 148 0 = some (0, 12) := by kernel_rfl
theorem fa148_1 : fieldAt Tryz.prog 148 1 = some (1, 12) := by kernel_rfl
theorem fa148_2 : fieldAt Tryz.prog 148 2 = some (2, 110) := by kernel_rfl
theorem fa148_3 : fieldAt Tryz.prog 148 3 = some (3, 142) := by kernel_rfl
theorem fa148_4 : fieldAt Tryz.prog 148 4 = some (4, 5) := by kernel_rfl
theorem fa148_5 : fieldAt Tryz.prog 148 5 = some (5, 5) := by kernel_rfl
theorem fa148_6 : fieldAt Tryz.prog 148 6 = some (6, 143) := by kernel_rfl
theorem fa148_7 : fieldAt Tryz.prog 148 7 = some (7, 144) := by kernel_rfl
theorem fa148_8 : fieldAt Tryz.prog 148 8 = some (8, 78) := by kernel_rfl
theorem fa148_9 : fieldAt Tryz.prog 148 9 = some (9, 145) := by kernel_rfl
theorem fa148_10 : fieldAt Tryz.prog 148 10 = some (10, 146) := by kernel_rfl
end Go.AM
