/-
  A part of a proof: see the last text of this claim for what is proved.
-/
import Derived.Test.YtamiheckgglgaaaDoorBMc
import Derived.Test.YtamiheckgglgaaaDoorProg
import Derived.KernelRfl
namespace Go.AM
open Go Go.Proofs
theorem sz0 : szOf Tryd.prog 0 = some 1 := by kernel_rfl
theorem by0 : bytesT Tryd.prog 0 = some 0 := by kernel_rfl
theorem ze0 : zeroT Tryd.prog 0 = some (Value.tuple #[]) := by kernel_rfl
theorem sz1 : szOf Tryd.prog 1 = some 1 := by kernel_rfl
theorem by1 : bytesT Tryd.prog 1 = some 8 := by kernel_rfl
theorem ze1 : zeroT Tryd.prog 1 = some Value.nilFunc := by kernel_rfl
theorem sz2 : szOf Tryd.prog 2 = some 1 := by kernel_rfl
theorem by2 : bytesT Tryd.prog 2 = some 8 := by kernel_rfl
theorem ze2 : zeroT Tryd.prog 2 = some (Value.int IntKind.i64 0) := by kernel_rfl
theorem sz3 : szOf Tryd.prog 3 = some 1 := by kernel_rfl
theorem by3 : bytesT Tryd.prog 3 = some 8 := by kernel_rfl
theorem ze3 : zeroT Tryd.prog 3 = some (Value.int IntKind.i64 0) := by kernel_rfl
theorem sz4 : szOf Tryd.prog 4 = some 1 := by kernel_rfl
theorem by4 : bytesT Tryd.prog 4 = some 1 := by kernel_rfl
theorem ze4 : zeroT Tryd.prog 4 = some (Value.bool false) := by kernel_rfl
theorem sz5 : szOf Tryd.prog 5 = some 1 := by kernel_rfl
theorem by5 : bytesT Tryd.prog 5 = some 1 := by kernel_rfl
theorem ze5 : zeroT Tryd.prog 5 = some (Value.int IntKind.u8 0) := by kernel_rfl
theorem sz6 : szOf Tryd.prog 6 = some 1 := by kernel_rfl
theorem by6 : bytesT Tryd.prog 6 = some 1 := by kernel_rfl
theorem ze6 : zeroT Tryd.prog 6 = some (Value.int IntKind.u8 0) := by kernel_rfl
theorem sz7 : szOf Tryd.prog 7 = some 4 := by kernel_rfl
theorem by7 : bytesT Tryd.prog 7 = some 24 := by kernel_rfl
theorem ze7 : zeroT Tryd.prog 7 = some (Value.agg #[Value.int IntKind.i64 0, Value.int IntKind.i64 0, Value.bool false, Value.int IntKind.u8 0]) := by kernel_rfl
theorem fa7_0 : fieldAt Tryd.prog 7 0 = some (0, 2) := by kernel_rfl
theorem fa7_1 : fieldAt Tryd.prog 7 1 = some (1, 3) := by kernel_rfl
theorem fa7_2 : fieldAt Tryd.prog 7 2 = some (2, 4) := by kernel_rfl
theorem fa7_3 : fieldAt Tryd.prog 7 3 = some (3, 6) := by kernel_rfl
theorem sz8 : szOf Tryd.prog 8 = some 4 := by kernel_rfl
theorem by8 : bytesT Tryd.prog 8 = some 24 := by kernel_rfl
theorem ze8 : zeroT Tryd.prog 8 = some (Value.agg #[Value.int IntKind.i64 0, Value.int IntKind.i64 0, Value.bool false, Value.int IntKind.u8 0]) := by kernel_rfl
theorem fa8_0 : fieldAt Tryd.prog 8 0 = some (0, 2) := by kernel_rfl
theorem fa8_1 : fieldAt Tryd.prog 8 1 = some (1, 3) := by kernel_rfl
theorem fa8_2 : fieldAt Tryd.prog 8 2 = some (2, 4) := by kernel_rfl
theorem fa8_3 : fieldAt Tryd.prog 8 3 = some (3, 6) := by kernel_rfl
theorem sz9 : szOf Tryd.prog 9 = some 1 := by kernel_rfl
theorem by9 : bytesT Tryd.prog 9 = some 16 := by kernel_rfl
theorem ze9 : zeroT Tryd.prog 9 = some (Value.string { data := #[] }) := by kernel_rfl
theorem sz10 : szOf Tryd.prog 10 = some 1 := by kernel_rfl
theorem by10 : bytesT Tryd.prog 10 = some 16 := by kernel_rfl
theorem ze10 : zeroT Tryd.prog 10 = some (Value.string { data := #[] }) := by kernel_rfl
theorem sz11 : szOf Tryd.prog 11 = some 1 := by kernel_rfl
theorem by11 : bytesT Tryd.prog 11 = some 16 := by kernel_rfl
theorem ze11 : zeroT Tryd.prog 11 = some (Value.string { data := #[] }) := by kernel_rfl
theorem sz12 : szOf Tryd.prog 12 = some 1 := by kernel_rfl
theorem by12 : bytesT Tryd.prog 12 = some 8 := by kernel_rfl
theorem ze12 : zeroT Tryd.prog 12 = some (Value.int IntKind.u64 0) := by kernel_rfl
theorem sz13 : szOf Tryd.prog 13 = some 2 := by kernel_rfl
theorem by13 : bytesT Tryd.prog 13 = some 24 := by kernel_rfl
theorem ze13 : zeroT Tryd.prog 13 = some (Value.agg #[Value.string { data := #[] }, Value.int IntKind.u64 0]) := by kernel_rfl
theorem fa13_0 : fieldAt Tryd.prog 13 0 = some (0, 9) := by kernel_rfl
theorem fa13_1 : fieldAt Tryd.prog 13 1 = some (1, 12) := by kernel_rfl
theorem sz14 : szOf Tryd.prog 14 = some 2 := by kernel_rfl
theorem by14 : bytesT Tryd.prog 14 = some 24 := by kernel_rfl
theorem ze14 : zeroT Tryd.prog 14 = some (Value.agg #[Value.string { data := #[] }, Value.int IntKind.u64 0]) := by kernel_rfl
theorem fa14_0 : fieldAt Tryd.prog 14 0 = some (0, 9) := by kernel_rfl
theorem fa14_1 : fieldAt Tryd.prog 14 1 = some (1, 12) := by kernel_rfl
theorem sz15 : szOf Tryd.prog 15 = some 1 := by kernel_rfl
theorem by15 : bytesT Tryd.prog 15 = some 8 := by kernel_rfl
theorem ze15 : zeroT Tryd.prog 15 = some (Value.pointer none) := by kernel_rfl
theorem sz16 : szOf Tryd.prog 16 = some 1 := by kernel_rfl
theorem by16 : bytesT Tryd.prog 16 = some 8 := by kernel_rfl
theorem ze16 : zeroT Tryd.prog 16 = some (Value.pointer none) := by kernel_rfl
theorem sz17 : szOf Tryd.prog 17 = some 1 := by kernel_rfl
theorem by17 : bytesT Tryd.prog 17 = some 8 := by kernel_rfl
theorem ze17 : zeroT Tryd.prog 17 = some (Value.pointer none) := by kernel_rfl
theorem sz18 : szOf Tryd.prog 18 = some 1 := by kernel_rfl
theorem by18 : bytesT Tryd.prog 18 = some 8 := by kernel_rfl
theorem ze18 : zeroT Tryd.prog 18 = some (Value.agg #[Value.pointer none]) := by kernel_rfl
theorem fa18_0 : fieldAt Tryd.prog 18 0 = some (0, 17) := by kernel_rfl
theorem sz19 : szOf Tryd.prog 19 = some 1 := by kernel_rfl
theorem by19 : bytesT Tryd.prog 19 = some 8 := by kernel_rfl
theorem ze19 : zeroT Tryd.prog 19 = some (Value.agg #[Value.pointer none]) := by kernel_rfl
theorem fa19_0 : fieldAt Tryd.prog 19 0 = some (0, 17) := by kernel_rfl
theorem sz20 : szOf Tryd.prog 20 = some 1 := by kernel_rfl
theorem by20 : bytesT Tryd.prog 20 = some 16 := by kernel_rfl
theorem ze20 : zeroT Tryd.prog 20 = some Value.nilIface := by kernel_rfl
theorem sz21 : szOf Tryd.prog 21 = some 1 := by kernel_rfl
theorem by21 : bytesT Tryd.prog 21 = some 4 := by kernel_rfl
theorem ze21 : zeroT Tryd.prog 21 = some (Value.int IntKind.i32 0) := by kernel_rfl
theorem sz22 : szOf Tryd.prog 22 = some 1 := by kernel_rfl
theorem by22 : bytesT Tryd.prog 22 = some 24 := by kernel_rfl
theorem ze22 : zeroT Tryd.prog 22 = some (Value.slice none 0 0) := by kernel_rfl
theorem sz23 : szOf Tryd.prog 23 = some 1 := by kernel_rfl
theorem by23 : bytesT Tryd.prog 23 = some 8 := by kernel_rfl
theorem ze23 : zeroT Tryd.prog 23 = some (Value.pointer none) := by kernel_rfl
theorem sz24 : szOf Tryd.prog 24 = some 1 := by kernel_rfl
theorem by24 : bytesT Tryd.prog 24 = some 8 := by kernel_rfl
theorem ze24 : zeroT Tryd.prog 24 = some Value.nilFunc := by kernel_rfl
theorem sz25 : szOf Tryd.prog 25 = some 1 := by kernel_rfl
theorem by25 : bytesT Tryd.prog 25 = some 24 := by kernel_rfl
theorem ze25 : zeroT Tryd.prog 25 = some (Value.slice none 0 0) := by kernel_rfl
theorem sz26 : szOf Tryd.prog 26 = some 1 := by kernel_rfl
theorem by26 : bytesT Tryd.prog 26 = some 8 := by kernel_rfl
theorem ze26 : zeroT Tryd.prog 26 = some Value.nilFunc := by kernel_rfl
theorem sz27 : szOf Tryd.prog 27 = some 5 := by kernel_rfl
theorem by27 : bytesT Tryd.prog 27 = some 40 := by kernel_rfl
theorem ze27 : zeroT Tryd.prog 27 = some (Value.agg #[Value.int IntKind.i64 0, Value.int IntKind.i64 0, Value.int IntKind.i64 0, Value.int IntKind.i64 0, Value.bool false]) := by kernel_rfl
theorem fa27_0 : fieldAt Tryd.prog 27 0 = some (0, 3) := by kernel_rfl
theorem fa27_1 : fieldAt Tryd.prog 27 1 = some (1, 3) := by kernel_rfl
theorem fa27_2 : fieldAt Tryd.prog 27 2 = some (2, 3) := by kernel_rfl
theorem fa27_3 : fieldAt Tryd.prog 27 3 = some (3, 3) := by kernel_rfl
theorem fa27_4 : fieldAt Tryd.prog 27 4 = some (4, 4) := by kernel_rfl
theorem sz28 : szOf Tryd.prog 28 = some 5 := by kernel_rfl
theorem by28 : bytesT Tryd.prog 28 = some 40 := by kernel_rfl
theorem ze28 : zeroT Tryd.prog 28 = some (Value.agg #[Value.int IntKind.i64 0, Value.int IntKind.i64 0, Value.int IntKind.i64 0, Value.int IntKind.i64 0, Value.bool false]) := by kernel_rfl
theorem fa28_0 : fieldAt Tryd.prog 28 0 = some (0, 3) := by kernel_rfl
theorem fa28_1 : fieldAt Tryd.prog 28 1 = some (1, 3) := by kernel_rfl
theorem fa28_2 : fieldAt Tryd.prog 28 2 = some (2, 3) := by kernel_rfl
theorem fa28_3 : fieldAt Tryd.prog 28 3 = some (3, 3) := by kernel_rfl
theorem fa28_4 : fieldAt Tryd.prog 28 4 = some (4, 4) := by kernel_rfl
theorem sz29 : szOf Tryd.prog 29 = some 1 := by kernel_rfl
theorem by29 : bytesT Tryd.prog 29 = some 8 := by kernel_rfl
theorem ze29 : zeroT Tryd.prog 29 = some Value.nilFunc := by kernel_rfl
theorem sz30 : szOf Tryd.prog 30 = some 1 := by kernel_rfl
theorem by30 : bytesT Tryd.prog 30 = some 8 := by kernel_rfl
theorem ze30 : zeroT Tryd.prog 30 = some Value.nilFunc := by kernel_rfl
theorem sz31 : szOf Tryd.prog 31 = some 1 := by kernel_rfl
theorem by31 : bytesT Tryd.prog 31 = some 8 := by kernel_rfl
theorem ze31 : zeroT Tryd.prog 31 = some Value.nilFunc := by kernel_rfl
theorem sz32 : szOf Tryd.prog 32 = some 1 := by kernel_rfl
theorem by32 : bytesT Tryd.prog 32 = some 8 := by kernel_rfl
theorem ze32 : zeroT Tryd.prog 32 = some Value.nilFunc := by kernel_rfl
theorem sz33 : szOf Tryd.prog 33 = some 1 := by kernel_rfl
theorem by33 : bytesT Tryd.prog 33 = some 8 := by kernel_rfl
theorem ze33 : zeroT Tryd.prog 33 = some Value.nilFunc := by kernel_rfl
theorem sz34 : szOf Tryd.prog 34 = some 1 := by kernel_rfl
theorem by34 : bytesT Tryd.prog 34 = some 8 := by kernel_rfl
theorem ze34 : zeroT Tryd.prog 34 = some Value.nilFunc := by kernel_rfl
theorem sz35 : szOf Tryd.prog 35 = some 1 := by kernel_rfl
theorem by35 : bytesT Tryd.prog 35 = some 8 := by kernel_rfl
theorem ze35 : zeroT Tryd.prog 35 = some (Value.int IntKind.i64 0) := by kernel_rfl
theorem sz36 : szOf Tryd.prog 36 = some 1 := by kernel_rfl
theorem by36 : bytesT Tryd.prog 36 = some 0 := by kernel_rfl
theorem ze36 : zeroT Tryd.prog 36 = some (Value.tuple #[Value.string { data := #[] }, Value.int IntKind.i64 0]) := by kernel_rfl
theorem sz37 : szOf Tryd.prog 37 = some 1 := by kernel_rfl
theorem by37 : bytesT Tryd.prog 37 = some 8 := by kernel_rfl
theorem ze37 : zeroT Tryd.prog 37 = some Value.nilFunc := by kernel_rfl
theorem sz38 : szOf Tryd.prog 38 = some 1 := by kernel_rfl
theorem by38 : bytesT Tryd.prog 38 = some 0 := by kernel_rfl
theorem ze38 : zeroT Tryd.prog 38 = some (Value.tuple #[Value.slice none 0 0, Value.int IntKind.i64 0, Value.int IntKind.i64 0]) := by kernel_rfl
theorem sz39 : szOf Tryd.prog 39 = some 1 := by kernel_rfl
theorem by39 : bytesT Tryd.prog 39 = some 8 := by kernel_rfl
theorem ze39 : zeroT Tryd.prog 39 = some Value.nilFunc := by kernel_rfl
theorem sz40 : szOf Tryd.prog 40 = some 1 := by kernel_rfl
theorem by40 : bytesT Tryd.prog 40 = some 8 := by kernel_rfl
theorem ze40 : zeroT Tryd.prog 40 = some Value.nilFunc := by kernel_rfl
theorem sz41 : szOf Tryd.prog 41 = some 1 := by kernel_rfl
theorem by41 : bytesT Tryd.prog 41 = some 8 := by kernel_rfl
theorem ze41 : zeroT Tryd.prog 41 = some Value.nilFunc := by kernel_rfl
theorem sz42 : szOf Tryd.prog 42 = some 1 := by kernel_rfl
theorem by42 : bytesT Tryd.prog 42 = some 8 := by kernel_rfl
theorem ze42 : zeroT Tryd.prog 42 = some Value.nilFunc := by kernel_rfl
theorem sz43 : szOf Tryd.prog 43 = some 2 := by kernel_rfl
theorem by43 : bytesT Tryd.prog 43 = some 32 := by kernel_rfl
theorem ze43 : zeroT Tryd.prog 43 = some (Value.agg #[Value.slice none 0 0, Value.int IntKind.i64 0]) := by kernel_rfl
theorem fa43_0 : fieldAt Tryd.prog 43 0 = some (0, 22) := by kernel_rfl
theorem fa43_1 : fieldAt Tryd.prog 43 1 = some (1, 3) := by kernel_rfl
theorem sz44 : szOf Tryd.prog 44 = some 2 := by kernel_rfl
theorem by44 : bytesT Tryd.prog 44 = some 32 := by kernel_rfl
theorem ze44 : zeroT Tryd.prog 44 = some (Value.agg #[Value.slice none 0 0, Value.int IntKind.i64 0]) := by kernel_rfl
theorem fa44_0 : fieldAt Tryd.prog 44 0 = some (0, 22) := by kernel_rfl
theorem fa44_1 : fieldAt Tryd.prog 44 1 = some (1, 3) := by kernel_rfl
theorem sz45 : szOf Tryd.prog 45 = some 1 := by kernel_rfl
theorem by45 : bytesT Tryd.prog 45 = some 8 := by kernel_rfl
theorem ze45 : zeroT Tryd.prog 45 = some Value.nilFunc := by kernel_rfl
theorem sz46 : szOf Tryd.prog 46 = some 1 := by kernel_rfl
theorem by46 : bytesT Tryd.prog 46 = some 8 := by kernel_rfl
theorem ze46 : zeroT Tryd.prog 46 = some Value.nilFunc := by kernel_rfl
theorem sz47 : szOf Tryd.prog 47 = some 1 := by kernel_rfl
theorem by47 : bytesT Tryd.prog 47 = some 8 := by kernel_rfl
theorem ze47 : zeroT Tryd.prog 47 = some Value.nilFunc := by kernel_rfl
theorem sz48 : szOf Tryd.prog 48 = some 1 := by kernel_rfl
theorem by48 : bytesT Tryd.prog 48 = some 8 := by kernel_rfl
theorem ze48 : zeroT Tryd.prog 48 = some Value.nilFunc := by kernel_rfl
theorem sz49 : szOf Tryd.prog 49 = some 1 := by kernel_rfl
theorem by49 : bytesT Tryd.prog 49 = some 8 := by kernel_rfl
theorem ze49 : zeroT Tryd.prog 49 = some Value.nilFunc := by kernel_rfl
theorem sz50 : szOf Tryd.prog 50 = some 1 := by kernel_rfl
theorem by50 : bytesT Tryd.prog 50 = some 8 := by kernel_rfl
theorem ze50 : zeroT Tryd.prog 50 = some Value.nilFunc := by kernel_rfl
theorem sz51 : szOf Tryd.prog 51 = some 1 := by kernel_rfl
theorem by51 : bytesT Tryd.prog 51 = some 8 := by kernel_rfl
theorem ze51 : zeroT Tryd.prog 51 = some (Value.pointer none) := by kernel_rfl
theorem sz52 : szOf Tryd.prog 52 = some 1 := by kernel_rfl
theorem by52 : bytesT Tryd.prog 52 = some 24 := by kernel_rfl
theorem ze52 : zeroT Tryd.prog 52 = some (Value.slice none 0 0) := by kernel_rfl
theorem sz53 : szOf Tryd.prog 53 = some 2 := by kernel_rfl
theorem by53 : bytesT Tryd.prog 53 = some 32 := by kernel_rfl
theorem ze53 : zeroT Tryd.prog 53 = some (Value.agg #[Value.pointer none, Value.slice none 0 0]) := by kernel_rfl
theorem fa53_0 : fieldAt Tryd.prog 53 0 = some (0, 51) := by kernel_rfl
theorem fa53_1 : fieldAt Tryd.prog 53 1 = some (1, 52) := by kernel_rfl
theorem sz54 : szOf Tryd.prog 54 = some 2 := by kernel_rfl
theorem by54 : bytesT Tryd.prog 54 = some 32 := by kernel_rfl
theorem ze54 : zeroT Tryd.prog 54 = some (Value.agg #[Value.pointer none, Value.slice none 0 0]) := by kernel_rfl
theorem fa54_0 : fieldAt Tryd.prog 54 0 = some (0, 51) := by kernel_rfl
theorem fa54_1 : fieldAt Tryd.prog 54 1 = some (1, 52) := by kernel_rfl
theorem sz55 : szOf Tryd.prog 55 = some 1 := by kernel_rfl
theorem by55 : bytesT Tryd.prog 55 = some 16 := by kernel_rfl
theorem ze55 : zeroT Tryd.prog 55 = some Value.nilIface := by kernel_rfl
theorem sz56 : szOf Tryd.prog 56 = some 1 := by kernel_rfl
theorem by56 : bytesT Tryd.prog 56 = some 16 := by kernel_rfl
theorem ze56 : zeroT Tryd.prog 56 = some Value.nilIface := by kernel_rfl
theorem sz57 : szOf Tryd.prog 57 = some 1 := by kernel_rfl
theorem by57 : bytesT Tryd.prog 57 = some 0 := by kernel_rfl
theorem ze57 : zeroT Tryd.prog 57 = some (Value.tuple #[Value.int IntKind.i64 0, Value.nilIface]) := by kernel_rfl
theorem sz58 : szOf Tryd.prog 58 = some 1 := by kernel_rfl
theorem by58 : bytesT Tryd.prog 58 = some 8 := by kernel_rfl
theorem ze58 : zeroT Tryd.prog 58 = some Value.nilFunc := by kernel_rfl
theorem sz59 : szOf Tryd.prog 59 = some 1 := by kernel_rfl
theorem by59 : bytesT Tryd.prog 59 = some 8 := by kernel_rfl
theorem ze59 : zeroT Tryd.prog 59 = some Value.nilFunc := by kernel_rfl
theorem sz60 : szOf Tryd.prog 60 = some 1 := by kernel_rfl
theorem by60 : bytesT Tryd.prog 60 = some 8 := by kernel_rfl
theorem ze60 : zeroT Tryd.prog 60 = some Value.nilFunc := by kernel_rfl
theorem sz61 : szOf Tryd.prog 61 = some 1 := by kernel_rfl
theorem by61 : bytesT Tryd.prog 61 = some 8 := by kernel_rfl
theorem ze61 : zeroT Tryd.prog 61 = some Value.nilFunc := by kernel_rfl
theorem sz62 : szOf Tryd.prog 62 = some 1 := by kernel_rfl
theorem by62 : bytesT Tryd.prog 62 = some 8 := by kernel_rfl
theorem ze62 : zeroT Tryd.prog 62 = some Value.nilFunc := by kernel_rfl
theorem sz63 : szOf Tryd.prog 63 = some 1 := by kernel_rfl
theorem by63 : bytesT Tryd.prog 63 = some 8 := by kernel_rfl
theorem ze63 : zeroT Tryd.prog 63 = some Value.nilFunc := by kernel_rfl
theorem sz64 : szOf Tryd.prog 64 = some 1 := by kernel_rfl
theorem by64 : bytesT Tryd.prog 64 = some 8 := by kernel_rfl
theorem ze64 : zeroT Tryd.prog 64 = some Value.nilFunc := by kernel_rfl
theorem sz65 : szOf Tryd.prog 65 = some 1 := by kernel_rfl
theorem by65 : bytesT Tryd.prog 65 = some 8 := by kernel_rfl
theorem ze65 : zeroT Tryd.prog 65 = some Value.nilFunc := by kernel_rfl
theorem sz66 : szOf Tryd.prog 66 = some 1 := by kernel_rfl
theorem by66 : bytesT Tryd.prog 66 = some 8 := by kernel_rfl
theorem ze66 : zeroT Tryd.prog 66 = some Value.nilFunc := by kernel_rfl
theorem sz67 : szOf Tryd.prog 67 = some 1 := by kernel_rfl
theorem by67 : bytesT Tryd.prog 67 = some 8 := by kernel_rfl
theorem ze67 : zeroT Tryd.prog 67 = some Value.nilFunc := by kernel_rfl
theorem sz68 : szOf Tryd.prog 68 = some 1 := by kernel_rfl
theorem by68 : bytesT Tryd.prog 68 = some 8 := by kernel_rfl
theorem ze68 : zeroT Tryd.prog 68 = some (Value.map none) := by kernel_rfl
theorem sz69 : szOf Tryd.prog 69 = some 2 := by kernel_rfl
theorem by69 : bytesT Tryd.prog 69 = some 16 := by kernel_rfl
theorem ze69 : zeroT Tryd.prog 69 = some (Value.agg #[Value.int IntKind.i64 0, Value.int IntKind.i64 0]) := by kernel_rfl
theorem sz70 : szOf Tryd.prog 70 = some 1 := by kernel_rfl
theorem by70 : bytesT Tryd.prog 70 = some 8 := by kernel_rfl
theorem ze70 : zeroT Tryd.prog 70 = some Value.nilFunc := by kernel_rfl
theorem sz71 : szOf Tryd.prog 71 = some 1 := by kernel_rfl
theorem by71 : bytesT Tryd.prog 71 = some 8 := by kernel_rfl
theorem ze71 : zeroT Tryd.prog 71 = some Value.nilFunc := by kernel_rfl
theorem sz72 : szOf Tryd.prog 72 = some 1 := by kernel_rfl
theorem by72 : bytesT Tryd.prog 72 = some 8 := by kernel_rfl
theorem ze72 : zeroT Tryd.prog 72 = some Value.nilFunc := by kernel_rfl
theorem sz73 : szOf Tryd.prog 73 = some 1 := by kernel_rfl
theorem by73 : bytesT Tryd.prog 73 = some 8 := by kernel_rfl
theorem ze73 : zeroT Tryd.prog 73 = some Value.nilFunc := by kernel_rfl
theorem sz74 : szOf Tryd.prog 74 = some 1 := by kernel_rfl
theorem by74 : bytesT Tryd.prog 74 = some 8 := by kernel_rfl
theorem ze74 : zeroT Tryd.prog 74 = some Value.nilFunc := by kernel_rfl
theorem sz75 : szOf Tryd.prog 75 = some 1 := by kernel_rfl
theorem by75 : bytesT Tryd.prog 75 = some 24 := by kernel_rfl
theorem ze75 : zeroT Tryd.prog 75 = some (Value.slice none 0 0) := by kernel_rfl
theorem sz76 : szOf Tryd.prog 76 = some 1 := by kernel_rfl
theorem by76 : bytesT Tryd.prog 76 = some 8 := by kernel_rfl
theorem ze76 : zeroT Tryd.prog 76 = some (Value.pointer none) := by kernel_rfl
theorem sz77 : szOf Tryd.prog 77 = some 1 := by kernel_rfl
theorem by77 : bytesT Tryd.prog 77 = some 8 := by kernel_rfl
theorem ze77 : zeroT Tryd.prog 77 = some Value.nilFunc := by kernel_rfl
theorem sz78 : szOf Tryd.prog 78 = some 1 := by kernel_rfl
theorem by78 : bytesT Tryd.prog 78 = some 8 := by kernel_rfl
theorem ze78 : zeroT Tryd.prog 78 = some Value.nilFunc := by kernel_rfl
theorem sz79 : szOf Tryd.prog 79 = some 1 := by kernel_rfl
theorem by79 : bytesT Tryd.prog 79 = some 8 := by kernel_rfl
theorem ze79 : zeroT Tryd.prog 79 = some Value.nilFunc := by kernel_rfl
theorem sz80 : szOf Tryd.prog 80 = some 1 := by kernel_rfl
theorem by80 : bytesT Tryd.prog 80 = some 8 := by kernel_rfl
theorem ze80 : zeroT Tryd.prog 80 = some Value.nilFunc := by kernel_rfl
theorem sz81 : szOf Tryd.prog 81 = some 4 := by kernel_rfl
theorem by81 : bytesT Tryd.prog 81 = some 32 := by kernel_rfl
theorem ze81 : zeroT Tryd.prog 81 = some (Value.agg #[Value.int IntKind.i64 0, Value.int IntKind.i64 0, Value.int IntKind.i64 0, Value.int IntKind.i64 0]) := by kernel_rfl
theorem sz82 : szOf Tryd.prog 82 = some 1 := by kernel_rfl
theorem by82 : bytesT Tryd.prog 82 = some 8 := by kernel_rfl
theorem ze82 : zeroT Tryd.prog 82 = some Value.nilFunc := by kernel_rfl
theorem sz83 : szOf Tryd.prog 83 = some 1 := by kernel_rfl
theorem by83 : bytesT Tryd.prog 83 = some 8 := by kernel_rfl
theorem ze83 : zeroT Tryd.prog 83 = some Value.nilFunc := by kernel_rfl
theorem sz84 : szOf Tryd.prog 84 = some 1 := by kernel_rfl
theorem by84 : bytesT Tryd.prog 84 = some 8 := by kernel_rfl
theorem ze84 : zeroT Tryd.prog 84 = some Value.nilFunc := by kernel_rfl
theorem sz85 : szOf Tryd.prog 85 = some 1 := by kernel_rfl
theorem by85 : bytesT Tryd.prog 85 = some 8 := by kernel_rfl
theorem ze85 : zeroT Tryd.prog 85 = some (Value.pointer none) := by kernel_rfl
theorem sz86 : szOf Tryd.prog 86 = some 1 := by kernel_rfl
theorem by86 : bytesT Tryd.prog 86 = some 8 := by kernel_rfl
theorem ze86 : zeroT Tryd.prog 86 = some Value.nilFunc := by kernel_rfl
theorem sz87 : szOf Tryd.prog 87 = some 1 := by kernel_rfl
theorem by87 : bytesT Tryd.prog 87 = some 8 := by kernel_rfl
theorem ze87 : zeroT Tryd.prog 87 = some Value.nilFunc := by kernel_rfl
theorem sz88 : szOf Tryd.prog 88 = some 1 := by kernel_rfl
theorem by88 : bytesT Tryd.prog 88 = some 8 := by kernel_rfl
theorem ze88 : zeroT Tryd.prog 88 = some Value.nilFunc := by kernel_rfl
theorem sz89 : szOf Tryd.prog 89 = some 1 := by kernel_rfl
theorem by89 : bytesT Tryd.prog 89 = some 8 := by kernel_rfl
theorem ze89 : zeroT Tryd.prog 89 = some Value.nilFunc := by kernel_rfl
theorem sz90 : szOf Tryd.prog 90 = some 1 := by kernel_rfl
theorem by90 : bytesT Tryd.prog 90 = some 8 := by kernel_rfl
theorem ze90 : zeroT Tryd.prog 90 = some Value.nilFunc := by kernel_rfl
theorem sz91 : szOf Tryd.prog 91 = some 1 := by kernel_rfl
theorem by91 : bytesT Tryd.prog 91 = some 8 := by kernel_rfl
theorem ze91 : zeroT Tryd.prog 91 = some (Value.int IntKind.u64 0) := by kernel_rfl
theorem sz92 : szOf Tryd.prog 92 = some 1 := by kernel_rfl
theorem by92 : bytesT Tryd.prog 92 = some 8 := by kernel_rfl
theorem ze92 : zeroT Tryd.prog 92 = some Value.nilFunc := by kernel_rfl
theorem sz93 : szOf Tryd.prog 93 = some 1 := by kernel_rfl
theorem by93 : bytesT Tryd.prog 93 = some 8 := by kernel_rfl
theorem ze93 : zeroT Tryd.prog 93 = some Value.nilFunc := by kernel_rfl
theorem sz94 : szOf Tryd.prog 94 = some 1 := by kernel_rfl
theorem by94 : bytesT Tryd.prog 94 = some 8 := by kernel_rfl
theorem ze94 : zeroT Tryd.prog 94 = some (Value.int IntKind.i64 0) := by kernel_rfl
theorem sz95 : szOf Tryd.prog 95 = some 1 := by kernel_rfl
theorem by95 : bytesT Tryd.prog 95 = some 0 := by kernel_rfl
theorem ze95 : zeroT Tryd.prog 95 = some (Value.tuple #[Value.int IntKind.i64 0, Value.nilIface]) := by kernel_rfl
theorem sz96 : szOf Tryd.prog 96 = some 1 := by kernel_rfl
theorem by96 : bytesT Tryd.prog 96 = some 8 := by kernel_rfl
theorem ze96 : zeroT Tryd.prog 96 = some Value.nilFunc := by kernel_rfl
theorem sz97 : szOf Tryd.prog 97 = some 1 := by kernel_rfl
theorem by97 : bytesT Tryd.prog 97 = some 8 := by kernel_rfl
theorem ze97 : zeroT Tryd.prog 97 = some (Value.pointer none) := by kernel_rfl
theorem sz98 : szOf Tryd.prog 98 = some 1 := by kernel_rfl
theorem by98 : bytesT Tryd.prog 98 = some 8 := by kernel_rfl
theorem ze98 : zeroT Tryd.prog 98 = some Value.nilFunc := by kernel_rfl
theorem sz99 : szOf Tryd.prog 99 = some 1 := by kernel_rfl
theorem by99 : bytesT Tryd.prog 99 = some 8 := by kernel_rfl
theorem ze99 : zeroT Tryd.prog 99 = some Value.nilFunc := by kernel_rfl
theorem sz100 : szOf Tryd.prog 100 = some 24 := by kernel_rfl
theorem by100 : bytesT Tryd.prog 100 = some 24 := by kernel_rfl
theorem ze100 : zeroT Tryd.prog 100 = some (Value.agg #[Value.int IntKind.u8 0, Value.int IntKind.u8 0, Value.int IntKind.u8 0, Value.int IntKind.u8 0, Value.int IntKind.u8 0, Value.int IntKind.u8 0, Value.int IntKind.u8 0, Value.int IntKind.u8 0, Value.int IntKind.u8 0, Value.int IntKind.u8 0, Value.int IntKind.u8 0, Value.int IntKind.u8 0, Value.int IntKind.u8 0, Value.int IntKind.u8 0, Value.int IntKind.u8 0, Value.int IntKind.u8 0, Value.int IntKind.u8 0, Value.int IntKind.u8 0, Value.int IntKind.u8 0, Value.int IntKind.u8 0, Value.int IntKind.u8 0, Value.int IntKind.u8 0, Value.int IntKind.u8 0, Value.int IntKind.u8 0]) := by kernel_rfl
theorem sz101 : szOf Tryd.prog 101 = some 1 := by kernel_rfl
theorem by101 : bytesT Tryd.prog 101 = some 8 := by kernel_rfl
theorem ze101 : zeroT Tryd.prog 101 = some (Value.int IntKind.u64 0) := by kernel_rfl
theorem sz102 : szOf Tryd.prog 102 = some 1 := by kernel_rfl
theorem by102 : bytesT Tryd.prog 102 = some 8 := by kernel_rfl
theorem ze102 : zeroT Tryd.prog 102 = some Value.nilFunc := by kernel_rfl
theorem sz103 : szOf Tryd.prog 103 = some 1 := by kernel_rfl
theorem by103 : bytesT Tryd.prog 103 = some 8 := by kernel_rfl
theorem ze103 : zeroT Tryd.prog 103 = some Value.nilFunc := by kernel_rfl
theorem sz104 : szOf Tryd.prog 104 = some 1 := by kernel_rfl
theorem by104 : bytesT Tryd.prog 104 = some 0 := by kernel_rfl
theorem ze104 : zeroT Tryd.prog 104 = some (Value.tuple #[Value.slice none 0 0, Value.string { data := #[] }]) := by kernel_rfl
theorem sz105 : szOf Tryd.prog 105 = some 1 := by kernel_rfl
theorem by105 : bytesT Tryd.prog 105 = some 8 := by kernel_rfl
theorem ze105 : zeroT Tryd.prog 105 = some Value.nilFunc := by kernel_rfl
theorem sz106 : szOf Tryd.prog 106 = some 1 := by kernel_rfl
theorem by106 : bytesT Tryd.prog 106 = some 8 := by kernel_rfl
theorem ze106 : zeroT Tryd.prog 106 = some Value.nilFunc := by kernel_rfl
theorem sz107 : szOf Tryd.prog 107 = some 1 := by kernel_rfl
theorem by107 : bytesT Tryd.prog 107 = some 4 := by kernel_rfl
theorem ze107 : zeroT Tryd.prog 107 = some (Value.int IntKind.u32 0) := by kernel_rfl
theorem sz108 : szOf Tryd.prog 108 = some 1 := by kernel_rfl
theorem by108 : bytesT Tryd.prog 108 = some 0 := by kernel_rfl
theorem ze108 : zeroT Tryd.prog 108 = some (Value.tuple #[Value.int IntKind.u32 0, Value.int IntKind.u32 0]) := by kernel_rfl
theorem sz109 : szOf Tryd.prog 109 = some 1 := by kernel_rfl
theorem by109 : bytesT Tryd.prog 109 = some 8 := by kernel_rfl
theorem ze109 : zeroT Tryd.prog 109 = some Value.nilFunc := by kernel_rfl
theorem sz110 : szOf Tryd.prog 110 = some 1 := by kernel_rfl
theorem by110 : bytesT Tryd.prog 110 = some 0 := by kernel_rfl
theorem ze110 : zeroT Tryd.prog 110 = some (Value.tuple #[Value.int IntKind.i32 0, Value.int IntKind.i64 0]) := by kernel_rfl
theorem sz111 : szOf Tryd.prog 111 = some 1 := by kernel_rfl
theorem by111 : bytesT Tryd.prog 111 = some 8 := by kernel_rfl
theorem ze111 : zeroT Tryd.prog 111 = some Value.nilFunc := by kernel_rfl
theorem sz112 : szOf Tryd.prog 112 = some 1 := by kernel_rfl
theorem by112 : bytesT Tryd.prog 112 = some 0 := by kernel_rfl
theorem ze112 : zeroT Tryd.prog 112 = some (Value.tuple #[Value.int IntKind.u64 0, Value.nilIface]) := by kernel_rfl
theorem sz113 : szOf Tryd.prog 113 = some 1 := by kernel_rfl
theorem by113 : bytesT Tryd.prog 113 = some 8 := by kernel_rfl
theorem ze113 : zeroT Tryd.prog 113 = some Value.nilFunc := by kernel_rfl
theorem sz114 : szOf Tryd.prog 114 = some 1 := by kernel_rfl
theorem by114 : bytesT Tryd.prog 114 = some 8 := by kernel_rfl
theorem ze114 : zeroT Tryd.prog 114 = some Value.nilFunc := by kernel_rfl
theorem sz115 : szOf Tryd.prog 115 = some 3 := by kernel_rfl
theorem by115 : bytesT Tryd.prog 115 = some 48 := by kernel_rfl
theorem ze115 : zeroT Tryd.prog 115 = some (Value.agg #[Value.string { data := #[] }, Value.string { data := #[] }, Value.nilIface]) := by kernel_rfl
theorem fa115_0 : fieldAt Tryd.prog 115 0 = some (0, 9) := by kernel_rfl
theorem fa115_1 : fieldAt Tryd.prog 115 1 = some (1, 9) := by kernel_rfl
theorem fa115_2 : fieldAt Tryd.prog 115 2 = some (2, 56) := by kernel_rfl
theorem sz116 : szOf Tryd.prog 116 = some 3 := by kernel_rfl
theorem by116 : bytesT Tryd.prog 116 = some 48 := by kernel_rfl
theorem ze116 : zeroT Tryd.prog 116 = some (Value.agg #[Value.string { data := #[] }, Value.string { data := #[] }, Value.nilIface]) := by kernel_rfl
theorem fa116_0 : fieldAt Tryd.prog 116 0 = some (0, 9) := by kernel_rfl
theorem fa116_1 : fieldAt Tryd.prog 116 1 = some (1, 9) := by kernel_rfl
theorem fa116_2 : fieldAt Tryd.prog 116 2 = some (2, 56) := by kernel_rfl
theorem sz117 : szOf Tryd.prog 117 = some 1 := by kernel_rfl
theorem by117 : bytesT Tryd.prog 117 = some 8 := by kernel_rfl
theorem ze117 : zeroT Tryd.prog 117 = some Value.nilFunc := by kernel_rfl
theorem sz118 : szOf Tryd.prog 118 = some 1 := by kernel_rfl
theorem by118 : bytesT Tryd.prog 118 = some 8 := by kernel_rfl
theorem ze118 : zeroT Tryd.prog 118 = some Value.nilFunc := by kernel_rfl
theorem sz119 : szOf Tryd.prog 119 = some 20 := by kernel_rfl
theorem by119 : bytesT Tryd.prog 119 = some 160 := by kernel_rfl
theorem ze119 : zeroT Tryd.prog 119 = some (Value.agg #[Value.int IntKind.u64 0, Value.int IntKind.u64 0, Value.int IntKind.u64 0, Value.int IntKind.u64 0, Value.int IntKind.u64 0, Value.int IntKind.u64 0, Value.int IntKind.u64 0, Value.int IntKind.u64 0, Value.int IntKind.u64 0, Value.int IntKind.u64 0, Value.int IntKind.u64 0, Value.int IntKind.u64 0, Value.int IntKind.u64 0, Value.int IntKind.u64 0, Value.int IntKind.u64 0, Value.int IntKind.u64 0, Value.int IntKind.u64 0, Value.int IntKind.u64 0, Value.int IntKind.u64 0, Value.int IntKind.u64 0]) := by kernel_rfl
theorem sz120 : szOf Tryd.prog 120 = some 65 := by kernel_rfl
theorem by120 : bytesT Tryd.prog 120 = some 65 := by kernel_rfl
theorem ze120 : zeroT Tryd.prog 120 = some (Value.agg ([Value.int IntKind.u8 0, Value.int IntKind.u8 0, Value.int IntKind.u8 0, Value.int IntKind.u8 0, Value.int IntKind.u8 0, Value.int IntKind.u8 0, Value.int IntKind.u8 0, Value.int IntKind.u8 0, Value.int IntKind.u8 0, Value.int IntKind.u8 0, Value.int IntKind.u8 0, Value.int IntKind.u8 0, Value.int IntKind.u8 0, Value.int IntKind.u8 0, Value.int IntKind.u8 0, Value.int IntKind.u8 0, Value.int IntKind.u8 0, Value.int IntKind.u8 0, Value.int IntKind.u8 0, Value.int IntKind.u8 0, Value.int IntKind.u8 0, Value.int IntKind.u8 0, Value.int IntKind.u8 0, Value.int IntKind.u8 0, Value.int IntKind.u8 0, Value.int IntKind.u8 0, Value.int IntKind.u8 0, Value.int IntKind.u8 0, Value.int IntKind.u8 0, Value.int IntKind.u8 0, Value.int IntKind.u8 0, Value.int IntKind.u8 0].append [Value.int IntKind.u8 0, Value.int IntKind.u8 0, Value.int IntKind.u8 0, Value.int IntKind.u8 0, Value.int IntKind.u8 0, Value.int IntKind.u8 0, Value.int IntKind.u8 0, Value.int IntKind.u8 0, Value.int IntKind.u8 0, Value.int IntKind.u8 0, Value.int IntKind.u8 0, Value.int IntKind.u8 0, Value.int IntKind.u8 0, Value.int IntKind.u8 0, Value.int IntKind.u8 0, Value.int IntKind.u8 0, Value.int IntKind.u8 0, Value.int IntKind.u8 0, Value.int IntKind.u8 0, Value.int IntKind.u8 0, Value.int IntKind.u8 0, Value.int IntKind.u8 0, Value.int IntKind.u8 0, Value.int IntKind.u8 0, Value.int IntKind.u8 0, Value.int IntKind.u8 0, Value.int IntKind.u8 0, Value.int IntKind.u8 0, Value.int IntKind.u8 0, Value.int IntKind.u8 0, Value.int IntKind.u8 0, Value.int IntKind.u8 0, Value.int IntKind.u8 0]).toArray) := by kernel_rfl
theorem sz121 : szOf Tryd.prog 121 = some 1 := by kernel_rfl
theorem by121 : bytesT Tryd.prog 121 = some 8 := by kernel_rfl
theorem ze121 : zeroT Tryd.prog 121 = some Value.nilFunc := by kernel_rfl
theorem sz122 : szOf Tryd.prog 122 = some 1 := by kernel_rfl
theorem by122 : bytesT Tryd.prog 122 = some 8 := by kernel_rfl
theorem ze122 : zeroT Tryd.prog 122 = some Value.nilFunc := by kernel_rfl
theorem sz123 : szOf Tryd.prog 123 = some 1 := by kernel_rfl
theorem by123 : bytesT Tryd.prog 123 = some 8 := by kernel_rfl
theorem ze123 : zeroT Tryd.prog 123 = some (Value.pointer none) := by kernel_rfl
theorem sz124 : szOf Tryd.prog 124 = some 1 := by kernel_rfl
theorem by124 : bytesT Tryd.prog 124 = some 16 := by kernel_rfl
theorem ze124 : zeroT Tryd.prog 124 = some (Value.agg #[Value.string { data := #[] }]) := by kernel_rfl
theorem fa124_0 : fieldAt Tryd.prog 124 0 = some (0, 9) := by kernel_rfl
theorem sz125 : szOf Tryd.prog 125 = some 1 := by kernel_rfl
theorem by125 : bytesT Tryd.prog 125 = some 16 := by kernel_rfl
theorem ze125 : zeroT Tryd.prog 125 = some (Value.agg #[Value.string { data := #[] }]) := by kernel_rfl
theorem fa125_0 : fieldAt Tryd.prog 125 0 = some (0, 9) := by kernel_rfl
theorem sz126 : szOf Tryd.prog 126 = some 1 := by kernel_rfl
theorem by126 : bytesT Tryd.prog 126 = some 8 := by kernel_rfl
theorem ze126 : zeroT Tryd.prog 126 = some Value.nilFunc := by kernel_rfl
theorem sz127 : szOf Tryd.prog 127 = some 256 := by kernel_rfl
theorem by127 : bytesT Tryd.prog 127 = some 256 := by kernel_rfl
theorem sz128 : szOf Tryd.prog 128 = some 2 := by kernel_rfl
theorem by128 : bytesT Tryd.prog 128 = some 2 := by kernel_rfl
theorem ze128 : zeroT Tryd.prog 128 = some (Value.agg #[Value.int IntKind.u8 0, Value.int IntKind.u8 0]) := by kernel_rfl
theorem fa128_0 : fieldAt Tryd.prog 128 0 = some (0, 5) := by kernel_rfl
theorem fa128_1 : fieldAt Tryd.prog 128 1 = some (1, 5) := by kernel_rfl
theorem sz129 : szOf Tryd.prog 129 = some 2 := by kernel_rfl
theorem by129 : bytesT Tryd.prog 129 = some 2 := by kernel_rfl
theorem ze129 : zeroT Tryd.prog 129 = some (Value.agg #[Value.int IntKind.u8 0, Value.int IntKind.u8 0]) := by kernel_rfl
theorem fa129_0 : fieldAt Tryd.prog 129 0 = some (0, 5) := by kernel_rfl
theorem fa129_1 : fieldAt Tryd.prog 129 1 = some (1, 5) := by kernel_rfl
theorem sz130 : szOf Tryd.prog 130 = some 32 := by kernel_rfl
theorem by130 : bytesT Tryd.prog 130 = some 32 := by kernel_rfl
theorem ze130 : zeroT Tryd.prog 130 = some (Value.agg #[Value.int IntKind.u8 0, Value.int IntKind.u8 0, Value.int IntKind.u8 0, Value.int IntKind.u8 0, Value.int IntKind.u8 0, Value.int IntKind.u8 0, Value.int IntKind.u8 0, Value.int IntKind.u8 0, Value.int IntKind.u8 0, Value.int IntKind.u8 0, Value.int IntKind.u8 0, Value.int IntKind.u8 0, Value.int IntKind.u8 0, Value.int IntKind.u8 0, Value.int IntKind.u8 0, Value.int IntKind.u8 0, Value.int IntKind.u8 0, Value.int IntKind.u8 0, Value.int IntKind.u8 0, Value.int IntKind.u8 0, Value.int IntKind.u8 0, Value.int IntKind.u8 0, Value.int IntKind.u8 0, Value.int IntKind.u8 0, Value.int IntKind.u8 0, Value.int IntKind.u8 0, Value.int IntKind.u8 0, Value.int IntKind.u8 0, Value.int IntKind.u8 0, Value.int IntKind.u8 0, Value.int IntKind.u8 0, Value.int IntKind.u8 0]) := by kernel_rfl
theorem sz131 : szOf Tryd.prog 131 = some 32 := by kernel_rfl
theorem by131 : bytesT Tryd.prog 131 = some 32 := by kernel_rfl
theorem ze131 : zeroT Tryd.prog 131 = some (Value.agg #[Value.int IntKind.u8 0, Value.int IntKind.u8 0, Value.int IntKind.u8 0, Value.int IntKind.u8 0, Value.int IntKind.u8 0, Value.int IntKind.u8 0, Value.int IntKind.u8 0, Value.int IntKind.u8 0, Value.int IntKind.u8 0, Value.int IntKind.u8 0, Value.int IntKind.u8 0, Value.int IntKind.u8 0, Value.int IntKind.u8 0, Value.int IntKind.u8 0, Value.int IntKind.u8 0, Value.int IntKind.u8 0, Value.int IntKind.u8 0, Value.int IntKind.u8 0, Value.int IntKind.u8 0, Value.int IntKind.u8 0, Value.int IntKind.u8 0, Value.int IntKind.u8 0, Value.int IntKind.u8 0, Value.int IntKind.u8 0, Value.int IntKind.u8 0, Value.int IntKind.u8 0, Value.int IntKind.u8 0, Value.int IntKind.u8 0, Value.int IntKind.u8 0, Value.int IntKind.u8 0, Value.int IntKind.u8 0, Value.int IntKind.u8 0]) := by kernel_rfl
theorem sz132 : szOf Tryd.prog 132 = some 64 := by kernel_rfl
theorem by132 : bytesT Tryd.prog 132 = some 64 := by kernel_rfl
theorem ze132 : zeroT Tryd.prog 132 = some (Value.agg #[Value.int IntKind.u8 0, Value.int IntKind.u8 0, Value.int IntKind.u8 0, Value.int IntKind.u8 0, Value.int IntKind.u8 0, Value.int IntKind.u8 0, Value.int IntKind.u8 0, Value.int IntKind.u8 0, Value.int IntKind.u8 0, Value.int IntKind.u8 0, Value.int IntKind.u8 0, Value.int IntKind.u8 0, Value.int IntKind.u8 0, Value.int IntKind.u8 0, Value.int IntKind.u8 0, Value.int IntKind.u8 0, Value.int IntKind.u8 0, Value.int IntKind.u8 0, Value.int IntKind.u8 0, Value.int IntKind.u8 0, Value.int IntKind.u8 0, Value.int IntKind.u8 0, Value.int IntKind.u8 0, Value.int IntKind.u8 0, Value.int IntKind.u8 0, Value.int IntKind.u8 0, Value.int IntKind.u8 0, Value.int IntKind.u8 0, Value.int IntKind.u8 0, Value.int IntKind.u8 0, Value.int IntKind.u8 0, Value.int IntKind.u8 0, Value.int IntKind.u8 0, Value.int IntKind.u8 0, Value.int IntKind.u8 0, Value.int IntKind.u8 0, Value.int IntKind.u8 0, Value.int IntKind.u8 0, Value.int IntKind.u8 0, Value.int IntKind.u8 0, Value.int IntKind.u8 0, Value.int IntKind.u8 0, Value.int IntKind.u8 0, Value.int IntKind.u8 0, Value.int IntKind.u8 0, Value.int IntKind.u8 0, Value.int IntKind.u8 0, Value.int IntKind.u8 0, Value.int IntKind.u8 0, Value.int IntKind.u8 0, Value.int IntKind.u8 0, Value.int IntKind.u8 0, Value.int IntKind.u8 0, Value.int IntKind.u8 0, Value.int IntKind.u8 0, Value.int IntKind.u8 0, Value.int IntKind.u8 0, Value.int IntKind.u8 0, Value.int IntKind.u8 0, Value.int IntKind.u8 0, Value.int IntKind.u8 0, Value.int IntKind.u8 0, Value.int IntKind.u8 0, Value.int IntKind.u8 0]) := by kernel_rfl
theorem sz133 : szOf Tryd.prog 133 = some 4 := by kernel_rfl
theorem by133 : bytesT Tryd.prog 133 = some 40 := by kernel_rfl
theorem ze133 : zeroT Tryd.prog 133 = some (Value.agg #[Value.pointer none, Value.pointer none, Value.pointer none, Value.string { data := #[] }]) := by kernel_rfl
theorem fa133_0 : fieldAt Tryd.prog 133 0 = some (0, 17) := by kernel_rfl
theorem fa133_1 : fieldAt Tryd.prog 133 1 = some (1, 17) := by kernel_rfl
theorem fa133_2 : fieldAt Tryd.prog 133 2 = some (2, 17) := by kernel_rfl
theorem fa133_3 : fieldAt Tryd.prog 133 3 = some (3, 9) := by kernel_rfl
theorem sz134 : szOf Tryd.prog 134 = some 4 := by kernel_rfl
theorem by134 : bytesT Tryd.prog 134 = some 40 := by kernel_rfl
theorem ze134 : zeroT Tryd.prog 134 = some (Value.agg #[Value.pointer none, Value.pointer none, Value.pointer none, Value.string { data := #[] }]) := by kernel_rfl
theorem fa134_0 : fieldAt Tryd.prog 134 0 = some (0, 17) := by kernel_rfl
theorem fa134_1 : fieldAt Tryd.prog 134 1 = some (1, 17) := by kernel_rfl
theorem fa134_2 : fieldAt Tryd.prog 134 2 = some (2, 17) := by kernel_rfl
theorem fa134_3 : fieldAt Tryd.prog 134 3 = some (3, 9) := by kernel_rfl
theorem sz135 : szOf Tryd.prog 135 = some 0 := by kernel_rfl
theorem by135 : bytesT Tryd.prog 135 = some 0 := by kernel_rfl
theorem ze135 : zeroT Tryd.prog 135 = some (Value.agg #[]) := by kernel_rfl
theorem sz136 : szOf Tryd.prog 136 = some 0 := by kernel_rfl
theorem by136 : bytesT Tryd.prog 136 = some 0 := by kernel_rfl
theorem ze136 : zeroT Tryd.prog 136 = some (Value.agg #[]) := by kernel_rfl
theorem fa136_0 : fieldAt Tryd.prog 136 0 = some (0, 135) := by kernel_rfl
theorem sz137 : szOf Tryd.prog 137 = some 0 := by kernel_rfl
theorem by137 : bytesT Tryd.prog 137 = some 0 := by kernel_rfl
theorem ze137 : zeroT Tryd.prog 137 = some (Value.agg #[]) := by kernel_rfl
theorem fa137_0 : fieldAt Tryd.prog 137 0 = some (0, 135) := by kernel_rfl
theorem sz138 : szOf Tryd.prog 138 = some 1 := by kernel_rfl
theorem by138 : bytesT Tryd.prog 138 = some 8 := by kernel_rfl
theorem ze138 : zeroT Tryd.prog 138 = some Value.nilFunc := by kernel_rfl
theorem sz139 : szOf Tryd.prog 139 = some 1 := by kernel_rfl
theorem by139 : bytesT Tryd.prog 139 = some 1 := by kernel_rfl
theorem ze139 : zeroT Tryd.prog 139 = some (Value.int IntKind.u8 0) := by kernel_rfl
theorem sz140 : szOf Tryd.prog 140 = some 1 := by kernel_rfl
theorem by140 : bytesT Tryd.prog 140 = some 1 := by kernel_rfl
theorem ze140 : zeroT Tryd.prog 140 = some (Value.int IntKind.u8 0) := by kernel_rfl
theorem sz141 : szOf Tryd.prog 141 = some 1 := by kernel_rfl
theorem by141 : bytesT Tryd.prog 141 = some 8 := by kernel_rfl
theorem ze141 : zeroT Tryd.prog 141 = some Value.nilFunc := by kernel_rfl
theorem sz142 : szOf Tryd.prog 142 = some 1 := by kernel_rfl
theorem by142 : bytesT Tryd.prog 142 = some 4 := by kernel_rfl
theorem ze142 : zeroT Tryd.prog 142 = some (Value.int IntKind.i32 0) := by kernel_rfl
theorem sz143 : szOf Tryd.prog 143 = some 1 := by kernel_rfl
theorem by143 : bytesT Tryd.prog 143 = some 4 := by kernel_rfl
theorem ze143 : zeroT Tryd.prog 143 = some (Value.int IntKind.i32 0) := by kernel_rfl
theorem sz144 : szOf Tryd.prog 144 = some 11 := by kernel_rfl
theorem by144 : bytesT Tryd.prog 144 = some 48 := by kernel_rfl
theorem ze144 : zeroT Tryd.prog 144 = some (Value.agg #[Value.int IntKind.u64 0, Value.int IntKind.u64 0, Value.int IntKind.u32 0, Value.int IntKind.u8 0, Value.int IntKind.u8 0, Value.int IntKind.u8 0, Value.int IntKind.u8 0, Value.nilFunc, Value.pointer none, Value.int IntKind.i32 0, Value.int IntKind.i32 0]) := by kernel_rfl
theorem fa144_0 : fieldAt Tryd.prog 144 0 = some (0, 12) := by kernel_rfl
theorem fa144_1 : fieldAt Tryd.prog 144 1 = some (1, 12) := by kernel_rfl
theorem fa144_2 : fieldAt Tryd.prog 144 2 = some (2, 107) := by kernel_rfl
theorem fa144_3 : fieldAt Tryd.prog 144 3 = some (3, 139) := by kernel_rfl
theorem fa144_4 : fieldAt Tryd.prog 144 4 = some (4, 5) := by kernel_rfl
theorem fa144_5 : fieldAt Tryd.prog 144 5 = some (5, 5) := by kernel_rfl
theorem fa144_6 : fieldAt Tryd.prog 144 6 = some (6, 140) := by kernel_rfl
theorem fa144_7 : fieldAt Tryd.prog 144 7 = some (7, 141) := by kernel_rfl
theorem fa144_8 : fieldAt Tryd.prog 144 8 = some (8, 76) := by kernel_rfl
theorem fa144_9 : fieldAt Tryd.prog 144 9 = some (9, 142) := by kernel_rfl
theorem fa144_10 : fieldAt Tryd.prog 144 10 = some (10, 143) := by kernel_rfl
theorem sz145 : szOf Tryd.prog 145 = some 11 := by kernel_rfl
theorem by145 : bytesT Tryd.prog 145 = some 48 := by kernel_rfl
theorem ze145 : zeroT Tryd.prog 145 = some (Value.agg #[Value.int IntKind.u64 0, Value.int IntKind.u64 0, Value.int IntKind.u32 0, Value.int IntKind.u8 0, Value.int IntKind.u8 0, Value.int IntKind.u8 0, Value.int IntKind.u8 0, Value.nilFunc, Value.pointer none, Value.int IntKind.i32 0, Value.int IntKind.i32 0]) := by kernel_rfl
theorem fa145_0 : fieldAt Tryd.prog 145 0 = some (0, 12) := by kernel_rfl
theorem fa145_1 : fieldAt Tryd.prog 145 1 = some (1, 12) := by kernel_rfl
theorem fa145_2 : fieldAt Tryd.prog 145 2 = some (2, 107) := by kernel_rfl
theorem fa145_3 : fieldAt Tryd.prog 145 3 = some (3, 139) := by kernel_rfl
theorem fa145_4 : fieldAt Tryd.prog 145 4 = some (4, 5) := by kernel_rfl
theorem fa145_5 : fieldAt Tryd.prog 145 5 = some (5, 5) := by kernel_rfl
theorem fa145_6 : fieldAt Tryd.prog 145 6 = some (6, 140) := by kernel_rfl
theorem fa145_7 : fieldAt Tryd.prog 145 7 = some (7, 141) := by kernel_rfl
theorem fa145_8 : fieldAt Tryd.prog 145 8 = some (8, 76) := by kernel_rfl
theorem fa145_9 : fieldAt Tryd.prog 145 9 = some (9, 142) := by kernel_rfl
theorem fa145_10 : fieldAt Tryd.prog 145 10 = some (10, 143) := by kernel_rfl
end Go.AM
