/- MADE BY PROGRAM (wip/gen.py): closed facts on the program's types and functions, for the rules of the separation logic. -/
import Derived.Test.YtnignhaamlmelaaGreatDoorProg
import Derived.Test.YtnignhaamlmelaaGreatDoorSl13
namespace Go.Proofs
open Go Go.Sl
def ti3 : TyI := ⟨.int .i64, .int .i64 0, [.int .i64 0], 1, 8⟩
theorem ty3 : ti3.Sound Tryz.prog 3 := ⟨TInfo.of (by kernel_rfl), rfl, ⟨⟨by kernel_rfl⟩, TScal.of (by kernel_rfl)⟩⟩
def ti4 : TyI := ⟨.bool, .bool false, [.bool false], 1, 1⟩
theorem ty4 : ti4.Sound Tryz.prog 4 := ⟨TInfo.of (by kernel_rfl), rfl, ⟨⟨by kernel_rfl⟩, TScal.of (by kernel_rfl)⟩⟩
def ti5 : TyI := ⟨.int .u8, .int .u8 0, [.int .u8 0], 1, 1⟩
theorem ty5 : ti5.Sound Tryz.prog 5 := ⟨TInfo.of (by kernel_rfl), rfl, ⟨⟨by kernel_rfl⟩, TScal.of (by kernel_rfl)⟩⟩
def ti9 : TyI := ⟨.other, .string ⟨#[]⟩, [.string ⟨#[]⟩], 1, 16⟩
theorem ty9 : ti9.Sound Tryz.prog 9 := ⟨TInfo.of (by kernel_rfl), rfl, TScal.of (by kernel_rfl)⟩
def ti23 : TyI := ⟨.str [(0, 3, 1), (1, 3, 1), (2, 3, 1)], .agg #[.int .i64 0, .int .i64 0, .int .i64 0], [.int .i64 0, .int .i64 0, .int .i64 0], 3, 24⟩
theorem ty23 : ti23.Sound Tryz.prog 23 := ⟨TInfo.of (by kernel_rfl), rfl, ⟨TStr.of (by kernel_rfl) (by kernel_rfl), TAgg.of (by kernel_rfl) (by kernel_rfl), ⟨TFld.of (by kernel_rfl) (by kernel_rfl) (by kernel_rfl), ⟨TFld.of (by kernel_rfl) (by kernel_rfl) (by kernel_rfl), ⟨TFld.of (by kernel_rfl) (by kernel_rfl) (by kernel_rfl), trivial⟩⟩⟩⟩⟩
def ti24 : TyI := ⟨.slice 39 14 144 [.int .i64 0, .int .i64 0, .int .i64 0, .int .i64 0, .int .i64 0, .int .i64 0, .int .i64 0, .int .u64 0, .slice none 0 0, .bool false, .int .i64 0, .int .i64 0, .int .i64 0, .slice none 0 0], .slice none 0 0, [.slice none 0 0], 1, 24⟩
theorem ty24 : ti24.Sound Tryz.prog 24 := ⟨TInfo.of (by kernel_rfl), rfl, ⟨TSlice.of (by kernel_rfl) (by kernel_rfl) (by kernel_rfl), TScal.of (by kernel_rfl)⟩⟩
def ti27 : TyI := ⟨.ptr, .pointer none, [.pointer none], 1, 8⟩
theorem ty27 : ti27.Sound Tryz.prog 27 := ⟨TInfo.of (by kernel_rfl), rfl, ⟨⟨⟨150, by kernel_rfl⟩⟩, TScal.of (by kernel_rfl)⟩⟩
def ti29 : TyI := ⟨.int .u64, .int .u64 0, [.int .u64 0], 1, 8⟩
theorem ty29 : ti29.Sound Tryz.prog 29 := ⟨TInfo.of (by kernel_rfl), rfl, ⟨⟨by kernel_rfl⟩, TScal.of (by kernel_rfl)⟩⟩
def ti30 : TyI := ⟨.slice 29 1 8 [.int .u64 0], .slice none 0 0, [.slice none 0 0], 1, 24⟩
theorem ty30 : ti30.Sound Tryz.prog 30 := ⟨TInfo.of (by kernel_rfl), rfl, ⟨TSlice.of (by kernel_rfl) (by kernel_rfl) (by kernel_rfl), TScal.of (by kernel_rfl)⟩⟩
def ti32 : TyI := ⟨.str [(0, 3, 1), (1, 3, 1)], .agg #[.int .i64 0, .int .i64 0], [.int .i64 0, .int .i64 0], 2, 16⟩
theorem ty32 : ti32.Sound Tryz.prog 32 := ⟨TInfo.of (by kernel_rfl), rfl, ⟨TStr.of (by kernel_rfl) (by kernel_rfl), TAgg.of (by kernel_rfl) (by kernel_rfl), ⟨TFld.of (by kernel_rfl) (by kernel_rfl) (by kernel_rfl), ⟨TFld.of (by kernel_rfl) (by kernel_rfl) (by kernel_rfl), trivial⟩⟩⟩⟩
def ti34 : TyI := ⟨.str [(0, 3, 1), (1, 3, 1), (2, 3, 1), (3, 3, 1), (4, 29, 1), (5, 30, 1), (6, 4, 1), (7, 32, 2)], .agg #[.int .i64 0, .int .i64 0, .int .i64 0, .int .i64 0, .int .u64 0, .slice none 0 0, .bool false, .int .i64 0, .int .i64 0], [.int .i64 0, .int .i64 0, .int .i64 0, .int .i64 0, .int .u64 0, .slice none 0 0, .bool false, .int .i64 0, .int .i64 0], 9, 88⟩
theorem ty34 : ti34.Sound Tryz.prog 34 := ⟨TInfo.of (by kernel_rfl), rfl, ⟨TStr.of (by kernel_rfl) (by kernel_rfl), TAgg.of (by kernel_rfl) (by kernel_rfl), ⟨TFld.of (by kernel_rfl) (by kernel_rfl) (by kernel_rfl), ⟨TFld.of (by kernel_rfl) (by kernel_rfl) (by kernel_rfl), ⟨TFld.of (by kernel_rfl) (by kernel_rfl) (by kernel_rfl), ⟨TFld.of (by kernel_rfl) (by kernel_rfl) (by kernel_rfl), ⟨TFld.of (by kernel_rfl) (by kernel_rfl) (by kernel_rfl), ⟨TFld.of (by kernel_rfl) (by kernel_rfl) (by kernel_rfl), ⟨TFld.of (by kernel_rfl) (by kernel_rfl) (by kernel_rfl), ⟨TFld.of (by kernel_rfl) (by kernel_rfl) (by kernel_rfl), trivial⟩⟩⟩⟩⟩⟩⟩⟩⟩⟩
def ti35 : TyI := ⟨.slice 3 1 8 [.int .i64 0], .slice none 0 0, [.slice none 0 0], 1, 24⟩
theorem ty35 : ti35.Sound Tryz.prog 35 := ⟨TInfo.of (by kernel_rfl), rfl, ⟨TSlice.of (by kernel_rfl) (by kernel_rfl) (by kernel_rfl), TScal.of (by kernel_rfl)⟩⟩
def ti37 : TyI := ⟨.str [(0, 3, 1), (1, 34, 9), (10, 3, 1), (11, 35, 1)], .agg #[.int .i64 0, .int .i64 0, .int .i64 0, .int .i64 0, .int .i64 0, .int .u64 0, .slice none 0 0, .bool false, .int .i64 0, .int .i64 0, .int .i64 0, .slice none 0 0], [.int .i64 0, .int .i64 0, .int .i64 0, .int .i64 0, .int .i64 0, .int .u64 0, .slice none 0 0, .bool false, .int .i64 0, .int .i64 0, .int .i64 0, .slice none 0 0], 12, 128⟩
theorem ty37 : ti37.Sound Tryz.prog 37 := ⟨TInfo.of (by kernel_rfl), rfl, ⟨TStr.of (by kernel_rfl) (by kernel_rfl), TAgg.of (by kernel_rfl) (by kernel_rfl), ⟨TFld.of (by kernel_rfl) (by kernel_rfl) (by kernel_rfl), ⟨TFld.of (by kernel_rfl) (by kernel_rfl) (by kernel_rfl), ⟨TFld.of (by kernel_rfl) (by kernel_rfl) (by kernel_rfl), ⟨TFld.of (by kernel_rfl) (by kernel_rfl) (by kernel_rfl), trivial⟩⟩⟩⟩⟩⟩
def ti39 : TyI := ⟨.str [(0, 3, 1), (1, 3, 1), (2, 37, 12)], .agg #[.int .i64 0, .int .i64 0, .int .i64 0, .int .i64 0, .int .i64 0, .int .i64 0, .int .i64 0, .int .u64 0, .slice none 0 0, .bool false, .int .i64 0, .int .i64 0, .int .i64 0, .slice none 0 0], [.int .i64 0, .int .i64 0, .int .i64 0, .int .i64 0, .int .i64 0, .int .i64 0, .int .i64 0, .int .u64 0, .slice none 0 0, .bool false, .int .i64 0, .int .i64 0, .int .i64 0, .slice none 0 0], 14, 144⟩
theorem ty39 : ti39.Sound Tryz.prog 39 := ⟨TInfo.of (by kernel_rfl), rfl, ⟨TStr.of (by kernel_rfl) (by kernel_rfl), TAgg.of (by kernel_rfl) (by kernel_rfl), ⟨TFld.of (by kernel_rfl) (by kernel_rfl) (by kernel_rfl), ⟨TFld.of (by kernel_rfl) (by kernel_rfl) (by kernel_rfl), ⟨TFld.of (by kernel_rfl) (by kernel_rfl) (by kernel_rfl), trivial⟩⟩⟩⟩⟩
def ti40 : TyI := ⟨.slice 182 6 48 [.int .u64 0, .int .i64 0, .int .i64 0, .int .i64 0, .int .i64 0, .int .i64 0], .slice none 0 0, [.slice none 0 0], 1, 24⟩
theorem ty40 : ti40.Sound Tryz.prog 40 := ⟨TInfo.of (by kernel_rfl), rfl, ⟨TSlice.of (by kernel_rfl) (by kernel_rfl) (by kernel_rfl), TScal.of (by kernel_rfl)⟩⟩
def ti42 : TyI := ⟨.arr 4 3 1, .agg #[.int .i64 0, .int .i64 0, .int .i64 0, .int .i64 0], [.int .i64 0, .int .i64 0, .int .i64 0, .int .i64 0], 4, 32⟩
theorem ty42 : ti42.Sound Tryz.prog 42 := ⟨TInfo.of (by kernel_rfl), rfl, ⟨TArr.of (by kernel_rfl) (by kernel_rfl), TAgg.of (by kernel_rfl) (by kernel_rfl)⟩⟩
def ti44 : TyI := ⟨.str [(0, 3, 1), (1, 3, 1), (2, 3, 1), (3, 3, 1), (4, 29, 1), (5, 42, 4)], .agg #[.int .i64 0, .int .i64 0, .int .i64 0, .int .i64 0, .int .u64 0, .int .i64 0, .int .i64 0, .int .i64 0, .int .i64 0], [.int .i64 0, .int .i64 0, .int .i64 0, .int .i64 0, .int .u64 0, .int .i64 0, .int .i64 0, .int .i64 0, .int .i64 0], 9, 72⟩
theorem ty44 : ti44.Sound Tryz.prog 44 := ⟨TInfo.of (by kernel_rfl), rfl, ⟨TStr.of (by kernel_rfl) (by kernel_rfl), TAgg.of (by kernel_rfl) (by kernel_rfl), ⟨TFld.of (by kernel_rfl) (by kernel_rfl) (by kernel_rfl), ⟨TFld.of (by kernel_rfl) (by kernel_rfl) (by kernel_rfl), ⟨TFld.of (by kernel_rfl) (by kernel_rfl) (by kernel_rfl), ⟨TFld.of (by kernel_rfl) (by kernel_rfl) (by kernel_rfl), ⟨TFld.of (by kernel_rfl) (by kernel_rfl) (by kernel_rfl), ⟨TFld.of (by kernel_rfl) (by kernel_rfl) (by kernel_rfl), trivial⟩⟩⟩⟩⟩⟩⟩⟩
def ti49 : TyI := ⟨.ptr, .pointer none, [.pointer none], 1, 8⟩
theorem ty49 : ti49.Sound Tryz.prog 49 := ⟨TInfo.of (by kernel_rfl), rfl, ⟨⟨⟨54, by kernel_rfl⟩⟩, TScal.of (by kernel_rfl)⟩⟩
def ti50 : TyI := ⟨.ptr, .pointer none, [.pointer none], 1, 8⟩
theorem ty50 : ti50.Sound Tryz.prog 50 := ⟨TInfo.of (by kernel_rfl), rfl, ⟨⟨⟨112, by kernel_rfl⟩⟩, TScal.of (by kernel_rfl)⟩⟩
def ti51 : TyI := ⟨.ptr, .pointer none, [.pointer none], 1, 8⟩
theorem ty51 : ti51.Sound Tryz.prog 51 := ⟨TInfo.of (by kernel_rfl), rfl, ⟨⟨⟨330, by kernel_rfl⟩⟩, TScal.of (by kernel_rfl)⟩⟩
def ti52 : TyI := ⟨.ptr, .pointer none, [.pointer none], 1, 8⟩
theorem ty52 : ti52.Sound Tryz.prog 52 := ⟨TInfo.of (by kernel_rfl), rfl, ⟨⟨⟨371, by kernel_rfl⟩⟩, TScal.of (by kernel_rfl)⟩⟩
def ti54 : TyI := ⟨.str [(0, 50, 1), (1, 3, 1), (2, 51, 1), (3, 52, 1)], .agg #[.pointer none, .int .i64 0, .pointer none, .pointer none], [.pointer none, .int .i64 0, .pointer none, .pointer none], 4, 32⟩
theorem ty54 : ti54.Sound Tryz.prog 54 := ⟨TInfo.of (by kernel_rfl), rfl, ⟨TStr.of (by kernel_rfl) (by kernel_rfl), TAgg.of (by kernel_rfl) (by kernel_rfl), ⟨TFld.of (by kernel_rfl) (by kernel_rfl) (by kernel_rfl), ⟨TFld.of (by kernel_rfl) (by kernel_rfl) (by kernel_rfl), ⟨TFld.of (by kernel_rfl) (by kernel_rfl) (by kernel_rfl), ⟨TFld.of (by kernel_rfl) (by kernel_rfl) (by kernel_rfl), trivial⟩⟩⟩⟩⟩⟩
def ti55 : TyI := ⟨.slice 49 1 8 [.pointer none], .slice none 0 0, [.slice none 0 0], 1, 24⟩
theorem ty55 : ti55.Sound Tryz.prog 55 := ⟨TInfo.of (by kernel_rfl), rfl, ⟨TSlice.of (by kernel_rfl) (by kernel_rfl) (by kernel_rfl), TScal.of (by kernel_rfl)⟩⟩
def ti57 : TyI := ⟨.str [(0, 3, 1), (1, 3, 1), (2, 3, 1), (3, 3, 1), (4, 3, 1), (5, 3, 1), (6, 3, 1)], .agg #[.int .i64 0, .int .i64 0, .int .i64 0, .int .i64 0, .int .i64 0, .int .i64 0, .int .i64 0], [.int .i64 0, .int .i64 0, .int .i64 0, .int .i64 0, .int .i64 0, .int .i64 0, .int .i64 0], 7, 56⟩
theorem ty57 : ti57.Sound Tryz.prog 57 := ⟨TInfo.of (by kernel_rfl), rfl, ⟨TStr.of (by kernel_rfl) (by kernel_rfl), TAgg.of (by kernel_rfl) (by kernel_rfl), ⟨TFld.of (by kernel_rfl) (by kernel_rfl) (by kernel_rfl), ⟨TFld.of (by kernel_rfl) (by kernel_rfl) (by kernel_rfl), ⟨TFld.of (by kernel_rfl) (by kernel_rfl) (by kernel_rfl), ⟨TFld.of (by kernel_rfl) (by kernel_rfl) (by kernel_rfl), ⟨TFld.of (by kernel_rfl) (by kernel_rfl) (by kernel_rfl), ⟨TFld.of (by kernel_rfl) (by kernel_rfl) (by kernel_rfl), ⟨TFld.of (by kernel_rfl) (by kernel_rfl) (by kernel_rfl), trivial⟩⟩⟩⟩⟩⟩⟩⟩⟩
def ti58 : TyI := ⟨.int .i64, .int .i64 0, [.int .i64 0], 1, 8⟩
theorem ty58 : ti58.Sound Tryz.prog 58 := ⟨TInfo.of (by kernel_rfl), rfl, ⟨⟨by kernel_rfl⟩, TScal.of (by kernel_rfl)⟩⟩
def ti62 : TyI := ⟨.str [(0, 3, 1), (1, 3, 1), (2, 3, 1), (3, 3, 1), (4, 3, 1), (5, 3, 1)], .agg #[.int .i64 0, .int .i64 0, .int .i64 0, .int .i64 0, .int .i64 0, .int .i64 0], [.int .i64 0, .int .i64 0, .int .i64 0, .int .i64 0, .int .i64 0, .int .i64 0], 6, 48⟩
theorem ty62 : ti62.Sound Tryz.prog 62 := ⟨TInfo.of (by kernel_rfl), rfl, ⟨TStr.of (by kernel_rfl) (by kernel_rfl), TAgg.of (by kernel_rfl) (by kernel_rfl), ⟨TFld.of (by kernel_rfl) (by kernel_rfl) (by kernel_rfl), ⟨TFld.of (by kernel_rfl) (by kernel_rfl) (by kernel_rfl), ⟨TFld.of (by kernel_rfl) (by kernel_rfl) (by kernel_rfl), ⟨TFld.of (by kernel_rfl) (by kernel_rfl) (by kernel_rfl), ⟨TFld.of (by kernel_rfl) (by kernel_rfl) (by kernel_rfl), ⟨TFld.of (by kernel_rfl) (by kernel_rfl) (by kernel_rfl), trivial⟩⟩⟩⟩⟩⟩⟩⟩
def ti65 : TyI := ⟨.slice 209 2 16 [.int .i64 0, .int .i64 0], .slice none 0 0, [.slice none 0 0], 1, 24⟩
theorem ty65 : ti65.Sound Tryz.prog 65 := ⟨TInfo.of (by kernel_rfl), rfl, ⟨TSlice.of (by kernel_rfl) (by kernel_rfl) (by kernel_rfl), TScal.of (by kernel_rfl)⟩⟩
def ti69 : TyI := ⟨.slice 34 9 88 [.int .i64 0, .int .i64 0, .int .i64 0, .int .i64 0, .int .u64 0, .slice none 0 0, .bool false, .int .i64 0, .int .i64 0], .slice none 0 0, [.slice none 0 0], 1, 24⟩
theorem ty69 : ti69.Sound Tryz.prog 69 := ⟨TInfo.of (by kernel_rfl), rfl, ⟨TSlice.of (by kernel_rfl) (by kernel_rfl) (by kernel_rfl), TScal.of (by kernel_rfl)⟩⟩
def ti70 : TyI := ⟨.ptr, .pointer none, [.pointer none], 1, 8⟩
theorem ty70 : ti70.Sound Tryz.prog 70 := ⟨TInfo.of (by kernel_rfl), rfl, ⟨⟨⟨122, by kernel_rfl⟩⟩, TScal.of (by kernel_rfl)⟩⟩
def ti83 : TyI := ⟨.str [(0, 3, 1), (1, 32, 2)], .agg #[.int .i64 0, .int .i64 0, .int .i64 0], [.int .i64 0, .int .i64 0, .int .i64 0], 3, 24⟩
theorem ty83 : ti83.Sound Tryz.prog 83 := ⟨TInfo.of (by kernel_rfl), rfl, ⟨TStr.of (by kernel_rfl) (by kernel_rfl), TAgg.of (by kernel_rfl) (by kernel_rfl), ⟨TFld.of (by kernel_rfl) (by kernel_rfl) (by kernel_rfl), ⟨TFld.of (by kernel_rfl) (by kernel_rfl) (by kernel_rfl), trivial⟩⟩⟩⟩
def ti87 : TyI := ⟨.str [(0, 3, 1), (1, 3, 1), (2, 3, 1), (3, 3, 1), (4, 4, 1)], .agg #[.int .i64 0, .int .i64 0, .int .i64 0, .int .i64 0, .bool false], [.int .i64 0, .int .i64 0, .int .i64 0, .int .i64 0, .bool false], 5, 40⟩
theorem ty87 : ti87.Sound Tryz.prog 87 := ⟨TInfo.of (by kernel_rfl), rfl, ⟨TStr.of (by kernel_rfl) (by kernel_rfl), TAgg.of (by kernel_rfl) (by kernel_rfl), ⟨TFld.of (by kernel_rfl) (by kernel_rfl) (by kernel_rfl), ⟨TFld.of (by kernel_rfl) (by kernel_rfl) (by kernel_rfl), ⟨TFld.of (by kernel_rfl) (by kernel_rfl) (by kernel_rfl), ⟨TFld.of (by kernel_rfl) (by kernel_rfl) (by kernel_rfl), ⟨TFld.of (by kernel_rfl) (by kernel_rfl) (by kernel_rfl), trivial⟩⟩⟩⟩⟩⟩⟩
def ti100 : TyI := ⟨.str [(0, 3, 1), (1, 35, 1), (2, 3, 1), (3, 35, 1)], .agg #[.int .i64 0, .slice none 0 0, .int .i64 0, .slice none 0 0], [.int .i64 0, .slice none 0 0, .int .i64 0, .slice none 0 0], 4, 64⟩
theorem ty100 : ti100.Sound Tryz.prog 100 := ⟨TInfo.of (by kernel_rfl), rfl, ⟨TStr.of (by kernel_rfl) (by kernel_rfl), TAgg.of (by kernel_rfl) (by kernel_rfl), ⟨TFld.of (by kernel_rfl) (by kernel_rfl) (by kernel_rfl), ⟨TFld.of (by kernel_rfl) (by kernel_rfl) (by kernel_rfl), ⟨TFld.of (by kernel_rfl) (by kernel_rfl) (by kernel_rfl), ⟨TFld.of (by kernel_rfl) (by kernel_rfl) (by kernel_rfl), trivial⟩⟩⟩⟩⟩⟩
def ti103 : TyI := ⟨.ptr, .pointer none, [.pointer none], 1, 8⟩
theorem ty103 : ti103.Sound Tryz.prog 103 := ⟨TInfo.of (by kernel_rfl), rfl, ⟨⟨⟨259, by kernel_rfl⟩⟩, TScal.of (by kernel_rfl)⟩⟩
def ti104 : TyI := ⟨.ptr, .pointer none, [.pointer none], 1, 8⟩
theorem ty104 : ti104.Sound Tryz.prog 104 := ⟨TInfo.of (by kernel_rfl), rfl, ⟨⟨⟨338, by kernel_rfl⟩⟩, TScal.of (by kernel_rfl)⟩⟩
def ti105 : TyI := ⟨.ptr, .pointer none, [.pointer none], 1, 8⟩
theorem ty105 : ti105.Sound Tryz.prog 105 := ⟨TInfo.of (by kernel_rfl), rfl, ⟨⟨⟨346, by kernel_rfl⟩⟩, TScal.of (by kernel_rfl)⟩⟩
def ti106 : TyI := ⟨.ptr, .pointer none, [.pointer none], 1, 8⟩
theorem ty106 : ti106.Sound Tryz.prog 106 := ⟨TInfo.of (by kernel_rfl), rfl, ⟨⟨⟨262, by kernel_rfl⟩⟩, TScal.of (by kernel_rfl)⟩⟩
def ti107 : TyI := ⟨.ptr, .pointer none, [.pointer none], 1, 8⟩
theorem ty107 : ti107.Sound Tryz.prog 107 := ⟨TInfo.of (by kernel_rfl), rfl, ⟨⟨⟨284, by kernel_rfl⟩⟩, TScal.of (by kernel_rfl)⟩⟩
def ti108 : TyI := ⟨.ptr, .pointer none, [.pointer none], 1, 8⟩
theorem ty108 : ti108.Sound Tryz.prog 108 := ⟨TInfo.of (by kernel_rfl), rfl, ⟨⟨⟨293, by kernel_rfl⟩⟩, TScal.of (by kernel_rfl)⟩⟩
def ti109 : TyI := ⟨.map 3 51, .map none, [.map none], 1, 8⟩
theorem ty109 : ti109.Sound Tryz.prog 109 := ⟨TInfo.of (by kernel_rfl), rfl, ⟨⟨by kernel_rfl⟩, TScal.of (by kernel_rfl)⟩⟩
def ti110 : TyI := ⟨.map 3 173, .map none, [.map none], 1, 8⟩
theorem ty110 : ti110.Sound Tryz.prog 110 := ⟨TInfo.of (by kernel_rfl), rfl, ⟨⟨by kernel_rfl⟩, TScal.of (by kernel_rfl)⟩⟩
def ti112 : TyI := ⟨.str [(0, 103, 1), (1, 104, 1), (2, 105, 1), (3, 106, 1), (4, 107, 1), (5, 108, 1), (6, 109, 1), (7, 110, 1)], .agg #[.pointer none, .pointer none, .pointer none, .pointer none, .pointer none, .pointer none, .map none, .map none], [.pointer none, .pointer none, .pointer none, .pointer none, .pointer none, .pointer none, .map none, .map none], 8, 64⟩
theorem ty112 : ti112.Sound Tryz.prog 112 := ⟨TInfo.of (by kernel_rfl), rfl, ⟨TStr.of (by kernel_rfl) (by kernel_rfl), TAgg.of (by kernel_rfl) (by kernel_rfl), ⟨TFld.of (by kernel_rfl) (by kernel_rfl) (by kernel_rfl), ⟨TFld.of (by kernel_rfl) (by kernel_rfl) (by kernel_rfl), ⟨TFld.of (by kernel_rfl) (by kernel_rfl) (by kernel_rfl), ⟨TFld.of (by kernel_rfl) (by kernel_rfl) (by kernel_rfl), ⟨TFld.of (by kernel_rfl) (by kernel_rfl) (by kernel_rfl), ⟨TFld.of (by kernel_rfl) (by kernel_rfl) (by kernel_rfl), ⟨TFld.of (by kernel_rfl) (by kernel_rfl) (by kernel_rfl), ⟨TFld.of (by kernel_rfl) (by kernel_rfl) (by kernel_rfl), trivial⟩⟩⟩⟩⟩⟩⟩⟩⟩⟩
def ti115 : TyI := ⟨.slice 32 2 16 [.int .i64 0, .int .i64 0], .slice none 0 0, [.slice none 0 0], 1, 24⟩
theorem ty115 : ti115.Sound Tryz.prog 115 := ⟨TInfo.of (by kernel_rfl), rfl, ⟨TSlice.of (by kernel_rfl) (by kernel_rfl) (by kernel_rfl), TScal.of (by kernel_rfl)⟩⟩
def ti120 : TyI := ⟨.ptr, .pointer none, [.pointer none], 1, 8⟩
theorem ty120 : ti120.Sound Tryz.prog 120 := ⟨TInfo.of (by kernel_rfl), rfl, ⟨⟨⟨139, by kernel_rfl⟩⟩, TScal.of (by kernel_rfl)⟩⟩
def ti122 : TyI := ⟨.str [(0, 50, 1), (1, 120, 1), (2, 115, 1)], .agg #[.pointer none, .pointer none, .slice none 0 0], [.pointer none, .pointer none, .slice none 0 0], 3, 40⟩
theorem ty122 : ti122.Sound Tryz.prog 122 := ⟨TInfo.of (by kernel_rfl), rfl, ⟨TStr.of (by kernel_rfl) (by kernel_rfl), TAgg.of (by kernel_rfl) (by kernel_rfl), ⟨TFld.of (by kernel_rfl) (by kernel_rfl) (by kernel_rfl), ⟨TFld.of (by kernel_rfl) (by kernel_rfl) (by kernel_rfl), ⟨TFld.of (by kernel_rfl) (by kernel_rfl) (by kernel_rfl), trivial⟩⟩⟩⟩⟩
def ti126 : TyI := ⟨.slice 37 12 128 [.int .i64 0, .int .i64 0, .int .i64 0, .int .i64 0, .int .i64 0, .int .u64 0, .slice none 0 0, .bool false, .int .i64 0, .int .i64 0, .int .i64 0, .slice none 0 0], .slice none 0 0, [.slice none 0 0], 1, 24⟩
theorem ty126 : ti126.Sound Tryz.prog 126 := ⟨TInfo.of (by kernel_rfl), rfl, ⟨TSlice.of (by kernel_rfl) (by kernel_rfl) (by kernel_rfl), TScal.of (by kernel_rfl)⟩⟩
def ti132 : TyI := ⟨.str [(0, 3, 1), (1, 3, 1), (2, 35, 1)], .agg #[.int .i64 0, .int .i64 0, .slice none 0 0], [.int .i64 0, .int .i64 0, .slice none 0 0], 3, 40⟩
theorem ty132 : ti132.Sound Tryz.prog 132 := ⟨TInfo.of (by kernel_rfl), rfl, ⟨TStr.of (by kernel_rfl) (by kernel_rfl), TAgg.of (by kernel_rfl) (by kernel_rfl), ⟨TFld.of (by kernel_rfl) (by kernel_rfl) (by kernel_rfl), ⟨TFld.of (by kernel_rfl) (by kernel_rfl) (by kernel_rfl), ⟨TFld.of (by kernel_rfl) (by kernel_rfl) (by kernel_rfl), trivial⟩⟩⟩⟩⟩
def ti134 : TyI := ⟨.map 3 3, .map none, [.map none], 1, 8⟩
theorem ty134 : ti134.Sound Tryz.prog 134 := ⟨TInfo.of (by kernel_rfl), rfl, ⟨⟨by kernel_rfl⟩, TScal.of (by kernel_rfl)⟩⟩
def ti135 : TyI := ⟨.ptr, .pointer none, [.pointer none], 1, 8⟩
theorem ty135 : ti135.Sound Tryz.prog 135 := ⟨TInfo.of (by kernel_rfl), rfl, ⟨⟨⟨282, by kernel_rfl⟩⟩, TScal.of (by kernel_rfl)⟩⟩
def ti136 : TyI := ⟨.slice 100 4 64 [.int .i64 0, .slice none 0 0, .int .i64 0, .slice none 0 0], .slice none 0 0, [.slice none 0 0], 1, 24⟩
theorem ty136 : ti136.Sound Tryz.prog 136 := ⟨TInfo.of (by kernel_rfl), rfl, ⟨TSlice.of (by kernel_rfl) (by kernel_rfl) (by kernel_rfl), TScal.of (by kernel_rfl)⟩⟩
def ti137 : TyI := ⟨.slice 172 1 8 [.pointer none], .slice none 0 0, [.slice none 0 0], 1, 24⟩
theorem ty137 : ti137.Sound Tryz.prog 137 := ⟨TInfo.of (by kernel_rfl), rfl, ⟨TSlice.of (by kernel_rfl) (by kernel_rfl) (by kernel_rfl), TScal.of (by kernel_rfl)⟩⟩
def ti139 : TyI := ⟨.str [(0, 135, 1), (1, 136, 1), (2, 137, 1)], .agg #[.pointer none, .slice none 0 0, .slice none 0 0], [.pointer none, .slice none 0 0, .slice none 0 0], 3, 56⟩
theorem ty139 : ti139.Sound Tryz.prog 139 := ⟨TInfo.of (by kernel_rfl), rfl, ⟨TStr.of (by kernel_rfl) (by kernel_rfl), TAgg.of (by kernel_rfl) (by kernel_rfl), ⟨TFld.of (by kernel_rfl) (by kernel_rfl) (by kernel_rfl), ⟨TFld.of (by kernel_rfl) (by kernel_rfl) (by kernel_rfl), ⟨TFld.of (by kernel_rfl) (by kernel_rfl) (by kernel_rfl), trivial⟩⟩⟩⟩⟩
def ti141 : TyI := ⟨.map 32 87, .map none, [.map none], 1, 8⟩
theorem ty141 : ti141.Sound Tryz.prog 141 := ⟨TInfo.of (by kernel_rfl), rfl, ⟨⟨by kernel_rfl⟩, TScal.of (by kernel_rfl)⟩⟩
def ti145 : TyI := ⟨.arr 2 3 1, .agg #[.int .i64 0, .int .i64 0], [.int .i64 0, .int .i64 0], 2, 16⟩
theorem ty145 : ti145.Sound Tryz.prog 145 := ⟨TInfo.of (by kernel_rfl), rfl, ⟨TArr.of (by kernel_rfl) (by kernel_rfl), TAgg.of (by kernel_rfl) (by kernel_rfl)⟩⟩
def ti146 : TyI := ⟨.slice 44 9 72 [.int .i64 0, .int .i64 0, .int .i64 0, .int .i64 0, .int .u64 0, .int .i64 0, .int .i64 0, .int .i64 0, .int .i64 0], .slice none 0 0, [.slice none 0 0], 1, 24⟩
theorem ty146 : ti146.Sound Tryz.prog 146 := ⟨TInfo.of (by kernel_rfl), rfl, ⟨TSlice.of (by kernel_rfl) (by kernel_rfl) (by kernel_rfl), TScal.of (by kernel_rfl)⟩⟩
def ti150 : TyI := ⟨.str [(0, 49, 1), (1, 120, 1), (2, 115, 1)], .agg #[.pointer none, .pointer none, .slice none 0 0], [.pointer none, .pointer none, .slice none 0 0], 3, 40⟩
theorem ty150 : ti150.Sound Tryz.prog 150 := ⟨TInfo.of (by kernel_rfl), rfl, ⟨TStr.of (by kernel_rfl) (by kernel_rfl), TAgg.of (by kernel_rfl) (by kernel_rfl), ⟨TFld.of (by kernel_rfl) (by kernel_rfl) (by kernel_rfl), ⟨TFld.of (by kernel_rfl) (by kernel_rfl) (by kernel_rfl), ⟨TFld.of (by kernel_rfl) (by kernel_rfl) (by kernel_rfl), trivial⟩⟩⟩⟩⟩
def ti155 : TyI := ⟨.slice 167 6 48 [.int .i64 0, .int .i64 0, .int .i64 0, .int .i64 0, .int .i64 0, .int .i64 0], .slice none 0 0, [.slice none 0 0], 1, 24⟩
theorem ty155 : ti155.Sound Tryz.prog 155 := ⟨TInfo.of (by kernel_rfl), rfl, ⟨TSlice.of (by kernel_rfl) (by kernel_rfl) (by kernel_rfl), TScal.of (by kernel_rfl)⟩⟩
def ti160 : TyI := ⟨.str [(0, 3, 1), (1, 3, 1), (2, 4, 1), (3, 4, 1)], .agg #[.int .i64 0, .int .i64 0, .bool false, .bool false], [.int .i64 0, .int .i64 0, .bool false, .bool false], 4, 24⟩
theorem ty160 : ti160.Sound Tryz.prog 160 := ⟨TInfo.of (by kernel_rfl), rfl, ⟨TStr.of (by kernel_rfl) (by kernel_rfl), TAgg.of (by kernel_rfl) (by kernel_rfl), ⟨TFld.of (by kernel_rfl) (by kernel_rfl) (by kernel_rfl), ⟨TFld.of (by kernel_rfl) (by kernel_rfl) (by kernel_rfl), ⟨TFld.of (by kernel_rfl) (by kernel_rfl) (by kernel_rfl), ⟨TFld.of (by kernel_rfl) (by kernel_rfl) (by kernel_rfl), trivial⟩⟩⟩⟩⟩⟩
def ti167 : TyI := ⟨.str [(0, 32, 2), (2, 3, 1), (3, 83, 3)], .agg #[.int .i64 0, .int .i64 0, .int .i64 0, .int .i64 0, .int .i64 0, .int .i64 0], [.int .i64 0, .int .i64 0, .int .i64 0, .int .i64 0, .int .i64 0, .int .i64 0], 6, 48⟩
theorem ty167 : ti167.Sound Tryz.prog 167 := ⟨TInfo.of (by kernel_rfl), rfl, ⟨TStr.of (by kernel_rfl) (by kernel_rfl), TAgg.of (by kernel_rfl) (by kernel_rfl), ⟨TFld.of (by kernel_rfl) (by kernel_rfl) (by kernel_rfl), ⟨TFld.of (by kernel_rfl) (by kernel_rfl) (by kernel_rfl), ⟨TFld.of (by kernel_rfl) (by kernel_rfl) (by kernel_rfl), trivial⟩⟩⟩⟩⟩
def ti171 : TyI := ⟨.str [(0, 3, 1), (1, 3, 1), (2, 3, 1), (3, 30, 1), (4, 35, 1), (5, 35, 1), (6, 4, 1), (7, 4, 1), (8, 4, 1)], .agg #[.int .i64 0, .int .i64 0, .int .i64 0, .slice none 0 0, .slice none 0 0, .slice none 0 0, .bool false, .bool false, .bool false], [.int .i64 0, .int .i64 0, .int .i64 0, .slice none 0 0, .slice none 0 0, .slice none 0 0, .bool false, .bool false, .bool false], 9, 104⟩
theorem ty171 : ti171.Sound Tryz.prog 171 := ⟨TInfo.of (by kernel_rfl), rfl, ⟨TStr.of (by kernel_rfl) (by kernel_rfl), TAgg.of (by kernel_rfl) (by kernel_rfl), ⟨TFld.of (by kernel_rfl) (by kernel_rfl) (by kernel_rfl), ⟨TFld.of (by kernel_rfl) (by kernel_rfl) (by kernel_rfl), ⟨TFld.of (by kernel_rfl) (by kernel_rfl) (by kernel_rfl), ⟨TFld.of (by kernel_rfl) (by kernel_rfl) (by kernel_rfl), ⟨TFld.of (by kernel_rfl) (by kernel_rfl) (by kernel_rfl), ⟨TFld.of (by kernel_rfl) (by kernel_rfl) (by kernel_rfl), ⟨TFld.of (by kernel_rfl) (by kernel_rfl) (by kernel_rfl), ⟨TFld.of (by kernel_rfl) (by kernel_rfl) (by kernel_rfl), ⟨TFld.of (by kernel_rfl) (by kernel_rfl) (by kernel_rfl), trivial⟩⟩⟩⟩⟩⟩⟩⟩⟩⟩⟩
def ti172 : TyI := ⟨.ptr, .pointer none, [.pointer none], 1, 8⟩
theorem ty172 : ti172.Sound Tryz.prog 172 := ⟨TInfo.of (by kernel_rfl), rfl, ⟨⟨⟨171, by kernel_rfl⟩⟩, TScal.of (by kernel_rfl)⟩⟩
def ti173 : TyI := ⟨.ptr, .pointer none, [.pointer none], 1, 8⟩
theorem ty173 : ti173.Sound Tryz.prog 173 := ⟨TInfo.of (by kernel_rfl), rfl, ⟨⟨⟨307, by kernel_rfl⟩⟩, TScal.of (by kernel_rfl)⟩⟩
def ti177 : TyI := ⟨.str [(0, 35, 1), (1, 3, 1)], .agg #[.slice none 0 0, .int .i64 0], [.slice none 0 0, .int .i64 0], 2, 32⟩
theorem ty177 : ti177.Sound Tryz.prog 177 := ⟨TInfo.of (by kernel_rfl), rfl, ⟨TStr.of (by kernel_rfl) (by kernel_rfl), TAgg.of (by kernel_rfl) (by kernel_rfl), ⟨TFld.of (by kernel_rfl) (by kernel_rfl) (by kernel_rfl), ⟨TFld.of (by kernel_rfl) (by kernel_rfl) (by kernel_rfl), trivial⟩⟩⟩⟩
def ti182 : TyI := ⟨.str [(0, 29, 1), (1, 83, 3), (4, 58, 1), (5, 58, 1)], .agg #[.int .u64 0, .int .i64 0, .int .i64 0, .int .i64 0, .int .i64 0, .int .i64 0], [.int .u64 0, .int .i64 0, .int .i64 0, .int .i64 0, .int .i64 0, .int .i64 0], 6, 48⟩
theorem ty182 : ti182.Sound Tryz.prog 182 := ⟨TInfo.of (by kernel_rfl), rfl, ⟨TStr.of (by kernel_rfl) (by kernel_rfl), TAgg.of (by kernel_rfl) (by kernel_rfl), ⟨TFld.of (by kernel_rfl) (by kernel_rfl) (by kernel_rfl), ⟨TFld.of (by kernel_rfl) (by kernel_rfl) (by kernel_rfl), ⟨TFld.of (by kernel_rfl) (by kernel_rfl) (by kernel_rfl), ⟨TFld.of (by kernel_rfl) (by kernel_rfl) (by kernel_rfl), trivial⟩⟩⟩⟩⟩⟩
def ti185 : TyI := ⟨.str [(0, 3, 1), (1, 3, 1), (2, 3, 1)], .agg #[.int .i64 0, .int .i64 0, .int .i64 0], [.int .i64 0, .int .i64 0, .int .i64 0], 3, 24⟩
theorem ty185 : ti185.Sound Tryz.prog 185 := ⟨TInfo.of (by kernel_rfl), rfl, ⟨TStr.of (by kernel_rfl) (by kernel_rfl), TAgg.of (by kernel_rfl) (by kernel_rfl), ⟨TFld.of (by kernel_rfl) (by kernel_rfl) (by kernel_rfl), ⟨TFld.of (by kernel_rfl) (by kernel_rfl) (by kernel_rfl), ⟨TFld.of (by kernel_rfl) (by kernel_rfl) (by kernel_rfl), trivial⟩⟩⟩⟩⟩
def ti193 : TyI := ⟨.str [(0, 3, 1), (1, 3, 1)], .agg #[.int .i64 0, .int .i64 0], [.int .i64 0, .int .i64 0], 2, 16⟩
theorem ty193 : ti193.Sound Tryz.prog 193 := ⟨TInfo.of (by kernel_rfl), rfl, ⟨TStr.of (by kernel_rfl) (by kernel_rfl), TAgg.of (by kernel_rfl) (by kernel_rfl), ⟨TFld.of (by kernel_rfl) (by kernel_rfl) (by kernel_rfl), ⟨TFld.of (by kernel_rfl) (by kernel_rfl) (by kernel_rfl), trivial⟩⟩⟩⟩
def ti196 : TyI := ⟨.slice 200 2 16 [.int .i64 0, .int .i64 0], .slice none 0 0, [.slice none 0 0], 1, 24⟩
theorem ty196 : ti196.Sound Tryz.prog 196 := ⟨TInfo.of (by kernel_rfl), rfl, ⟨TSlice.of (by kernel_rfl) (by kernel_rfl) (by kernel_rfl), TScal.of (by kernel_rfl)⟩⟩
def ti197 : TyI := ⟨.slice 193 2 16 [.int .i64 0, .int .i64 0], .slice none 0 0, [.slice none 0 0], 1, 24⟩
theorem ty197 : ti197.Sound Tryz.prog 197 := ⟨TInfo.of (by kernel_rfl), rfl, ⟨TSlice.of (by kernel_rfl) (by kernel_rfl) (by kernel_rfl), TScal.of (by kernel_rfl)⟩⟩
def ti200 : TyI := ⟨.str [(0, 3, 1), (1, 3, 1)], .agg #[.int .i64 0, .int .i64 0], [.int .i64 0, .int .i64 0], 2, 16⟩
theorem ty200 : ti200.Sound Tryz.prog 200 := ⟨TInfo.of (by kernel_rfl), rfl, ⟨TStr.of (by kernel_rfl) (by kernel_rfl), TAgg.of (by kernel_rfl) (by kernel_rfl), ⟨TFld.of (by kernel_rfl) (by kernel_rfl) (by kernel_rfl), ⟨TFld.of (by kernel_rfl) (by kernel_rfl) (by kernel_rfl), trivial⟩⟩⟩⟩
def ti204 : TyI := ⟨.other, .nilFunc, [.nilFunc], 1, 8⟩
theorem ty204 : ti204.Sound Tryz.prog 204 := ⟨TInfo.of (by kernel_rfl), rfl, TScal.of (by kernel_rfl)⟩
def ti209 : TyI := ⟨.str [(0, 3, 1), (1, 3, 1)], .agg #[.int .i64 0, .int .i64 0], [.int .i64 0, .int .i64 0], 2, 16⟩
theorem ty209 : ti209.Sound Tryz.prog 209 := ⟨TInfo.of (by kernel_rfl), rfl, ⟨TStr.of (by kernel_rfl) (by kernel_rfl), TAgg.of (by kernel_rfl) (by kernel_rfl), ⟨TFld.of (by kernel_rfl) (by kernel_rfl) (by kernel_rfl), ⟨TFld.of (by kernel_rfl) (by kernel_rfl) (by kernel_rfl), trivial⟩⟩⟩⟩
def ti213 : TyI := ⟨.other, .nilFunc, [.nilFunc], 1, 8⟩
theorem ty213 : ti213.Sound Tryz.prog 213 := ⟨TInfo.of (by kernel_rfl), rfl, TScal.of (by kernel_rfl)⟩
def ti239 : TyI := ⟨.other, .nilFunc, [.nilFunc], 1, 8⟩
theorem ty239 : ti239.Sound Tryz.prog 239 := ⟨TInfo.of (by kernel_rfl), rfl, TScal.of (by kernel_rfl)⟩
def ti257 : TyI := ⟨.ptr, .pointer none, [.pointer none], 1, 8⟩
theorem ty257 : ti257.Sound Tryz.prog 257 := ⟨TInfo.of (by kernel_rfl), rfl, ⟨⟨⟨359, by kernel_rfl⟩⟩, TScal.of (by kernel_rfl)⟩⟩
def ti259 : TyI := ⟨.str [(0, 30, 1), (1, 3, 1), (2, 35, 1), (3, 257, 1)], .agg #[.slice none 0 0, .int .i64 0, .slice none 0 0, .pointer none], [.slice none 0 0, .int .i64 0, .slice none 0 0, .pointer none], 4, 64⟩
theorem ty259 : ti259.Sound Tryz.prog 259 := ⟨TInfo.of (by kernel_rfl), rfl, ⟨TStr.of (by kernel_rfl) (by kernel_rfl), TAgg.of (by kernel_rfl) (by kernel_rfl), ⟨TFld.of (by kernel_rfl) (by kernel_rfl) (by kernel_rfl), ⟨TFld.of (by kernel_rfl) (by kernel_rfl) (by kernel_rfl), ⟨TFld.of (by kernel_rfl) (by kernel_rfl) (by kernel_rfl), ⟨TFld.of (by kernel_rfl) (by kernel_rfl) (by kernel_rfl), trivial⟩⟩⟩⟩⟩⟩
def ti260 : TyI := ⟨.slice 296 6 40 [.int .i64 0, .bool false, .int .i64 0, .int .i64 0, .bool false, .bool false], .slice none 0 0, [.slice none 0 0], 1, 24⟩
theorem ty260 : ti260.Sound Tryz.prog 260 := ⟨TInfo.of (by kernel_rfl), rfl, ⟨TSlice.of (by kernel_rfl) (by kernel_rfl) (by kernel_rfl), TScal.of (by kernel_rfl)⟩⟩
def ti262 : TyI := ⟨.str [(0, 260, 1), (1, 257, 1), (2, 3, 1)], .agg #[.slice none 0 0, .pointer none, .int .i64 0], [.slice none 0 0, .pointer none, .int .i64 0], 3, 40⟩
theorem ty262 : ti262.Sound Tryz.prog 262 := ⟨TInfo.of (by kernel_rfl), rfl, ⟨TStr.of (by kernel_rfl) (by kernel_rfl), TAgg.of (by kernel_rfl) (by kernel_rfl), ⟨TFld.of (by kernel_rfl) (by kernel_rfl) (by kernel_rfl), ⟨TFld.of (by kernel_rfl) (by kernel_rfl) (by kernel_rfl), ⟨TFld.of (by kernel_rfl) (by kernel_rfl) (by kernel_rfl), trivial⟩⟩⟩⟩⟩
def ti273 : TyI := ⟨.map 32 3, .map none, [.map none], 1, 8⟩
theorem ty273 : ti273.Sound Tryz.prog 273 := ⟨TInfo.of (by kernel_rfl), rfl, ⟨⟨by kernel_rfl⟩, TScal.of (by kernel_rfl)⟩⟩
def ti282 : TyI := ⟨.str [(0, 35, 1)], .agg #[.slice none 0 0], [.slice none 0 0], 1, 24⟩
theorem ty282 : ti282.Sound Tryz.prog 282 := ⟨TInfo.of (by kernel_rfl), rfl, ⟨TStr.of (by kernel_rfl) (by kernel_rfl), TAgg.of (by kernel_rfl) (by kernel_rfl), ⟨TFld.of (by kernel_rfl) (by kernel_rfl) (by kernel_rfl), trivial⟩⟩⟩
def ti284 : TyI := ⟨.str [(0, 134, 1), (1, 3, 1)], .agg #[.map none, .int .i64 0], [.map none, .int .i64 0], 2, 16⟩
theorem ty284 : ti284.Sound Tryz.prog 284 := ⟨TInfo.of (by kernel_rfl), rfl, ⟨TStr.of (by kernel_rfl) (by kernel_rfl), TAgg.of (by kernel_rfl) (by kernel_rfl), ⟨TFld.of (by kernel_rfl) (by kernel_rfl) (by kernel_rfl), ⟨TFld.of (by kernel_rfl) (by kernel_rfl) (by kernel_rfl), trivial⟩⟩⟩⟩
def ti285 : TyI := ⟨.int .u64, .int .u64 0, [.int .u64 0], 1, 8⟩
theorem ty285 : ti285.Sound Tryz.prog 285 := ⟨TInfo.of (by kernel_rfl), rfl, ⟨⟨by kernel_rfl⟩, TScal.of (by kernel_rfl)⟩⟩
def ti290 : TyI := ⟨.map 193 3, .map none, [.map none], 1, 8⟩
theorem ty290 : ti290.Sound Tryz.prog 290 := ⟨TInfo.of (by kernel_rfl), rfl, ⟨⟨by kernel_rfl⟩, TScal.of (by kernel_rfl)⟩⟩
def ti291 : TyI := ⟨.map 3 290, .map none, [.map none], 1, 8⟩
theorem ty291 : ti291.Sound Tryz.prog 291 := ⟨TInfo.of (by kernel_rfl), rfl, ⟨⟨by kernel_rfl⟩, TScal.of (by kernel_rfl)⟩⟩
def ti293 : TyI := ⟨.str [(0, 290, 1), (1, 291, 1), (2, 291, 1)], .agg #[.map none, .map none, .map none], [.map none, .map none, .map none], 3, 24⟩
theorem ty293 : ti293.Sound Tryz.prog 293 := ⟨TInfo.of (by kernel_rfl), rfl, ⟨TStr.of (by kernel_rfl) (by kernel_rfl), TAgg.of (by kernel_rfl) (by kernel_rfl), ⟨TFld.of (by kernel_rfl) (by kernel_rfl) (by kernel_rfl), ⟨TFld.of (by kernel_rfl) (by kernel_rfl) (by kernel_rfl), ⟨TFld.of (by kernel_rfl) (by kernel_rfl) (by kernel_rfl), trivial⟩⟩⟩⟩⟩
def ti294 : TyI := ⟨.other, .nilFunc, [.nilFunc], 1, 8⟩
theorem ty294 : ti294.Sound Tryz.prog 294 := ⟨TInfo.of (by kernel_rfl), rfl, TScal.of (by kernel_rfl)⟩
def ti296 : TyI := ⟨.str [(0, 3, 1), (1, 4, 1), (2, 160, 4)], .agg #[.int .i64 0, .bool false, .int .i64 0, .int .i64 0, .bool false, .bool false], [.int .i64 0, .bool false, .int .i64 0, .int .i64 0, .bool false, .bool false], 6, 40⟩
theorem ty296 : ti296.Sound Tryz.prog 296 := ⟨TInfo.of (by kernel_rfl), rfl, ⟨TStr.of (by kernel_rfl) (by kernel_rfl), TAgg.of (by kernel_rfl) (by kernel_rfl), ⟨TFld.of (by kernel_rfl) (by kernel_rfl) (by kernel_rfl), ⟨TFld.of (by kernel_rfl) (by kernel_rfl) (by kernel_rfl), ⟨TFld.of (by kernel_rfl) (by kernel_rfl) (by kernel_rfl), trivial⟩⟩⟩⟩⟩
def ti300 : TyI := ⟨.other, .nilFunc, [.nilFunc], 1, 8⟩
theorem ty300 : ti300.Sound Tryz.prog 300 := ⟨TInfo.of (by kernel_rfl), rfl, TScal.of (by kernel_rfl)⟩
def ti305 : TyI := ⟨.other, .nilFunc, [.nilFunc], 1, 8⟩
theorem ty305 : ti305.Sound Tryz.prog 305 := ⟨TInfo.of (by kernel_rfl), rfl, TScal.of (by kernel_rfl)⟩
def ti307 : TyI := ⟨.str [(0, 35, 1)], .agg #[.slice none 0 0], [.slice none 0 0], 1, 24⟩
theorem ty307 : ti307.Sound Tryz.prog 307 := ⟨TInfo.of (by kernel_rfl), rfl, ⟨TStr.of (by kernel_rfl) (by kernel_rfl), TAgg.of (by kernel_rfl) (by kernel_rfl), ⟨TFld.of (by kernel_rfl) (by kernel_rfl) (by kernel_rfl), trivial⟩⟩⟩
def ti308 : TyI := ⟨.int .i64, .int .i64 0, [.int .i64 0], 1, 8⟩
theorem ty308 : ti308.Sound Tryz.prog 308 := ⟨TInfo.of (by kernel_rfl), rfl, ⟨⟨by kernel_rfl⟩, TScal.of (by kernel_rfl)⟩⟩
def ti328 : TyI := ⟨.slice 332 2 16 [.int .i64 0, .int .i64 0], .slice none 0 0, [.slice none 0 0], 1, 24⟩
theorem ty328 : ti328.Sound Tryz.prog 328 := ⟨TInfo.of (by kernel_rfl), rfl, ⟨TSlice.of (by kernel_rfl) (by kernel_rfl) (by kernel_rfl), TScal.of (by kernel_rfl)⟩⟩
def ti330 : TyI := ⟨.str [(0, 103, 1), (1, 3, 1), (2, 328, 1), (3, 3, 1), (4, 3, 1)], .agg #[.pointer none, .int .i64 0, .slice none 0 0, .int .i64 0, .int .i64 0], [.pointer none, .int .i64 0, .slice none 0 0, .int .i64 0, .int .i64 0], 5, 56⟩
theorem ty330 : ti330.Sound Tryz.prog 330 := ⟨TInfo.of (by kernel_rfl), rfl, ⟨TStr.of (by kernel_rfl) (by kernel_rfl), TAgg.of (by kernel_rfl) (by kernel_rfl), ⟨TFld.of (by kernel_rfl) (by kernel_rfl) (by kernel_rfl), ⟨TFld.of (by kernel_rfl) (by kernel_rfl) (by kernel_rfl), ⟨TFld.of (by kernel_rfl) (by kernel_rfl) (by kernel_rfl), ⟨TFld.of (by kernel_rfl) (by kernel_rfl) (by kernel_rfl), ⟨TFld.of (by kernel_rfl) (by kernel_rfl) (by kernel_rfl), trivial⟩⟩⟩⟩⟩⟩⟩
def ti332 : TyI := ⟨.str [(0, 3, 1), (1, 3, 1)], .agg #[.int .i64 0, .int .i64 0], [.int .i64 0, .int .i64 0], 2, 16⟩
theorem ty332 : ti332.Sound Tryz.prog 332 := ⟨TInfo.of (by kernel_rfl), rfl, ⟨TStr.of (by kernel_rfl) (by kernel_rfl), TAgg.of (by kernel_rfl) (by kernel_rfl), ⟨TFld.of (by kernel_rfl) (by kernel_rfl) (by kernel_rfl), ⟨TFld.of (by kernel_rfl) (by kernel_rfl) (by kernel_rfl), trivial⟩⟩⟩⟩
def ti335 : TyI := ⟨.slice 403 2 16 [.int .i64 0, .int .i64 0], .slice none 0 0, [.slice none 0 0], 1, 24⟩
theorem ty335 : ti335.Sound Tryz.prog 335 := ⟨TInfo.of (by kernel_rfl), rfl, ⟨TSlice.of (by kernel_rfl) (by kernel_rfl) (by kernel_rfl), TScal.of (by kernel_rfl)⟩⟩
def ti338 : TyI := ⟨.str [(0, 136, 1)], .agg #[.slice none 0 0], [.slice none 0 0], 1, 24⟩
theorem ty338 : ti338.Sound Tryz.prog 338 := ⟨TInfo.of (by kernel_rfl), rfl, ⟨TStr.of (by kernel_rfl) (by kernel_rfl), TAgg.of (by kernel_rfl) (by kernel_rfl), ⟨TFld.of (by kernel_rfl) (by kernel_rfl) (by kernel_rfl), trivial⟩⟩⟩
def ti346 : TyI := ⟨.str [(0, 103, 1), (1, 104, 1)], .agg #[.pointer none, .pointer none], [.pointer none, .pointer none], 2, 16⟩
theorem ty346 : ti346.Sound Tryz.prog 346 := ⟨TInfo.of (by kernel_rfl), rfl, ⟨TStr.of (by kernel_rfl) (by kernel_rfl), TAgg.of (by kernel_rfl) (by kernel_rfl), ⟨TFld.of (by kernel_rfl) (by kernel_rfl) (by kernel_rfl), ⟨TFld.of (by kernel_rfl) (by kernel_rfl) (by kernel_rfl), trivial⟩⟩⟩⟩
def ti351 : TyI := ⟨.other, .nilFunc, [.nilFunc], 1, 8⟩
theorem ty351 : ti351.Sound Tryz.prog 351 := ⟨TInfo.of (by kernel_rfl), rfl, TScal.of (by kernel_rfl)⟩
def ti359 : TyI := ⟨.str [(0, 3, 1), (1, 30, 1), (2, 3, 1)], .agg #[.int .i64 0, .slice none 0 0, .int .i64 0], [.int .i64 0, .slice none 0 0, .int .i64 0], 3, 40⟩
theorem ty359 : ti359.Sound Tryz.prog 359 := ⟨TInfo.of (by kernel_rfl), rfl, ⟨TStr.of (by kernel_rfl) (by kernel_rfl), TAgg.of (by kernel_rfl) (by kernel_rfl), ⟨TFld.of (by kernel_rfl) (by kernel_rfl) (by kernel_rfl), ⟨TFld.of (by kernel_rfl) (by kernel_rfl) (by kernel_rfl), ⟨TFld.of (by kernel_rfl) (by kernel_rfl) (by kernel_rfl), trivial⟩⟩⟩⟩⟩
def ti368 : TyI := ⟨.map 3 375, .map none, [.map none], 1, 8⟩
theorem ty368 : ti368.Sound Tryz.prog 368 := ⟨TInfo.of (by kernel_rfl), rfl, ⟨⟨by kernel_rfl⟩, TScal.of (by kernel_rfl)⟩⟩
def ti369 : TyI := ⟨.slice 373 2 16 [.int .i64 0, .int .i64 0], .slice none 0 0, [.slice none 0 0], 1, 24⟩
theorem ty369 : ti369.Sound Tryz.prog 369 := ⟨TInfo.of (by kernel_rfl), rfl, ⟨TSlice.of (by kernel_rfl) (by kernel_rfl) (by kernel_rfl), TScal.of (by kernel_rfl)⟩⟩
def ti371 : TyI := ⟨.str [(0, 368, 1), (1, 369, 1), (2, 3, 1), (3, 3, 1)], .agg #[.map none, .slice none 0 0, .int .i64 0, .int .i64 0], [.map none, .slice none 0 0, .int .i64 0, .int .i64 0], 4, 48⟩
theorem ty371 : ti371.Sound Tryz.prog 371 := ⟨TInfo.of (by kernel_rfl), rfl, ⟨TStr.of (by kernel_rfl) (by kernel_rfl), TAgg.of (by kernel_rfl) (by kernel_rfl), ⟨TFld.of (by kernel_rfl) (by kernel_rfl) (by kernel_rfl), ⟨TFld.of (by kernel_rfl) (by kernel_rfl) (by kernel_rfl), ⟨TFld.of (by kernel_rfl) (by kernel_rfl) (by kernel_rfl), ⟨TFld.of (by kernel_rfl) (by kernel_rfl) (by kernel_rfl), trivial⟩⟩⟩⟩⟩⟩
def ti373 : TyI := ⟨.str [(0, 3, 1), (1, 3, 1)], .agg #[.int .i64 0, .int .i64 0], [.int .i64 0, .int .i64 0], 2, 16⟩
theorem ty373 : ti373.Sound Tryz.prog 373 := ⟨TInfo.of (by kernel_rfl), rfl, ⟨TStr.of (by kernel_rfl) (by kernel_rfl), TAgg.of (by kernel_rfl) (by kernel_rfl), ⟨TFld.of (by kernel_rfl) (by kernel_rfl) (by kernel_rfl), ⟨TFld.of (by kernel_rfl) (by kernel_rfl) (by kernel_rfl), trivial⟩⟩⟩⟩
def ti375 : TyI := ⟨.str [(0, 308, 1), (1, 3, 1)], .agg #[.int .i64 0, .int .i64 0], [.int .i64 0, .int .i64 0], 2, 16⟩
theorem ty375 : ti375.Sound Tryz.prog 375 := ⟨TInfo.of (by kernel_rfl), rfl, ⟨TStr.of (by kernel_rfl) (by kernel_rfl), TAgg.of (by kernel_rfl) (by kernel_rfl), ⟨TFld.of (by kernel_rfl) (by kernel_rfl) (by kernel_rfl), ⟨TFld.of (by kernel_rfl) (by kernel_rfl) (by kernel_rfl), trivial⟩⟩⟩⟩
def ti385 : TyI := ⟨.other, .nilFunc, [.nilFunc], 1, 8⟩
theorem ty385 : ti385.Sound Tryz.prog 385 := ⟨TInfo.of (by kernel_rfl), rfl, TScal.of (by kernel_rfl)⟩
def ti387 : TyI := ⟨.other, .nilFunc, [.nilFunc], 1, 8⟩
theorem ty387 : ti387.Sound Tryz.prog 387 := ⟨TInfo.of (by kernel_rfl), rfl, TScal.of (by kernel_rfl)⟩
def ti388 : TyI := ⟨.map 3 35, .map none, [.map none], 1, 8⟩
theorem ty388 : ti388.Sound Tryz.prog 388 := ⟨TInfo.of (by kernel_rfl), rfl, ⟨⟨by kernel_rfl⟩, TScal.of (by kernel_rfl)⟩⟩
def ti389 : TyI := ⟨.slice 35 1 24 [.slice none 0 0], .slice none 0 0, [.slice none 0 0], 1, 24⟩
theorem ty389 : ti389.Sound Tryz.prog 389 := ⟨TInfo.of (by kernel_rfl), rfl, ⟨TSlice.of (by kernel_rfl) (by kernel_rfl) (by kernel_rfl), TScal.of (by kernel_rfl)⟩⟩
def ti391 : TyI := ⟨.int .i64, .int .i64 0, [.int .i64 0], 1, 8⟩
theorem ty391 : ti391.Sound Tryz.prog 391 := ⟨TInfo.of (by kernel_rfl), rfl, ⟨⟨by kernel_rfl⟩, TScal.of (by kernel_rfl)⟩⟩
def ti398 : TyI := ⟨.int .u32, .int .u32 0, [.int .u32 0], 1, 4⟩
theorem ty398 : ti398.Sound Tryz.prog 398 := ⟨TInfo.of (by kernel_rfl), rfl, ⟨⟨by kernel_rfl⟩, TScal.of (by kernel_rfl)⟩⟩
def ti403 : TyI := ⟨.str [(0, 3, 1), (1, 3, 1)], .agg #[.int .i64 0, .int .i64 0], [.int .i64 0, .int .i64 0], 2, 16⟩
theorem ty403 : ti403.Sound Tryz.prog 403 := ⟨TInfo.of (by kernel_rfl), rfl, ⟨TStr.of (by kernel_rfl) (by kernel_rfl), TAgg.of (by kernel_rfl) (by kernel_rfl), ⟨TFld.of (by kernel_rfl) (by kernel_rfl) (by kernel_rfl), ⟨TFld.of (by kernel_rfl) (by kernel_rfl) (by kernel_rfl), trivial⟩⟩⟩⟩
def ti422 : TyI := ⟨.int .u64, .int .u64 0, [.int .u64 0], 1, 8⟩
theorem ty422 : ti422.Sound Tryz.prog 422 := ⟨TInfo.of (by kernel_rfl), rfl, ⟨⟨by kernel_rfl⟩, TScal.of (by kernel_rfl)⟩⟩
def ti426 : TyI := ⟨.ptr, .pointer none, [.pointer none], 1, 8⟩
theorem ty426 : ti426.Sound Tryz.prog 426 := ⟨TInfo.of (by kernel_rfl), rfl, ⟨⟨⟨3, by kernel_rfl⟩⟩, TScal.of (by kernel_rfl)⟩⟩
def ti429 : TyI := ⟨.arr 64 5 1, .agg #[.int .u8 0, .int .u8 0, .int .u8 0, .int .u8 0, .int .u8 0, .int .u8 0, .int .u8 0, .int .u8 0, .int .u8 0, .int .u8 0, .int .u8 0, .int .u8 0, .int .u8 0, .int .u8 0, .int .u8 0, .int .u8 0, .int .u8 0, .int .u8 0, .int .u8 0, .int .u8 0, .int .u8 0, .int .u8 0, .int .u8 0, .int .u8 0, .int .u8 0, .int .u8 0, .int .u8 0, .int .u8 0, .int .u8 0, .int .u8 0, .int .u8 0, .int .u8 0, .int .u8 0, .int .u8 0, .int .u8 0, .int .u8 0, .int .u8 0, .int .u8 0, .int .u8 0, .int .u8 0, .int .u8 0, .int .u8 0, .int .u8 0, .int .u8 0, .int .u8 0, .int .u8 0, .int .u8 0, .int .u8 0, .int .u8 0, .int .u8 0, .int .u8 0, .int .u8 0, .int .u8 0, .int .u8 0, .int .u8 0, .int .u8 0, .int .u8 0, .int .u8 0, .int .u8 0, .int .u8 0, .int .u8 0, .int .u8 0, .int .u8 0, .int .u8 0], [.int .u8 0, .int .u8 0, .int .u8 0, .int .u8 0, .int .u8 0, .int .u8 0, .int .u8 0, .int .u8 0, .int .u8 0, .int .u8 0, .int .u8 0, .int .u8 0, .int .u8 0, .int .u8 0, .int .u8 0, .int .u8 0, .int .u8 0, .int .u8 0, .int .u8 0, .int .u8 0, .int .u8 0, .int .u8 0, .int .u8 0, .int .u8 0, .int .u8 0, .int .u8 0, .int .u8 0, .int .u8 0, .int .u8 0, .int .u8 0, .int .u8 0, .int .u8 0, .int .u8 0, .int .u8 0, .int .u8 0, .int .u8 0, .int .u8 0, .int .u8 0, .int .u8 0, .int .u8 0, .int .u8 0, .int .u8 0, .int .u8 0, .int .u8 0, .int .u8 0, .int .u8 0, .int .u8 0, .int .u8 0, .int .u8 0, .int .u8 0, .int .u8 0, .int .u8 0, .int .u8 0, .int .u8 0, .int .u8 0, .int .u8 0, .int .u8 0, .int .u8 0, .int .u8 0, .int .u8 0, .int .u8 0, .int .u8 0, .int .u8 0, .int .u8 0], 64, 64⟩
theorem ty429 : ti429.Sound Tryz.prog 429 := ⟨TInfo.of (by kernel_rfl), rfl, ⟨TArr.of (by kernel_rfl) (by kernel_rfl), TAgg.of (by kernel_rfl) (by kernel_rfl)⟩⟩
instance : Ty Tryz.prog := ⟨[[none, none, none, some ti3, some ti4, some ti5, none, none, none, some ti9, none, none, none, none, none, none], [none, none, none, none, none, none, none, some ti23, some ti24, none, none, some ti27, none, some ti29, some ti30, none], [some ti32, none, some ti34, some ti35, none, some ti37, none, some ti39, some ti40, none, some ti42, none, some ti44, none, none, none], [none, some ti49, some ti50, some ti51, some ti52, none, some ti54, some ti55, none, some ti57, some ti58, none, none, none, some ti62, none], [none, some ti65, none, none, none, some ti69, some ti70, none, none, none, none, none, none, none, none, none], [none, none, none, some ti83, none, none, none, some ti87, none, none, none, none, none, none, none, none], [none, none, none, none, some ti100, none, none, some ti103, some ti104, some ti105, some ti106, some ti107, some ti108, some ti109, some ti110, none], [some ti112, none, none, some ti115, none, none, none, none, some ti120, none, some ti122, none, none, none, some ti126, none], [none, none, none, none, some ti132, none, some ti134, some ti135, some ti136, some ti137, none, some ti139, none, some ti141, none, none], [none, some ti145, some ti146, none, none, none, some ti150, none, none, none, none, some ti155, none, none, none, none], [some ti160, none, none, none, none, none, none, some ti167, none, none, none, some ti171, some ti172, some ti173, none, none], [none, some ti177, none, none, none, none, some ti182, none, none, some ti185, none, none, none, none, none, none], [none, some ti193, none, none, some ti196, some ti197, none, none, some ti200, none, none, none, some ti204, none, none, none], [none, some ti209, none, none, none, some ti213, none, none, none, none, none, none, none, none, none, none], [none, none, none, none, none, none, none, none, none, none, none, none, none, none, none, some ti239], [none, none, none, none, none, none, none, none, none, none, none, none, none, none, none, none], [none, some ti257, none, some ti259, some ti260, none, some ti262, none, none, none, none, none, none, none, none, none], [none, some ti273, none, none, none, none, none, none, none, none, some ti282, none, some ti284, some ti285, none, none], [none, none, some ti290, some ti291, none, some ti293, some ti294, none, some ti296, none, none, none, some ti300, none, none, none], [none, some ti305, none, some ti307, some ti308, none, none, none, none, none, none, none, none, none, none, none], [none, none, none, none, none, none, none, none, some ti328, none, some ti330, none, some ti332, none, none, some ti335], [none, none, some ti338, none, none, none, none, none, none, none, some ti346, none, none, none, none, some ti351], [none, none, none, none, none, none, none, some ti359, none, none, none, none, none, none, none, none], [some ti368, some ti369, none, some ti371, none, some ti373, none, some ti375, none, none, none, none, none, none, none, none], [none, some ti385, none, some ti387, some ti388, some ti389, none, some ti391, none, none, none, none, none, none, some ti398, none], [none, none, none, some ti403, none, none, none, none, none, none, none, none, none, none, none, none], [none, none, none, none, none, none, some ti422, none, none, none, some ti426, none, none, some ti429, none, none]], ⟨⟨ty3, ⟨ty4, ⟨ty5, ⟨ty9, trivial⟩⟩⟩⟩, ⟨⟨ty23, ⟨ty24, ⟨ty27, ⟨ty29, ⟨ty30, trivial⟩⟩⟩⟩⟩, ⟨⟨ty32, ⟨ty34, ⟨ty35, ⟨ty37, ⟨ty39, ⟨ty40, ⟨ty42, ⟨ty44, trivial⟩⟩⟩⟩⟩⟩⟩⟩, ⟨⟨ty49, ⟨ty50, ⟨ty51, ⟨ty52, ⟨ty54, ⟨ty55, ⟨ty57, ⟨ty58, ⟨ty62, trivial⟩⟩⟩⟩⟩⟩⟩⟩⟩, ⟨⟨ty65, ⟨ty69, ⟨ty70, trivial⟩⟩⟩, ⟨⟨ty83, ⟨ty87, trivial⟩⟩, ⟨⟨ty100, ⟨ty103, ⟨ty104, ⟨ty105, ⟨ty106, ⟨ty107, ⟨ty108, ⟨ty109, ⟨ty110, trivial⟩⟩⟩⟩⟩⟩⟩⟩⟩, ⟨⟨ty112, ⟨ty115, ⟨ty120, ⟨ty122, ⟨ty126, trivial⟩⟩⟩⟩⟩, ⟨⟨ty132, ⟨ty134, ⟨ty135, ⟨ty136, ⟨ty137, ⟨ty139, ⟨ty141, trivial⟩⟩⟩⟩⟩⟩⟩, ⟨⟨ty145, ⟨ty146, ⟨ty150, ⟨ty155, trivial⟩⟩⟩⟩, ⟨⟨ty160, ⟨ty167, ⟨ty171, ⟨ty172, ⟨ty173, trivial⟩⟩⟩⟩⟩, ⟨⟨ty177, ⟨ty182, ⟨ty185, trivial⟩⟩⟩, ⟨⟨ty193, ⟨ty196, ⟨ty197, ⟨ty200, ⟨ty204, trivial⟩⟩⟩⟩⟩, ⟨⟨ty209, ⟨ty213, trivial⟩⟩, ⟨⟨ty239, trivial⟩, ⟨trivial, ⟨⟨ty257, ⟨ty259, ⟨ty260, ⟨ty262, trivial⟩⟩⟩⟩, ⟨⟨ty273, ⟨ty282, ⟨ty284, ⟨ty285, trivial⟩⟩⟩⟩, ⟨⟨ty290, ⟨ty291, ⟨ty293, ⟨ty294, ⟨ty296, ⟨ty300, trivial⟩⟩⟩⟩⟩⟩, ⟨⟨ty305, ⟨ty307, ⟨ty308, trivial⟩⟩⟩, ⟨⟨ty328, ⟨ty330, ⟨ty332, ⟨ty335, trivial⟩⟩⟩⟩, ⟨⟨ty338, ⟨ty346, ⟨ty351, trivial⟩⟩⟩, ⟨⟨ty359, trivial⟩, ⟨⟨ty368, ⟨ty369, ⟨ty371, ⟨ty373, ⟨ty375, trivial⟩⟩⟩⟩⟩, ⟨⟨ty385, ⟨ty387, ⟨ty388, ⟨ty389, ⟨ty391, ⟨ty398, trivial⟩⟩⟩⟩⟩⟩, ⟨⟨ty403, trivial⟩, ⟨⟨ty422, ⟨ty426, ⟨ty429, trivial⟩⟩⟩, trivial⟩⟩⟩⟩⟩⟩⟩⟩⟩⟩⟩⟩⟩⟩⟩⟩⟩⟩⟩⟩⟩⟩⟩⟩⟩⟩⟩⟩
instance : TMix Tryz.prog := ⟨by kernel_rfl⟩
instance : TKey Tryz.prog 3 it := TKey.int ⟨by kernel_rfl⟩
instance tf23 : TFlat Tryz.prog 23 [some .i64, some .i64, some .i64] := ⟨by kernel_rfl, by kernel_rfl, by kernel_rfl⟩
instance tf32 : TFlat Tryz.prog 32 [some .i64, some .i64] := ⟨by kernel_rfl, by kernel_rfl, by kernel_rfl⟩
instance : TKey Tryz.prog 32 it2 := TKey.pairOf tf32 (by kernel_rfl)
instance tf57 : TFlat Tryz.prog 57 [some .i64, some .i64, some .i64, some .i64, some .i64, some .i64, some .i64] := ⟨by kernel_rfl, by kernel_rfl, by kernel_rfl⟩
instance : TKey Tryz.prog 58 it := TKey.int ⟨by kernel_rfl⟩
instance tf62 : TFlat Tryz.prog 62 [some .i64, some .i64, some .i64, some .i64, some .i64, some .i64] := ⟨by kernel_rfl, by kernel_rfl, by kernel_rfl⟩
instance tf83 : TFlat Tryz.prog 83 [some .i64, some .i64, some .i64] := ⟨by kernel_rfl, by kernel_rfl, by kernel_rfl⟩
instance tf87 : TFlat Tryz.prog 87 [some .i64, some .i64, some .i64, some .i64, none] := ⟨by kernel_rfl, by kernel_rfl, by kernel_rfl⟩
instance tf160 : TFlat Tryz.prog 160 [some .i64, some .i64, none, none] := ⟨by kernel_rfl, by kernel_rfl, by kernel_rfl⟩
instance tf167 : TFlat Tryz.prog 167 [some .i64, some .i64, some .i64, some .i64, some .i64, some .i64] := ⟨by kernel_rfl, by kernel_rfl, by kernel_rfl⟩
instance tf182 : TFlat Tryz.prog 182 [some .u64, some .i64, some .i64, some .i64, some .i64, some .i64] := ⟨by kernel_rfl, by kernel_rfl, by kernel_rfl⟩
instance tf185 : TFlat Tryz.prog 185 [some .i64, some .i64, some .i64] := ⟨by kernel_rfl, by kernel_rfl, by kernel_rfl⟩
instance tf193 : TFlat Tryz.prog 193 [some .i64, some .i64] := ⟨by kernel_rfl, by kernel_rfl, by kernel_rfl⟩
instance : TKey Tryz.prog 193 it2 := TKey.pairOf tf193 (by kernel_rfl)
instance tf200 : TFlat Tryz.prog 200 [some .i64, some .i64] := ⟨by kernel_rfl, by kernel_rfl, by kernel_rfl⟩
instance : TKey Tryz.prog 200 it2 := TKey.pairOf tf200 (by kernel_rfl)
instance tf209 : TFlat Tryz.prog 209 [some .i64, some .i64] := ⟨by kernel_rfl, by kernel_rfl, by kernel_rfl⟩
instance : TKey Tryz.prog 209 it2 := TKey.pairOf tf209 (by kernel_rfl)
instance tf296 : TFlat Tryz.prog 296 [some .i64, none, some .i64, some .i64, none, none] := ⟨by kernel_rfl, by kernel_rfl, by kernel_rfl⟩
instance : TKey Tryz.prog 308 it := TKey.int ⟨by kernel_rfl⟩
instance tf332 : TFlat Tryz.prog 332 [some .i64, some .i64] := ⟨by kernel_rfl, by kernel_rfl, by kernel_rfl⟩
instance : TKey Tryz.prog 332 it2 := TKey.pairOf tf332 (by kernel_rfl)
instance tf373 : TFlat Tryz.prog 373 [some .i64, some .i64] := ⟨by kernel_rfl, by kernel_rfl, by kernel_rfl⟩
instance : TKey Tryz.prog 373 it2 := TKey.pairOf tf373 (by kernel_rfl)
instance tf375 : TFlat Tryz.prog 375 [some .i64, some .i64] := ⟨by kernel_rfl, by kernel_rfl, by kernel_rfl⟩
instance : TKey Tryz.prog 375 it2 := TKey.pairOf tf375 (by kernel_rfl)
instance : TKey Tryz.prog 391 it := TKey.int ⟨by kernel_rfl⟩
instance tf403 : TFlat Tryz.prog 403 [some .i64, some .i64] := ⟨by kernel_rfl, by kernel_rfl, by kernel_rfl⟩
instance : TKey Tryz.prog 403 it2 := TKey.pairOf tf403 (by kernel_rfl)
instance : TFun Tryz.prog 15 := TFun.of Tryz.func15 (by kernel_rfl) rfl
instance : TFun Tryz.prog 16 := TFun.of Tryz.func16 (by kernel_rfl) rfl
instance : TFun Tryz.prog 17 := TFun.of Tryz.func17 (by kernel_rfl) rfl
instance : TFun Tryz.prog 18 := TFun.of Tryz.func18 (by kernel_rfl) rfl
instance : TFun Tryz.prog 19 := TFun.of Tryz.func19 (by kernel_rfl) rfl
instance : TFun Tryz.prog 20 := TFun.of Tryz.func20 (by kernel_rfl) rfl
instance : TFun Tryz.prog 21 := TFun.of Tryz.func21 (by kernel_rfl) rfl
instance : TFun Tryz.prog 22 := TFun.of Tryz.func22 (by kernel_rfl) rfl
instance : TFun Tryz.prog 23 := TFun.of Tryz.func23 (by kernel_rfl) rfl
instance : TFun Tryz.prog 24 := TFun.of Tryz.func24 (by kernel_rfl) rfl
instance : TFun Tryz.prog 25 := TFun.of Tryz.func25 (by kernel_rfl) rfl
instance : TFun Tryz.prog 26 := TFun.of Tryz.func26 (by kernel_rfl) rfl
instance : TFun Tryz.prog 27 := TFun.of Tryz.func27 (by kernel_rfl) rfl
instance : TFun Tryz.prog 28 := TFun.of Tryz.func28 (by kernel_rfl) rfl
instance : TFun Tryz.prog 29 := TFun.of Tryz.func29 (by kernel_rfl) rfl
instance : TFun Tryz.prog 30 := TFun.of Tryz.func30 (by kernel_rfl) rfl
instance : TFun Tryz.prog 31 := TFun.of Tryz.func31 (by kernel_rfl) rfl
instance : TFun Tryz.prog 32 := TFun.of Tryz.func32 (by kernel_rfl) rfl
instance : TFun Tryz.prog 33 := TFun.of Tryz.func33 (by kernel_rfl) rfl
instance : TFun Tryz.prog 34 := TFun.of Tryz.func34 (by kernel_rfl) rfl
instance : TFun Tryz.prog 35 := TFun.of Tryz.func35 (by kernel_rfl) rfl
instance : TFun Tryz.prog 36 := TFun.of Tryz.func36 (by kernel_rfl) rfl
instance : TFun Tryz.prog 37 := TFun.of Tryz.func37 (by kernel_rfl) rfl
instance : TFun Tryz.prog 38 := TFun.of Tryz.func38 (by kernel_rfl) rfl
instance : TFun Tryz.prog 39 := TFun.of Tryz.func39 (by kernel_rfl) rfl
instance : TFun Tryz.prog 40 := TFun.of Tryz.func40 (by kernel_rfl) rfl
instance : TFun Tryz.prog 41 := TFun.of Tryz.func41 (by kernel_rfl) rfl
instance : TFun Tryz.prog 42 := TFun.of Tryz.func42 (by kernel_rfl) rfl
instance : TFun Tryz.prog 43 := TFun.of Tryz.func43 (by kernel_rfl) rfl
instance : TFun Tryz.prog 44 := TFun.of Tryz.func44 (by kernel_rfl) rfl
instance : TFun Tryz.prog 45 := TFun.of Tryz.func45 (by kernel_rfl) rfl
instance : TFun Tryz.prog 46 := TFun.of Tryz.func46 (by kernel_rfl) rfl
instance : TFun Tryz.prog 47 := TFun.of Tryz.func47 (by kernel_rfl) rfl
instance : TFun Tryz.prog 48 := TFun.of Tryz.func48 (by kernel_rfl) rfl
instance : TFun Tryz.prog 49 := TFun.of Tryz.func49 (by kernel_rfl) rfl
instance : TFun Tryz.prog 50 := TFun.of Tryz.func50 (by kernel_rfl) rfl
instance : TFun Tryz.prog 51 := TFun.of Tryz.func51 (by kernel_rfl) rfl
instance : TFun Tryz.prog 52 := TFun.of Tryz.func52 (by kernel_rfl) rfl
instance : TFun Tryz.prog 53 := TFun.of Tryz.func53 (by kernel_rfl) rfl
instance : TFun Tryz.prog 54 := TFun.of Tryz.func54 (by kernel_rfl) rfl
instance : TFun Tryz.prog 55 := TFun.of Tryz.func55 (by kernel_rfl) rfl
instance : TFun Tryz.prog 56 := TFun.of Tryz.func56 (by kernel_rfl) rfl
instance : TFun Tryz.prog 57 := TFun.of Tryz.func57 (by kernel_rfl) rfl
instance : TFun Tryz.prog 58 := TFun.of Tryz.func58 (by kernel_rfl) rfl
instance : TFun Tryz.prog 59 := TFun.of Tryz.func59 (by kernel_rfl) rfl
instance : TFun Tryz.prog 60 := TFun.of Tryz.func60 (by kernel_rfl) rfl
instance : TFun Tryz.prog 61 := TFun.of Tryz.func61 (by kernel_rfl) rfl
instance : TFun Tryz.prog 62 := TFun.of Tryz.func62 (by kernel_rfl) rfl
instance : TFun Tryz.prog 63 := TFun.of Tryz.func63 (by kernel_rfl) rfl
instance : TFun Tryz.prog 64 := TFun.of Tryz.func64 (by kernel_rfl) rfl
instance : TFun Tryz.prog 65 := TFun.of Tryz.func65 (by kernel_rfl) rfl
instance : TFun Tryz.prog 66 := TFun.of Tryz.func66 (by kernel_rfl) rfl
instance : TFun Tryz.prog 67 := TFun.of Tryz.func67 (by kernel_rfl) rfl
instance : TFun Tryz.prog 68 := TFun.of Tryz.func68 (by kernel_rfl) rfl
instance : TFun Tryz.prog 69 := TFun.of Tryz.func69 (by kernel_rfl) rfl
instance : TFun Tryz.prog 70 := TFun.of Tryz.func70 (by kernel_rfl) rfl
instance : TFun Tryz.prog 71 := TFun.of Tryz.func71 (by kernel_rfl) rfl
instance : TFun Tryz.prog 72 := TFun.of Tryz.func72 (by kernel_rfl) rfl
instance : TFun Tryz.prog 73 := TFun.of Tryz.func73 (by kernel_rfl) rfl
instance : TFun Tryz.prog 74 := TFun.of Tryz.func74 (by kernel_rfl) rfl
instance : TFun Tryz.prog 75 := TFun.of Tryz.func75 (by kernel_rfl) rfl
instance : TFun Tryz.prog 76 := TFun.of Tryz.func76 (by kernel_rfl) rfl
instance : TFun Tryz.prog 77 := TFun.of Tryz.func77 (by kernel_rfl) rfl
instance : TFun Tryz.prog 78 := TFun.of Tryz.func78 (by kernel_rfl) rfl
instance : TFun Tryz.prog 79 := TFun.of Tryz.func79 (by kernel_rfl) rfl
instance : TFun Tryz.prog 80 := TFun.of Tryz.func80 (by kernel_rfl) rfl
instance : TFun Tryz.prog 81 := TFun.of Tryz.func81 (by kernel_rfl) rfl
instance : TFun Tryz.prog 82 := TFun.of Tryz.func82 (by kernel_rfl) rfl
instance : TFun Tryz.prog 83 := TFun.of Tryz.func83 (by kernel_rfl) rfl
instance : TFun Tryz.prog 84 := TFun.of Tryz.func84 (by kernel_rfl) rfl
instance : TFun Tryz.prog 85 := TFun.of Tryz.func85 (by kernel_rfl) rfl
instance : TFun Tryz.prog 86 := TFun.of Tryz.func86 (by kernel_rfl) rfl
instance : TFun Tryz.prog 87 := TFun.of Tryz.func87 (by kernel_rfl) rfl
instance : TFun Tryz.prog 88 := TFun.of Tryz.func88 (by kernel_rfl) rfl
instance : TFun Tryz.prog 89 := TFun.of Tryz.func89 (by kernel_rfl) rfl
instance : TFun Tryz.prog 90 := TFun.of Tryz.func90 (by kernel_rfl) rfl
instance : TFun Tryz.prog 91 := TFun.of Tryz.func91 (by kernel_rfl) rfl
instance : TFun Tryz.prog 92 := TFun.of Tryz.func92 (by kernel_rfl) rfl
instance : TFun Tryz.prog 93 := TFun.of Tryz.func93 (by kernel_rfl) rfl
instance : TFun Tryz.prog 94 := TFun.of Tryz.func94 (by kernel_rfl) rfl
instance : TFun Tryz.prog 95 := TFun.of Tryz.func95 (by kernel_rfl) rfl
instance : TFun Tryz.prog 96 := TFun.of Tryz.func96 (by kernel_rfl) rfl
instance : TFun Tryz.prog 97 := TFun.of Tryz.func97 (by kernel_rfl) rfl
instance : TFun Tryz.prog 98 := TFun.of Tryz.func98 (by kernel_rfl) rfl
instance : TFun Tryz.prog 99 := TFun.of Tryz.func99 (by kernel_rfl) rfl
instance : TFun Tryz.prog 100 := TFun.of Tryz.func100 (by kernel_rfl) rfl
instance : TFun Tryz.prog 101 := TFun.of Tryz.func101 (by kernel_rfl) rfl
instance : TFun Tryz.prog 102 := TFun.of Tryz.func102 (by kernel_rfl) rfl
instance : TFun Tryz.prog 103 := TFun.of Tryz.func103 (by kernel_rfl) rfl
instance : TFun Tryz.prog 104 := TFun.of Tryz.func104 (by kernel_rfl) rfl
instance : TFun Tryz.prog 105 := TFun.of Tryz.func105 (by kernel_rfl) rfl
instance : TFun Tryz.prog 106 := TFun.of Tryz.func106 (by kernel_rfl) rfl
instance : TFun Tryz.prog 107 := TFun.of Tryz.func107 (by kernel_rfl) rfl
instance : TFun Tryz.prog 108 := TFun.of Tryz.func108 (by kernel_rfl) rfl
instance : TFun Tryz.prog 109 := TFun.of Tryz.func109 (by kernel_rfl) rfl
instance : TFun Tryz.prog 110 := TFun.of Tryz.func110 (by kernel_rfl) rfl
instance : TFun Tryz.prog 111 := TFun.of Tryz.func111 (by kernel_rfl) rfl
instance : TFun Tryz.prog 112 := TFun.of Tryz.func112 (by kernel_rfl) rfl
instance : TFun Tryz.prog 113 := TFun.of Tryz.func113 (by kernel_rfl) rfl
instance : TFun Tryz.prog 114 := TFun.of Tryz.func114 (by kernel_rfl) rfl
instance : TFun Tryz.prog 115 := TFun.of Tryz.func115 (by kernel_rfl) rfl
instance : TFun Tryz.prog 116 := TFun.of Tryz.func116 (by kernel_rfl) rfl
instance : TFun Tryz.prog 117 := TFun.of Tryz.func117 (by kernel_rfl) rfl
instance : TFun Tryz.prog 118 := TFun.of Tryz.func118 (by kernel_rfl) rfl
instance : TFun Tryz.prog 119 := TFun.of Tryz.func119 (by kernel_rfl) rfl
instance : TFun Tryz.prog 120 := TFun.of Tryz.func120 (by kernel_rfl) rfl
instance : TFun Tryz.prog 121 := TFun.of Tryz.func121 (by kernel_rfl) rfl
instance : TFun Tryz.prog 122 := TFun.of Tryz.func122 (by kernel_rfl) rfl
instance : TFun Tryz.prog 123 := TFun.of Tryz.func123 (by kernel_rfl) rfl
instance : TFun Tryz.prog 124 := TFun.of Tryz.func124 (by kernel_rfl) rfl
instance : TFun Tryz.prog 125 := TFun.of Tryz.func125 (by kernel_rfl) rfl
instance : TFun Tryz.prog 126 := TFun.of Tryz.func126 (by kernel_rfl) rfl
instance : TFun Tryz.prog 127 := TFun.of Tryz.func127 (by kernel_rfl) rfl
instance : TFun Tryz.prog 128 := TFun.of Tryz.func128 (by kernel_rfl) rfl
instance : TFun Tryz.prog 129 := TFun.of Tryz.func129 (by kernel_rfl) rfl
instance : TFun Tryz.prog 130 := TFun.of Tryz.func130 (by kernel_rfl) rfl
instance : TFun Tryz.prog 131 := TFun.of Tryz.func131 (by kernel_rfl) rfl
instance : TFun Tryz.prog 132 := TFun.of Tryz.func132 (by kernel_rfl) rfl
instance : TFun Tryz.prog 133 := TFun.of Tryz.func133 (by kernel_rfl) rfl
instance : TFun Tryz.prog 134 := TFun.of Tryz.func134 (by kernel_rfl) rfl
instance : TFun Tryz.prog 135 := TFun.of Tryz.func135 (by kernel_rfl) rfl
instance : TFun Tryz.prog 136 := TFun.of Tryz.func136 (by kernel_rfl) rfl
instance : TFun Tryz.prog 137 := TFun.of Tryz.func137 (by kernel_rfl) rfl
instance : TFun Tryz.prog 138 := TFun.of Tryz.func138 (by kernel_rfl) rfl
instance : TFun Tryz.prog 139 := TFun.of Tryz.func139 (by kernel_rfl) rfl
instance : TFun Tryz.prog 140 := TFun.of Tryz.func140 (by kernel_rfl) rfl
instance : TFun Tryz.prog 141 := TFun.of Tryz.func141 (by kernel_rfl) rfl
instance : TFun Tryz.prog 142 := TFun.of Tryz.func142 (by kernel_rfl) rfl
instance : TFun Tryz.prog 143 := TFun.of Tryz.func143 (by kernel_rfl) rfl
instance : TFun Tryz.prog 144 := TFun.of Tryz.func144 (by kernel_rfl) rfl
instance : TFun Tryz.prog 145 := TFun.of Tryz.func145 (by kernel_rfl) rfl
instance : TFun Tryz.prog 146 := TFun.of Tryz.func146 (by kernel_rfl) rfl
instance : TFun Tryz.prog 147 := TFun.of Tryz.func147 (by kernel_rfl) rfl
instance : TFun Tryz.prog 148 := TFun.of Tryz.func148 (by kernel_rfl) rfl
instance : TFun Tryz.prog 149 := TFun.of Tryz.func149 (by kernel_rfl) rfl
instance : TFun Tryz.prog 150 := TFun.of Tryz.func150 (by kernel_rfl) rfl
instance : TFun Tryz.prog 151 := TFun.of Tryz.func151 (by kernel_rfl) rfl
instance : TFun Tryz.prog 152 := TFun.of Tryz.func152 (by kernel_rfl) rfl
instance : TFun Tryz.prog 153 := TFun.of Tryz.func153 (by kernel_rfl) rfl
instance : TFun Tryz.prog 154 := TFun.of Tryz.func154 (by kernel_rfl) rfl
instance : TFun Tryz.prog 155 := TFun.of Tryz.func155 (by kernel_rfl) rfl
instance : TFun Tryz.prog 156 := TFun.of Tryz.func156 (by kernel_rfl) rfl
instance : TFun Tryz.prog 157 := TFun.of Tryz.func157 (by kernel_rfl) rfl
instance : TFun Tryz.prog 158 := TFun.of Tryz.func158 (by kernel_rfl) rfl
instance : TFun Tryz.prog 159 := TFun.of Tryz.func159 (by kernel_rfl) rfl
instance : TFun Tryz.prog 160 := TFun.of Tryz.func160 (by kernel_rfl) rfl
instance : TFun Tryz.prog 161 := TFun.of Tryz.func161 (by kernel_rfl) rfl
instance : TFun Tryz.prog 162 := TFun.of Tryz.func162 (by kernel_rfl) rfl
instance : TFun Tryz.prog 163 := TFun.of Tryz.func163 (by kernel_rfl) rfl
instance : TFun Tryz.prog 164 := TFun.of Tryz.func164 (by kernel_rfl) rfl
instance : TFun Tryz.prog 165 := TFun.of Tryz.func165 (by kernel_rfl) rfl
instance : TFun Tryz.prog 166 := TFun.of Tryz.func166 (by kernel_rfl) rfl
instance : TFun Tryz.prog 167 := TFun.of Tryz.func167 (by kernel_rfl) rfl
instance : TFun Tryz.prog 168 := TFun.of Tryz.func168 (by kernel_rfl) rfl
instance : TFun Tryz.prog 169 := TFun.of Tryz.func169 (by kernel_rfl) rfl
instance : TFun Tryz.prog 170 := TFun.of Tryz.func170 (by kernel_rfl) rfl
instance : TFun Tryz.prog 171 := TFun.of Tryz.func171 (by kernel_rfl) rfl
instance : TFun Tryz.prog 172 := TFun.of Tryz.func172 (by kernel_rfl) rfl
instance : TFun Tryz.prog 173 := TFun.of Tryz.func173 (by kernel_rfl) rfl
instance : TFun Tryz.prog 174 := TFun.of Tryz.func174 (by kernel_rfl) rfl
instance : TFun Tryz.prog 175 := TFun.of Tryz.func175 (by kernel_rfl) rfl
instance : TFun Tryz.prog 176 := TFun.of Tryz.func176 (by kernel_rfl) rfl
instance : TFun Tryz.prog 177 := TFun.of Tryz.func177 (by kernel_rfl) rfl
instance : TFun Tryz.prog 178 := TFun.of Tryz.func178 (by kernel_rfl) rfl
instance : TFun Tryz.prog 179 := TFun.of Tryz.func179 (by kernel_rfl) rfl
instance : TFun Tryz.prog 180 := TFun.of Tryz.func180 (by kernel_rfl) rfl
instance : TFun Tryz.prog 181 := TFun.of Tryz.func181 (by kernel_rfl) rfl
instance : TFun Tryz.prog 182 := TFun.of Tryz.func182 (by kernel_rfl) rfl
instance : TFun Tryz.prog 183 := TFun.of Tryz.func183 (by kernel_rfl) rfl
instance : TFun Tryz.prog 184 := TFun.of Tryz.func184 (by kernel_rfl) rfl
instance : TFun Tryz.prog 185 := TFun.of Tryz.func185 (by kernel_rfl) rfl
instance : TFun Tryz.prog 186 := TFun.of Tryz.func186 (by kernel_rfl) rfl
instance : TFun Tryz.prog 187 := TFun.of Tryz.func187 (by kernel_rfl) rfl
instance : TFun Tryz.prog 188 := TFun.of Tryz.func188 (by kernel_rfl) rfl
instance : TFun Tryz.prog 189 := TFun.of Tryz.func189 (by kernel_rfl) rfl
instance : TFun Tryz.prog 190 := TFun.of Tryz.func190 (by kernel_rfl) rfl
instance : TFun Tryz.prog 191 := TFun.of Tryz.func191 (by kernel_rfl) rfl
instance : TFun Tryz.prog 192 := TFun.of Tryz.func192 (by kernel_rfl) rfl
instance : TFun Tryz.prog 193 := TFun.of Tryz.func193 (by kernel_rfl) rfl
instance : TFun Tryz.prog 194 := TFun.of Tryz.func194 (by kernel_rfl) rfl
instance : TFun Tryz.prog 195 := TFun.of Tryz.func195 (by kernel_rfl) rfl
instance : TFun Tryz.prog 196 := TFun.of Tryz.func196 (by kernel_rfl) rfl
instance : TFun Tryz.prog 197 := TFun.of Tryz.func197 (by kernel_rfl) rfl
instance : TFun Tryz.prog 198 := TFun.of Tryz.func198 (by kernel_rfl) rfl
instance : TFun Tryz.prog 199 := TFun.of Tryz.func199 (by kernel_rfl) rfl
instance : TFun Tryz.prog 200 := TFun.of Tryz.func200 (by kernel_rfl) rfl
instance : TFun Tryz.prog 201 := TFun.of Tryz.func201 (by kernel_rfl) rfl
instance : TFun Tryz.prog 202 := TFun.of Tryz.func202 (by kernel_rfl) rfl
instance : TFun Tryz.prog 203 := TFun.of Tryz.func203 (by kernel_rfl) rfl
instance : TFun Tryz.prog 204 := TFun.of Tryz.func204 (by kernel_rfl) rfl
instance : TFun Tryz.prog 205 := TFun.of Tryz.func205 (by kernel_rfl) rfl
instance : TFun Tryz.prog 206 := TFun.of Tryz.func206 (by kernel_rfl) rfl
instance : TFun Tryz.prog 207 := TFun.of Tryz.func207 (by kernel_rfl) rfl
instance : TFun Tryz.prog 208 := TFun.of Tryz.func208 (by kernel_rfl) rfl
instance : TFun Tryz.prog 209 := TFun.of Tryz.func209 (by kernel_rfl) rfl
instance : TFun Tryz.prog 210 := TFun.of Tryz.func210 (by kernel_rfl) rfl
instance : TFun Tryz.prog 211 := TFun.of Tryz.func211 (by kernel_rfl) rfl
instance : TFun Tryz.prog 212 := TFun.of Tryz.func212 (by kernel_rfl) rfl
instance : TFun Tryz.prog 213 := TFun.of Tryz.func213 (by kernel_rfl) rfl
instance : TFun Tryz.prog 214 := TFun.of Tryz.func214 (by kernel_rfl) rfl
instance : TFun Tryz.prog 215 := TFun.of Tryz.func215 (by kernel_rfl) rfl
instance : TFun Tryz.prog 216 := TFun.of Tryz.func216 (by kernel_rfl) rfl
instance : TFun Tryz.prog 217 := TFun.of Tryz.func217 (by kernel_rfl) rfl
instance : TFun Tryz.prog 219 := TFun.of Tryz.func219 (by kernel_rfl) rfl
instance : TFun Tryz.prog 220 := TFun.of Tryz.func220 (by kernel_rfl) rfl
instance : TFun Tryz.prog 221 := TFun.of Tryz.func221 (by kernel_rfl) rfl
instance : TFun Tryz.prog 222 := TFun.of Tryz.func222 (by kernel_rfl) rfl
instance : TFun Tryz.prog 223 := TFun.of Tryz.func223 (by kernel_rfl) rfl
instance : TFun Tryz.prog 224 := TFun.of Tryz.func224 (by kernel_rfl) rfl
instance : TFun Tryz.prog 225 := TFun.of Tryz.func225 (by kernel_rfl) rfl
instance : TFun Tryz.prog 226 := TFun.of Tryz.func226 (by kernel_rfl) rfl
instance : TFun Tryz.prog 227 := TFun.of Tryz.func227 (by kernel_rfl) rfl
instance : TFun Tryz.prog 228 := TFun.of Tryz.func228 (by kernel_rfl) rfl
instance : TFun Tryz.prog 229 := TFun.of Tryz.func229 (by kernel_rfl) rfl
instance : TFun Tryz.prog 230 := TFun.of Tryz.func230 (by kernel_rfl) rfl
instance : TFun Tryz.prog 231 := TFun.of Tryz.func231 (by kernel_rfl) rfl
instance : TFun Tryz.prog 232 := TFun.of Tryz.func232 (by kernel_rfl) rfl
instance : TFun Tryz.prog 233 := TFun.of Tryz.func233 (by kernel_rfl) rfl
instance : TFun Tryz.prog 234 := TFun.of Tryz.func234 (by kernel_rfl) rfl
instance : TFun Tryz.prog 235 := TFun.of Tryz.func235 (by kernel_rfl) rfl
instance : TFun Tryz.prog 236 := TFun.of Tryz.func236 (by kernel_rfl) rfl
instance : TFun Tryz.prog 237 := TFun.of Tryz.func237 (by kernel_rfl) rfl
instance : TFun Tryz.prog 238 := TFun.of Tryz.func238 (by kernel_rfl) rfl
instance : TFun Tryz.prog 239 := TFun.of Tryz.func239 (by kernel_rfl) rfl
instance : TFun Tryz.prog 240 := TFun.of Tryz.func240 (by kernel_rfl) rfl
instance : TFun Tryz.prog 241 := TFun.of Tryz.func241 (by kernel_rfl) rfl
instance : TFun Tryz.prog 242 := TFun.of Tryz.func242 (by kernel_rfl) rfl
instance : TFun Tryz.prog 243 := TFun.of Tryz.func243 (by kernel_rfl) rfl
instance : TFun Tryz.prog 244 := TFun.of Tryz.func244 (by kernel_rfl) rfl
instance : TFun Tryz.prog 245 := TFun.of Tryz.func245 (by kernel_rfl) rfl
instance : TFun Tryz.prog 246 := TFun.of Tryz.func246 (by kernel_rfl) rfl
instance : TFun Tryz.prog 247 := TFun.of Tryz.func247 (by kernel_rfl) rfl
instance : TFun Tryz.prog 248 := TFun.of Tryz.func248 (by kernel_rfl) rfl
instance : TFun Tryz.prog 249 := TFun.of Tryz.func249 (by kernel_rfl) rfl
instance : TFun Tryz.prog 250 := TFun.of Tryz.func250 (by kernel_rfl) rfl
instance : TFun Tryz.prog 251 := TFun.of Tryz.func251 (by kernel_rfl) rfl
instance : TFun Tryz.prog 252 := TFun.of Tryz.func252 (by kernel_rfl) rfl
instance : TFun Tryz.prog 253 := TFun.of Tryz.func253 (by kernel_rfl) rfl
instance : TFun Tryz.prog 254 := TFun.of Tryz.func254 (by kernel_rfl) rfl
instance : TFun Tryz.prog 255 := TFun.of Tryz.func255 (by kernel_rfl) rfl
instance : TFun Tryz.prog 256 := TFun.of Tryz.func256 (by kernel_rfl) rfl
instance : TFun Tryz.prog 257 := TFun.of Tryz.func257 (by kernel_rfl) rfl
instance : TFun Tryz.prog 258 := TFun.of Tryz.func258 (by kernel_rfl) rfl
instance : TFun Tryz.prog 259 := TFun.of Tryz.func259 (by kernel_rfl) rfl
instance : TFun Tryz.prog 260 := TFun.of Tryz.func260 (by kernel_rfl) rfl
instance : TFun Tryz.prog 261 := TFun.of Tryz.func261 (by kernel_rfl) rfl
instance : TFun Tryz.prog 262 := TFun.of Tryz.func262 (by kernel_rfl) rfl
instance : TFun Tryz.prog 263 := TFun.of Tryz.func263 (by kernel_rfl) rfl
instance : TFun Tryz.prog 264 := TFun.of Tryz.func264 (by kernel_rfl) rfl
instance : TFun Tryz.prog 265 := TFun.of Tryz.func265 (by kernel_rfl) rfl
instance : TFun Tryz.prog 266 := TFun.of Tryz.func266 (by kernel_rfl) rfl
instance : TFun Tryz.prog 267 := TFun.of Tryz.func267 (by kernel_rfl) rfl
instance : TFun Tryz.prog 268 := TFun.of Tryz.func268 (by kernel_rfl) rfl
instance : TFun Tryz.prog 269 := TFun.of Tryz.func269 (by kernel_rfl) rfl
instance : TFun Tryz.prog 270 := TFun.of Tryz.func270 (by kernel_rfl) rfl
instance : TFun Tryz.prog 271 := TFun.of Tryz.func271 (by kernel_rfl) rfl
instance : TFun Tryz.prog 272 := TFun.of Tryz.func272 (by kernel_rfl) rfl
instance : TFun Tryz.prog 273 := TFun.of Tryz.func273 (by kernel_rfl) rfl
instance : TFun Tryz.prog 274 := TFun.of Tryz.func274 (by kernel_rfl) rfl
instance : TFun Tryz.prog 275 := TFun.of Tryz.func275 (by kernel_rfl) rfl
instance : TFun Tryz.prog 276 := TFun.of Tryz.func276 (by kernel_rfl) rfl
instance : TFun Tryz.prog 277 := TFun.of Tryz.func277 (by kernel_rfl) rfl
instance : TFun Tryz.prog 278 := TFun.of Tryz.func278 (by kernel_rfl) rfl
instance : TFun Tryz.prog 279 := TFun.of Tryz.func279 (by kernel_rfl) rfl
instance : TFun Tryz.prog 280 := TFun.of Tryz.func280 (by kernel_rfl) rfl
instance : TFun Tryz.prog 281 := TFun.of Tryz.func281 (by kernel_rfl) rfl
instance : TFun Tryz.prog 282 := TFun.of Tryz.func282 (by kernel_rfl) rfl
instance : TFun Tryz.prog 283 := TFun.of Tryz.func283 (by kernel_rfl) rfl
instance : TFun Tryz.prog 284 := TFun.of Tryz.func284 (by kernel_rfl) rfl
instance : TFun Tryz.prog 285 := TFun.of Tryz.func285 (by kernel_rfl) rfl
instance : TFun Tryz.prog 286 := TFun.of Tryz.func286 (by kernel_rfl) rfl
instance : TFun Tryz.prog 287 := TFun.of Tryz.func287 (by kernel_rfl) rfl
instance : TFun Tryz.prog 288 := TFun.of Tryz.func288 (by kernel_rfl) rfl
instance : TFun Tryz.prog 289 := TFun.of Tryz.func289 (by kernel_rfl) rfl
instance : TFun Tryz.prog 290 := TFun.of Tryz.func290 (by kernel_rfl) rfl
instance : TFun Tryz.prog 291 := TFun.of Tryz.func291 (by kernel_rfl) rfl
instance : TFun Tryz.prog 292 := TFun.of Tryz.func292 (by kernel_rfl) rfl
instance : TFun Tryz.prog 293 := TFun.of Tryz.func293 (by kernel_rfl) rfl
instance : TFun Tryz.prog 294 := TFun.of Tryz.func294 (by kernel_rfl) rfl
instance : TFun Tryz.prog 295 := TFun.of Tryz.func295 (by kernel_rfl) rfl
instance : TFun Tryz.prog 296 := TFun.of Tryz.func296 (by kernel_rfl) rfl
instance : TFun Tryz.prog 297 := TFun.of Tryz.func297 (by kernel_rfl) rfl
instance : TFun Tryz.prog 298 := TFun.of Tryz.func298 (by kernel_rfl) rfl
instance : TFun Tryz.prog 299 := TFun.of Tryz.func299 (by kernel_rfl) rfl
instance : TFun Tryz.prog 300 := TFun.of Tryz.func300 (by kernel_rfl) rfl
instance : TFun Tryz.prog 301 := TFun.of Tryz.func301 (by kernel_rfl) rfl
instance : TFun Tryz.prog 302 := TFun.of Tryz.func302 (by kernel_rfl) rfl
instance : TFun Tryz.prog 303 := TFun.of Tryz.func303 (by kernel_rfl) rfl
instance : TFun Tryz.prog 304 := TFun.of Tryz.func304 (by kernel_rfl) rfl
instance : TFun Tryz.prog 305 := TFun.of Tryz.func305 (by kernel_rfl) rfl
instance : TFun Tryz.prog 306 := TFun.of Tryz.func306 (by kernel_rfl) rfl
instance : TFun Tryz.prog 308 := TFun.of Tryz.func308 (by kernel_rfl) rfl
instance : TFun Tryz.prog 309 := TFun.of Tryz.func309 (by kernel_rfl) rfl
instance : TFun Tryz.prog 310 := TFun.of Tryz.func310 (by kernel_rfl) rfl
instance : TFun Tryz.prog 311 := TFun.of Tryz.func311 (by kernel_rfl) rfl
instance : TFun Tryz.prog 312 := TFun.of Tryz.func312 (by kernel_rfl) rfl
instance : TFun Tryz.prog 313 := TFun.of Tryz.func313 (by kernel_rfl) rfl
instance : TFun Tryz.prog 314 := TFun.of Tryz.func314 (by kernel_rfl) rfl
instance : TFun Tryz.prog 315 := TFun.of Tryz.func315 (by kernel_rfl) rfl
instance : TFun Tryz.prog 316 := TFun.of Tryz.func316 (by kernel_rfl) rfl
instance : TFun Tryz.prog 317 := TFun.of Tryz.func317 (by kernel_rfl) rfl
instance : TFun Tryz.prog 318 := TFun.of Tryz.func318 (by kernel_rfl) rfl
instance : TFun Tryz.prog 319 := TFun.of Tryz.func319 (by kernel_rfl) rfl
instance : TFun Tryz.prog 320 := TFun.of Tryz.func320 (by kernel_rfl) rfl
instance : TFun Tryz.prog 321 := TFun.of Tryz.func321 (by kernel_rfl) rfl
instance : TFun Tryz.prog 322 := TFun.of Tryz.func322 (by kernel_rfl) rfl
instance : TFun Tryz.prog 323 := TFun.of Tryz.func323 (by kernel_rfl) rfl
instance : TFun Tryz.prog 324 := TFun.of Tryz.func324 (by kernel_rfl) rfl
instance : TFun Tryz.prog 325 := TFun.of Tryz.func325 (by kernel_rfl) rfl
instance : TFun Tryz.prog 326 := TFun.of Tryz.func326 (by kernel_rfl) rfl
instance : TFun Tryz.prog 327 := TFun.of Tryz.func327 (by kernel_rfl) rfl
instance : TFun Tryz.prog 328 := TFun.of Tryz.func328 (by kernel_rfl) rfl
instance : TFun Tryz.prog 329 := TFun.of Tryz.func329 (by kernel_rfl) rfl
instance : TFun Tryz.prog 330 := TFun.of Tryz.func330 (by kernel_rfl) rfl
instance : TFun Tryz.prog 331 := TFun.of Tryz.func331 (by kernel_rfl) rfl
instance : TFun Tryz.prog 332 := TFun.of Tryz.func332 (by kernel_rfl) rfl
instance : TFun Tryz.prog 333 := TFun.of Tryz.func333 (by kernel_rfl) rfl
instance : TFun Tryz.prog 334 := TFun.of Tryz.func334 (by kernel_rfl) rfl
instance : TFun Tryz.prog 335 := TFun.of Tryz.func335 (by kernel_rfl) rfl
instance : TFun Tryz.prog 336 := TFun.of Tryz.func336 (by kernel_rfl) rfl
instance : TFun Tryz.prog 337 := TFun.of Tryz.func337 (by kernel_rfl) rfl
instance : TFun Tryz.prog 338 := TFun.of Tryz.func338 (by kernel_rfl) rfl
instance : TFun Tryz.prog 339 := TFun.of Tryz.func339 (by kernel_rfl) rfl
instance : TFun Tryz.prog 340 := TFun.of Tryz.func340 (by kernel_rfl) rfl
instance : TFun Tryz.prog 341 := TFun.of Tryz.func341 (by kernel_rfl) rfl
instance : TFun Tryz.prog 342 := TFun.of Tryz.func342 (by kernel_rfl) rfl
instance : TFun Tryz.prog 343 := TFun.of Tryz.func343 (by kernel_rfl) rfl
instance : TFun Tryz.prog 344 := TFun.of Tryz.func344 (by kernel_rfl) rfl
instance : TFun Tryz.prog 345 := TFun.of Tryz.func345 (by kernel_rfl) rfl
instance : TFun Tryz.prog 346 := TFun.of Tryz.func346 (by kernel_rfl) rfl
instance : TFun Tryz.prog 347 := TFun.of Tryz.func347 (by kernel_rfl) rfl
instance : TFun Tryz.prog 348 := TFun.of Tryz.func348 (by kernel_rfl) rfl
instance : TFun Tryz.prog 349 := TFun.of Tryz.func349 (by kernel_rfl) rfl
instance : TFun Tryz.prog 350 := TFun.of Tryz.func350 (by kernel_rfl) rfl
instance : TFun Tryz.prog 351 := TFun.of Tryz.func351 (by kernel_rfl) rfl
instance : TFun Tryz.prog 352 := TFun.of Tryz.func352 (by kernel_rfl) rfl
instance : TFun Tryz.prog 353 := TFun.of Tryz.func353 (by kernel_rfl) rfl
instance : TFun Tryz.prog 354 := TFun.of Tryz.func354 (by kernel_rfl) rfl
instance : TFun Tryz.prog 355 := TFun.of Tryz.func355 (by kernel_rfl) rfl
instance : TFun Tryz.prog 356 := TFun.of Tryz.func356 (by kernel_rfl) rfl
instance : TFun Tryz.prog 357 := TFun.of Tryz.func357 (by kernel_rfl) rfl
instance : TFun Tryz.prog 358 := TFun.of Tryz.func358 (by kernel_rfl) rfl
instance : TFun Tryz.prog 359 := TFun.of Tryz.func359 (by kernel_rfl) rfl
instance : TFun Tryz.prog 360 := TFun.of Tryz.func360 (by kernel_rfl) rfl
instance : TFun Tryz.prog 361 := TFun.of Tryz.func361 (by kernel_rfl) rfl
instance : TFun Tryz.prog 362 := TFun.of Tryz.func362 (by kernel_rfl) rfl
instance : TFun Tryz.prog 363 := TFun.of Tryz.func363 (by kernel_rfl) rfl
def pl6 : Nat → Tr
  | 21 => .one 0 0 (.one 1 0 (.one 2 0 (.one 3 0 (.one 4 0 (.one 5 0 (.one 6 0 (.one 7 0 (.one 8 0 (.one 9 0 (.one 10 0 (.one 11 0 (.one 12 0 (.one 13 0 (.one 14 0 (.one 15 0 (.one 16 0 (.one 17 0 (.one 18 0 (.one 19 0 (.one 20 0 (.one 23 0 (.one 21 1 (.one 24 1 (.prm 22 [24] (.one 25 0 (.one 26 0 (.one 27 0 (.one 28 0 (.one 29 0 (.one 30 0 (.one 33 0 (.one 31 1 (.one 34 1 (.prm 32 [34] (.one 35 0 (.one 36 0 (.one 37 0 (Tr.done))))))))))))))))))))))))))))))))))))))
  | _ => .done
def pl7 : Nat → Tr
  | 9 => .one 0 0 (.one 1 0 (.one 2 0 (.one 4 0 (.one 5 0 (.one 6 0 (.one 7 0 (.one 8 0 (.one 9 0 (.one 3 1 (.one 10 2 (.one 11 0 (.one 12 0 (.one 13 0 (.one 14 0 (.one 15 0 (Tr.done))))))))))))))))
  | _ => .done
def pl9 : Nat → Tr
  | 6 => .one 0 0 (.one 1 0 (.one 2 0 (.one 7 0 (.one 3 1 (.one 4 0 (.one 5 0 (.one 6 1 (.one 8 1 (.one 9 2 (.one 10 0 (.one 11 0 (.one 12 0 (.one 13 0 (.one 14 0 (Tr.done)))))))))))))))
  | 17 => .one 0 0 (.one 1 0 (.one 2 0 (.one 3 1 (.one 4 1 (.alt 5 [] (.one 6 0 (.one 7 0 (.one 8 0 (.one 9 2 (.one 10 2 (.one 11 0 (Tr.done))))))) 9 [3, 4] (.one 5 2 (.one 6 0 (.one 7 0 (.one 8 0 (.one 10 2 (.one 11 0 (Tr.done))))))))))))
  | 25 => .one 0 0 (.one 1 0 (.one 2 0 (.one 4 0 (.one 3 1 (.one 5 1 (.one 6 2 (Tr.done)))))))
  | 27 => .one 0 0 (.one 1 0 (.one 2 0 (.one 4 0 (.one 3 1 (.one 5 1 (.one 6 2 (Tr.done)))))))
  | 23 => .one 0 0 (.one 1 0 (.one 2 0 (.one 4 0 (.one 6 0 (.one 3 1 (.one 5 1 (.one 7 2 (Tr.done))))))))
  | 31 => .one 0 0 (.one 1 0 (.one 2 0 (.one 3 1 (.one 4 1 (.alt 5 [] (.one 6 0 (.one 7 0 (.one 8 0 (.one 9 2 (.one 10 2 (.one 11 0 (Tr.done))))))) 9 [3, 4] (.one 5 2 (.one 6 0 (.one 7 0 (.one 8 0 (.one 10 2 (.one 11 0 (Tr.done))))))))))))
  | _ => .done
def pl10 : Nat → Tr
  | 7 => .one 0 0 (.one 1 0 (.one 2 0 (.one 4 0 (.one 3 1 (.one 5 1 (.one 6 2 (.one 7 0 (Tr.done))))))))
  | 8 => .one 0 0 (.one 1 0 (.one 2 0 (.one 7 0 (.one 3 1 (.one 4 0 (.one 5 0 (.one 6 1 (.one 8 1 (.one 9 2 (.one 10 0 (.one 11 0 (Tr.done))))))))))))
  | 9 => .one 0 0 (.one 1 0 (.one 2 0 (.one 4 0 (.one 3 1 (.one 5 1 (.one 6 0 (.one 7 0 (.one 8 0 (.one 9 2 (Tr.done))))))))))
  | 10 => .one 0 0 (.one 1 0 (.one 2 0 (.one 11 0 (.one 12 0 (.one 13 0 (.one 22 0 (.one 23 0 (.one 24 0 (.one 26 0 (.one 3 1 (.one 4 0 (.one 5 0 (.one 6 1 (.one 7 0 (.one 8 0 (.one 9 1 (.one 14 1 (.one 15 0 (.one 16 0 (.one 17 1 (.one 18 0 (.one 19 0 (.one 20 1 (.one 25 1 (.one 27 1 (.prm 10 [14, 17, 20, 25, 27] (.prm 21 [25, 27] (.one 28 2 (.one 29 0 (.one 30 0 (.one 31 0 (Tr.done))))))))))))))))))))))))))))))))
  | 13 => .one 0 0 (.one 1 0 (.one 2 0 (.one 11 0 (.one 3 1 (.one 4 0 (.one 5 0 (.one 6 1 (.one 7 0 (.one 8 0 (.one 9 1 (.one 10 2 (.one 12 0 (.one 13 0 (.one 14 0 (.one 15 0 (.one 16 0 (.one 25 0 (.one 17 1 (.one 18 0 (.one 19 0 (.one 20 1 (.one 21 0 (.one 22 0 (.one 23 1 (.one 24 2 (.one 26 0 (.one 27 0 (.one 28 0 (.one 29 0 (.one 30 0 (.one 31 0 (.one 33 0 (.one 36 0 (.one 32 1 (.one 34 1 (.one 35 2 (.one 37 2 (.one 38 0 (.one 39 0 (.one 40 0 (.one 41 2 (.one 42 0 (.one 43 0 (.one 44 0 (.one 45 2 (.one 46 0 (.one 47 0 (Tr.done))))))))))))))))))))))))))))))))))))))))))))))))
  | _ => .done
def pl11 : Nat → Tr
  | 17 => .one 0 0 (.one 1 0 (.one 2 0 (.one 5 0 (.one 6 0 (.one 7 0 (.one 3 1 (.one 8 1 (.prm 4 [8] (.one 9 2 (.one 10 0 (.one 11 0 (.one 12 0 (.one 13 0 (.one 14 0 (.one 15 1 (.one 16 2 (.one 17 0 (.one 18 0 (.one 19 0 (.one 20 0 (.one 21 0 (.one 22 0 (.one 23 1 (.one 24 2 (.one 25 0 (.one 26 0 (.one 27 0 (.one 28 0 (.one 29 0 (.one 30 0 (.one 31 1 (.one 32 2 (.one 33 0 (.one 34 0 (.one 35 0 (.one 36 0 (.one 37 0 (.one 38 0 (.one 39 1 (.one 40 1 (.one 41 0 (.one 42 0 (.one 43 0 (.one 44 0 (.one 45 0 (.one 46 0 (.one 47 1 (.one 48 1 (.one 49 0 (.one 50 0 (.one 51 0 (Tr.done))))))))))))))))))))))))))))))))))))))))))))))))))))
  | _ => .done
def pl12 : Nat → Tr
  | 9 => .one 0 1 (.one 1 0 (.one 2 0 (.one 3 1 (.one 4 0 (.one 5 0 (.one 6 1 (.one 7 1 (.alt 8 [] (.one 9 0 (.one 10 0 (.one 11 0 (.one 12 2 (.one 13 2 (.one 14 0 (Tr.done))))))) 12 [0, 3, 6, 7] (.one 8 2 (.one 9 0 (.one 10 0 (.one 11 0 (.one 13 2 (.one 14 0 (Tr.done)))))))))))))))
  | 10 => .one 7 0 (.one 0 1 (.one 1 0 (.one 2 0 (.one 3 1 (.one 4 0 (.one 5 0 (.one 6 1 (.one 8 1 (.one 9 2 (Tr.done))))))))))
  | 18 => .one 7 0 (.one 0 1 (.one 1 0 (.one 2 0 (.one 3 1 (.one 4 0 (.one 5 0 (.one 6 1 (.one 8 1 (.alt 9 [] (.one 10 0 (.one 11 0 (.one 12 0 (.one 13 2 (.one 14 2 (.one 15 0 (Tr.done))))))) 13 [0, 3, 6, 8] (.one 9 2 (.one 10 0 (.one 11 0 (.one 12 0 (.one 14 2 (.one 15 0 (Tr.done))))))))))))))))
  | 22 => .one 7 0 (.one 9 0 (.one 0 1 (.one 1 0 (.one 2 0 (.one 3 1 (.one 4 0 (.one 5 0 (.one 6 1 (.one 8 1 (.one 10 1 (.alt 11 [] (.one 12 0 (.one 13 0 (.one 14 0 (.one 15 2 (.one 16 2 (.one 17 0 (Tr.done))))))) 15 [0, 3, 6, 8, 10] (.one 11 2 (.one 12 0 (.one 13 0 (.one 14 0 (.one 16 2 (.one 17 0 (Tr.done))))))))))))))))))
  | 24 => .one 7 0 (.one 8 0 (.one 0 1 (.one 1 0 (.one 2 0 (.one 3 1 (.one 4 0 (.one 5 0 (.one 6 1 (.one 9 1 (.alt 10 [] (.one 11 0 (.one 12 0 (.one 13 0 (.one 14 2 (.one 15 2 (.one 16 0 (Tr.done))))))) 14 [0, 3, 6, 9] (.one 10 2 (.one 11 0 (.one 12 0 (.one 13 0 (.one 15 2 (.one 16 0 (Tr.done)))))))))))))))))
  | _ => .done
def pl14 : Nat → Tr
  | 1 => .one 0 0 (.one 2 0 (.one 1 1 (.one 4 0 (.one 3 1 (.one 5 0 (Tr.done))))))
  | 15 => .one 0 0 (.one 1 0 (.one 2 0 (.one 3 1 (.one 4 1 (.alt 5 [] (.one 6 0 (.one 7 0 (.one 8 0 (.one 9 2 (.one 10 2 (.one 11 0 (Tr.done))))))) 9 [3, 4] (.one 5 2 (.one 6 0 (.one 7 0 (.one 8 0 (.one 10 2 (.one 11 0 (Tr.done))))))))))))
  | 16 => .one 0 0 (.one 1 0 (.one 2 0 (.one 7 0 (.one 8 0 (.one 9 0 (.one 13 0 (.one 3 1 (.one 4 0 (.one 5 0 (.one 6 1 (.one 10 1 (.one 11 0 (.one 12 1 (.one 14 0 (.one 15 0 (.one 16 2 (Tr.done)))))))))))))))))
  | 27 => .one 0 0 (.one 1 0 (.one 2 0 (.one 7 0 (.one 8 0 (.one 9 0 (.one 13 0 (.one 3 1 (.one 4 0 (.one 5 0 (.one 6 1 (.one 10 1 (.one 11 0 (.one 12 1 (.one 14 0 (.one 15 0 (.one 16 2 (Tr.done)))))))))))))))))
  | _ => .done
def pl15 : Nat → Tr
  | 8 => .one 0 0 (.one 1 0 (.one 2 0 (.one 3 0 (.one 4 0 (.one 5 0 (.one 6 0 (.one 7 0 (.one 8 0 (.one 9 0 (.one 10 0 (.one 11 0 (.one 12 0 (.one 13 0 (.one 14 0 (.one 15 0 (.one 16 0 (.one 17 0 (.one 18 0 (.one 19 0 (.one 20 0 (.one 21 0 (.one 22 0 (.one 23 0 (.one 24 0 (.one 25 0 (.one 26 1 (.one 27 1 (.one 28 1 (.one 29 2 (.one 30 0 (.one 31 0 (.one 32 0 (.one 33 0 (.one 34 0 (.one 35 0 (.one 36 1 (.one 37 1 (.one 38 2 (.one 39 0 (.one 40 0 (.one 41 0 (.one 42 0 (.one 43 2 (.one 44 0 (.one 45 0 (Tr.done))))))))))))))))))))))))))))))))))))))))))))))
  | _ => .done
def pl18 : Nat → Tr
  | 5 => .one 0 0 (.one 1 0 (.one 2 0 (.one 3 1 (.one 4 0 (.one 5 0 (.one 6 1 (.one 7 1 (.alt 8 [] (.one 9 0 (.one 10 0 (.one 11 0 (.one 12 2 (.one 13 2 (.one 14 0 (Tr.done))))))) 12 [3, 6, 7] (.one 8 2 (.one 9 0 (.one 10 0 (.one 11 0 (.one 13 2 (.one 14 0 (Tr.done)))))))))))))))
  | 13 => .one 0 0 (.one 1 0 (.one 2 0 (.one 8 0 (.one 3 1 (.one 4 0 (.one 5 0 (.one 6 1 (.one 7 1 (.one 9 2 (.one 10 0 (.one 11 0 (.one 12 0 (.one 13 0 (.one 14 0 (Tr.done)))))))))))))))
  | 14 => .one 0 0 (.one 1 0 (.one 2 0 (.one 8 0 (.one 3 1 (.one 4 0 (.one 5 0 (.one 6 1 (.one 7 1 (.alt 9 [] (.one 10 0 (.one 11 0 (.one 12 0 (.one 13 2 (.one 14 2 (.one 15 0 (Tr.done))))))) 13 [3, 6, 7] (.one 9 2 (.one 10 0 (.one 11 0 (.one 12 0 (.one 14 2 (.one 15 0 (Tr.done))))))))))))))))
  | _ => .done
def pl19 : Nat → Tr
  | 7 => .one 0 0 (.one 1 0 (.one 2 0 (.one 7 0 (.one 3 1 (.one 4 0 (.one 5 0 (.one 6 1 (.one 8 1 (.one 9 2 (.one 10 0 (Tr.done)))))))))))
  | 11 => .one 0 0 (.one 1 0 (.one 2 0 (.one 4 0 (.one 3 1 (.one 5 1 (.one 6 2 (.one 7 0 (Tr.done))))))))
  | 12 => .one 0 0 (.one 1 0 (.one 2 0 (.one 3 0 (.one 4 0 (.one 5 0 (.one 6 0 (.one 7 0 (.one 8 0 (.one 9 0 (.one 10 0 (.one 13 0 (.one 11 1 (.one 14 1 (.prm 12 [14] (.one 15 0 (.one 16 0 (.one 17 0 (.prm 18 [14] (.one 19 0 (Tr.done))))))))))))))))))))
  | 14 => .one 0 0 (.one 1 0 (.one 2 0 (.one 4 0 (.one 3 1 (.one 5 1 (.one 6 2 (.one 7 0 (.one 8 0 (.one 9 0 (.one 10 0 (.one 11 0 (Tr.done))))))))))))
  | 24 => .one 0 0 (.one 1 0 (.one 2 0 (.one 3 0 (.one 4 0 (.one 5 1 (.one 6 0 (.one 7 0 (.one 8 0 (.one 9 0 (.one 10 1 (.one 11 0 (.one 12 0 (.one 13 0 (.prm 14 [10] (.one 15 0 (Tr.done))))))))))))))))
  | _ => .done
def pl20 : Nat → Tr
  | 6 => .one 0 0 (.one 1 0 (.one 2 0 (.one 4 0 (.one 5 0 (.one 6 0 (.one 3 1 (.one 7 1 (.one 8 0 (Tr.done)))))))))
  | _ => .done
def pl21 : Nat → Tr
  | 7 => .one 7 0 (.one 0 1 (.one 1 0 (.one 2 0 (.one 3 1 (.one 4 0 (.one 5 0 (.one 6 1 (.one 8 1 (.alt 9 [] (.one 10 0 (.one 11 0 (.one 12 0 (.one 13 0 (.one 14 2 (.one 15 2 (.one 16 0 (.one 17 0 (Tr.done))))))))) 14 [0, 3, 6, 8] (.one 9 2 (.one 10 0 (.one 11 0 (.one 12 0 (.one 13 0 (.one 15 2 (.one 16 0 (.one 17 0 (Tr.done))))))))))))))))))
  | 8 => .one 0 0 (.one 1 0 (.one 2 0 (.one 3 0 (.one 5 0 (.one 4 1 (.one 6 1 (.one 7 0 (.one 8 0 (.one 9 0 (.one 17 0 (.one 10 1 (.one 11 0 (.one 12 0 (.one 13 1 (.one 14 0 (.one 15 0 (.one 16 1 (.one 18 1 (.one 19 2 (.one 20 0 (.one 21 0 (.one 22 0 (.one 30 0 (.one 33 0 (.one 23 1 (.one 24 0 (.one 25 0 (.one 26 1 (.one 27 0 (.one 28 0 (.one 29 1 (.one 31 1 (.one 32 1 (.one 34 1 (.one 35 2 (.one 36 0 (.one 37 0 (Tr.done))))))))))))))))))))))))))))))))))))))
  | 14 => .one 1 0 (.one 3 0 (.one 0 1 (.one 2 1 (.one 4 0 (.one 5 1 (.one 6 0 (.one 7 0 (.one 15 0 (.one 17 0 (.one 22 0 (.one 8 1 (.one 9 0 (.one 10 0 (.one 11 1 (.one 12 0 (.one 13 0 (.one 14 1 (.one 16 1 (.one 18 0 (.one 19 1 (.one 20 0 (.one 23 1 (.prm 21 [23] (.one 24 0 (.one 25 0 (.one 26 0 (.one 27 0 (.one 28 0 (.one 30 0 (.one 29 1 (.one 31 0 (.one 32 1 (.one 33 0 (.one 34 2 (.one 35 0 (.one 36 0 (Tr.done)))))))))))))))))))))))))))))))))))))
  | 18 => .one 7 0 (.one 0 1 (.one 1 0 (.one 2 0 (.one 3 1 (.one 4 0 (.one 5 0 (.one 6 1 (.one 8 1 (.one 9 2 (Tr.done))))))))))
  | 21 => .one 7 0 (.one 9 0 (.one 0 1 (.one 1 0 (.one 2 0 (.one 3 1 (.one 4 0 (.one 5 0 (.one 6 1 (.one 8 1 (.one 10 0 (.one 11 2 (.one 12 0 (.one 13 0 (.one 14 0 (.one 15 0 (.one 16 0 (Tr.done)))))))))))))))))
  | 22 => .one 7 0 (.one 0 1 (.one 1 0 (.one 2 0 (.one 3 1 (.one 4 0 (.one 5 0 (.one 6 1 (.one 8 1 (.alt 9 [] (.one 10 0 (.one 11 0 (.one 12 0 (.one 13 2 (.one 14 2 (.one 15 0 (Tr.done))))))) 13 [0, 3, 6, 8] (.one 9 2 (.one 10 0 (.one 11 0 (.one 12 0 (.one 14 2 (.one 15 0 (Tr.done))))))))))))))))
  | 32 => .one 0 0 (.one 1 1 (.one 2 0 (.one 3 0 (.one 4 1 (.one 5 0 (.one 6 0 (.one 7 1 (.one 8 2 (.one 9 0 (.one 10 0 (.one 11 0 (.one 12 1 (.one 13 0 (.one 14 0 (.one 15 1 (.one 16 0 (.one 17 0 (.one 18 1 (.one 20 1 (.one 21 0 (.one 22 0 (.one 23 1 (.one 24 0 (.one 25 0 (.one 26 1 (.prm 19 [20, 23, 26] (.one 27 2 (.one 28 0 (.one 29 0 (.one 30 0 (.one 31 2 (Tr.done))))))))))))))))))))))))))))))))
  | _ => .done
def pl22 : Nat → Tr
  | 3 => .one 0 1 (.one 1 0 (.one 2 0 (.one 3 1 (.one 4 0 (.one 5 0 (.one 6 1 (.one 8 1 (.one 9 0 (.one 10 0 (.one 11 1 (.one 12 0 (.one 13 0 (.one 14 1 (.one 16 1 (.one 17 0 (.one 18 0 (.one 19 1 (.one 20 0 (.one 21 0 (.one 22 1 (.one 24 1 (.one 25 0 (.one 26 0 (.one 27 1 (.one 28 0 (.one 29 0 (.one 30 1 (.one 32 1 (.one 33 0 (.one 34 0 (.one 35 1 (.one 36 0 (.one 37 0 (.one 38 1 (.alt 7 [8, 11, 14, 16, 19, 22, 24, 27, 30, 32, 35, 38] (.alt 15 [16, 19, 22, 24, 27, 30, 32, 35, 38] (.alt 23 [24, 27, 30, 32, 35, 38] (.alt 31 [32, 35, 38] (.alt 39 [] (.one 40 0 (.one 41 2 (.one 42 2 (Tr.done)))) 41 [32, 35, 38] (.one 39 2 (.one 40 0 (.one 42 2 (Tr.done))))) 41 [24, 27, 30, 32, 35, 38] (.prm 31 [32, 35, 38] (.one 39 2 (.one 40 0 (.one 42 2 (Tr.done)))))) 41 [16, 19, 22, 24, 27, 30, 32, 35, 38] (.prm 23 [24, 27, 30, 32, 35, 38] (.prm 31 [32, 35, 38] (.one 39 2 (.one 40 0 (.one 42 2 (Tr.done))))))) 41 [8, 11, 14, 16, 19, 22, 24, 27, 30, 32, 35, 38] (.prm 15 [16, 19, 22, 24, 27, 30, 32, 35, 38] (.prm 23 [24, 27, 30, 32, 35, 38] (.prm 31 [32, 35, 38] (.one 39 2 (.one 40 0 (.one 42 2 (Tr.done)))))))) 41 [0, 3, 6, 8, 11, 14, 16, 19, 22, 24, 27, 30, 32, 35, 38] (.prm 7 [8, 11, 14, 16, 19, 22, 24, 27, 30, 32, 35, 38] (.prm 15 [16, 19, 22, 24, 27, 30, 32, 35, 38] (.prm 23 [24, 27, 30, 32, 35, 38] (.prm 31 [32, 35, 38] (.one 39 2 (.one 40 0 (.one 42 2 (Tr.done)))))))))))))))))))))))))))))))))))))))))))
  | 4 => .one 0 0 (.one 2 0 (.one 1 1 (.one 3 1 (.one 4 0 (.one 5 1 (.one 6 0 (.one 7 0 (.one 8 1 (.one 9 0 (.one 10 0 (.one 11 1 (.prm 12 [1, 3] (.one 13 0 (.one 14 0 (.one 15 2 (Tr.done))))))))))))))))
  | 8 => .one 0 0 (.one 3 0 (.one 1 1 (.one 2 1 (.one 4 1 (.one 5 1 (.prm 6 [1] (.one 7 0 (.one 8 0 (.one 9 2 (Tr.done))))))))))
  | _ => .done
def pl23 : Nat → Tr
  | 3 => .one 0 1 (.one 1 0 (.one 2 0 (.one 3 1 (.one 4 0 (.one 5 0 (.one 6 1 (.one 7 1 (.one 8 2 (.one 9 0 (.one 10 0 (Tr.done)))))))))))
  | 17 => .one 7 0 (.one 0 1 (.one 1 0 (.one 2 0 (.one 3 1 (.one 4 0 (.one 5 0 (.one 6 1 (.one 8 1 (.one 9 2 (.one 10 0 (Tr.done)))))))))))
  | 21 => .one 4 0 (.one 8 0 (.one 0 1 (.one 1 0 (.one 2 0 (.one 3 1 (.one 5 1 (.one 6 2 (.one 7 0 (Tr.done)))))))))
  | _ => .done
def pl24 : Nat → Tr
  | 7 => .one 2 0 (.one 0 1 (.one 1 1 (.one 3 1 (.one 4 1 (.prm 5 [0] (.one 6 2 (.one 7 2 (Tr.done))))))))
  | 12 => .one 0 1 (.one 1 0 (.one 2 0 (.one 3 1 (.one 4 0 (.one 5 0 (.one 6 1 (.one 7 1 (.one 8 2 (.one 9 0 (Tr.done))))))))))
  | 16 => .one 0 1 (.one 1 0 (.one 2 0 (.one 3 1 (.one 4 0 (.one 5 0 (.one 6 1 (.one 7 1 (.alt 8 [] (.one 9 0 (.one 10 0 (.one 11 0 (.one 12 2 (.one 13 2 (.one 14 0 (Tr.done))))))) 12 [0, 3, 6, 7] (.one 8 2 (.one 9 0 (.one 10 0 (.one 11 0 (.one 13 2 (.one 14 0 (Tr.done)))))))))))))))
  | _ => .done
def pl29 : Nat → Tr
  | 4 => .one 0 0 (.one 1 0 (.one 2 0 (.one 4 0 (.one 3 1 (.one 5 1 (.one 6 2 (.one 7 0 (.one 8 0 (.one 9 0 (.one 10 0 (.one 11 0 (Tr.done))))))))))))
  | 5 => .one 0 0 (.one 1 0 (.one 2 0 (.one 4 0 (.one 3 1 (.one 5 1 (.one 6 2 (.one 7 0 (.one 8 0 (.one 9 0 (.one 10 0 (.one 11 0 (Tr.done))))))))))))
  | 8 => .one 0 0 (.one 1 0 (.one 2 0 (.one 4 0 (.one 3 1 (.one 5 1 (.one 6 2 (.one 7 0 (.one 8 0 (.one 9 0 (.one 10 0 (.one 11 0 (Tr.done))))))))))))
  | 9 => .one 0 0 (.one 1 0 (.one 2 0 (.one 4 0 (.one 3 1 (.one 5 1 (.one 6 2 (.one 7 0 (.one 8 0 (.one 9 0 (.one 10 0 (.one 11 0 (Tr.done))))))))))))
  | 14 => .one 0 0 (.one 1 0 (.one 2 0 (.one 5 0 (.one 3 1 (.one 4 1 (.one 6 1 (.one 7 2 (.one 8 0 (.one 9 0 (.one 10 0 (.one 11 0 (.one 12 0 (Tr.done)))))))))))))
  | 15 => .one 0 0 (.one 1 0 (.one 2 0 (.one 4 0 (.one 5 0 (.one 3 1 (.one 6 1 (.one 7 2 (.one 8 0 (Tr.done)))))))))
  | 18 => .one 0 0 (.one 1 0 (.one 2 0 (.one 3 0 (.one 4 0 (.one 5 0 (.one 6 0 (.one 11 0 (.one 17 0 (.one 7 1 (.one 8 0 (.one 9 0 (.one 10 1 (.one 12 0 (.one 13 1 (.one 14 0 (.one 15 0 (.one 16 1 (.one 18 1 (.one 19 0 (.one 20 1 (.one 21 0 (.one 22 0 (.one 23 0 (Tr.done))))))))))))))))))))))))
  | 20 => .one 0 0 (.one 1 0 (.one 2 0 (.one 5 0 (.one 7 0 (.one 10 0 (.one 11 0 (.one 12 0 (.one 14 0 (.one 15 0 (.one 3 1 (.one 4 1 (.one 6 1 (.one 8 1 (.one 13 1 (.one 16 1 (.prm 9 [13, 16] (.one 17 2 (.one 18 0 (.one 19 0 (Tr.done))))))))))))))))))))
  | 22 => .one 0 0 (.one 1 0 (.one 2 0 (.one 7 0 (.one 13 0 (.one 15 0 (.one 3 1 (.one 4 0 (.one 5 0 (.one 6 1 (.one 8 0 (.one 9 1 (.one 10 0 (.one 11 0 (.one 12 1 (.one 14 1 (.one 16 1 (.one 17 0 (.one 18 2 (Tr.done)))))))))))))))))))
  | 25 => .one 0 0 (.one 1 0 (.one 2 0 (.one 5 0 (.one 3 1 (.one 4 1 (.one 6 1 (.alt 7 [] (.one 8 0 (.one 9 0 (.one 10 0 (.one 11 2 (.one 12 2 (.one 13 0 (Tr.done))))))) 11 [3, 4, 6] (.one 7 2 (.one 8 0 (.one 9 0 (.one 10 0 (.one 12 2 (.one 13 0 (Tr.done))))))))))))))
  | 26 => .one 0 0 (.one 1 0 (.one 2 0 (.one 4 0 (.one 5 0 (.one 3 1 (.one 6 1 (.one 7 2 (.one 8 0 (.one 9 0 (.one 10 0 (.one 11 0 (.one 12 0 (.one 13 0 (.one 14 0 (Tr.done)))))))))))))))
  | 30 => .one 0 0 (.one 1 0 (.one 2 0 (.one 5 0 (.one 9 0 (.one 10 0 (.one 11 0 (.one 13 0 (.one 14 0 (.one 16 0 (.one 3 1 (.one 4 1 (.one 6 1 (.one 7 1 (.one 12 1 (.one 15 1 (.prm 8 [12, 15] (.one 17 2 (.one 18 0 (.one 19 0 (Tr.done))))))))))))))))))))
  | 32 => .one 0 0 (.one 1 0 (.one 2 0 (.one 5 0 (.one 8 0 (.one 9 0 (.one 10 0 (.one 12 0 (.one 13 0 (.one 3 1 (.one 4 1 (.one 6 1 (.one 11 1 (.one 14 1 (.prm 7 [11, 14] (.one 15 2 (.one 16 0 (.one 17 0 (Tr.done))))))))))))))))))
  | 34 => .one 0 0 (.one 1 0 (.one 2 0 (.one 6 0 (.one 7 0 (.one 8 0 (.one 10 0 (.one 3 1 (.one 4 1 (.one 9 1 (.prm 5 [9] (.one 11 2 (.one 12 0 (.one 13 0 (Tr.done))))))))))))))
  | 36 => .one 0 0 (.one 1 0 (.one 2 0 (.one 5 0 (.one 10 0 (.one 11 0 (.one 12 0 (.one 14 0 (.one 15 0 (.one 3 1 (.one 4 1 (.one 6 1 (.one 7 0 (.one 8 0 (.one 13 1 (.one 16 1 (.one 17 0 (.one 18 0 (.prm 9 [13, 16] (.one 19 2 (.one 20 0 (.one 21 0 (Tr.done))))))))))))))))))))))
  | 40 => .one 0 0 (.one 1 0 (.one 2 0 (.one 5 0 (.one 3 1 (.one 4 1 (.one 6 1 (.alt 7 [] (.one 8 0 (.one 9 0 (.one 10 0 (.one 11 2 (.one 12 2 (.one 13 0 (Tr.done))))))) 11 [3, 4, 6] (.one 7 2 (.one 8 0 (.one 9 0 (.one 10 0 (.one 12 2 (.one 13 0 (Tr.done))))))))))))))
  | 41 => .one 0 0 (.one 1 0 (.one 2 0 (.one 4 0 (.one 5 0 (.one 3 1 (.one 6 1 (.one 7 2 (.one 8 0 (Tr.done)))))))))
  | 44 => .one 0 0 (.one 1 0 (.one 2 0 (.one 3 0 (.one 5 0 (.one 6 0 (.one 7 0 (.one 12 0 (.one 18 0 (.one 22 0 (.one 23 0 (.one 24 0 (.one 29 0 (.one 35 0 (.one 4 1 (.one 8 1 (.one 9 0 (.one 10 0 (.one 11 1 (.one 13 0 (.one 14 1 (.one 15 0 (.one 16 0 (.one 17 1 (.one 19 1 (.one 20 0 (.one 21 1 (.one 25 1 (.one 26 0 (.one 27 0 (.one 28 1 (.one 30 0 (.one 31 1 (.one 32 0 (.one 33 0 (.one 34 1 (.one 36 1 (.one 37 0 (.one 38 1 (.one 39 2 (.one 40 0 (.one 41 0 (Tr.done))))))))))))))))))))))))))))))))))))))))))
  | _ => .done
def pl30 : Nat → Tr
  | 6 => .one 4 0 (.one 0 1 (.one 1 0 (.one 2 0 (.one 3 1 (.one 5 1 (.alt 6 [] (.one 7 0 (.one 8 0 (.one 9 0 (.one 10 0 (.one 11 2 (.one 12 2 (.one 13 0 (.one 14 0 (Tr.done))))))))) 11 [0, 3, 5] (.one 6 2 (.one 7 0 (.one 8 0 (.one 9 0 (.one 10 0 (.one 12 2 (.one 13 0 (.one 14 0 (Tr.done)))))))))))))))
  | 7 => .one 0 0 (.one 1 0 (.one 2 0 (.one 3 0 (.one 5 0 (.one 4 1 (.one 6 1 (.one 7 0 (.one 8 0 (.one 9 0 (.one 14 0 (.one 10 1 (.one 11 0 (.one 12 0 (.one 13 1 (.one 15 1 (.one 16 2 (.one 17 0 (.one 18 0 (.one 19 0 (.one 24 0 (.one 27 0 (.one 20 1 (.one 21 0 (.one 22 0 (.one 23 1 (.one 25 1 (.one 26 1 (.one 28 1 (.one 29 2 (.one 30 0 (.one 31 0 (Tr.done))))))))))))))))))))))))))))))))
  | 12 => .one 1 0 (.one 3 0 (.one 0 1 (.one 2 1 (.one 4 0 (.one 5 1 (.one 6 0 (.one 7 0 (.one 12 0 (.one 14 0 (.one 24 0 (.one 8 1 (.one 9 0 (.one 10 0 (.one 11 1 (.one 13 1 (.one 15 0 (.one 16 1 (.one 17 0 (.one 18 0 (.one 19 1 (.one 25 1 (.prm 20 [8, 11, 13, 25] (.one 21 0 (.one 22 0 (.prm 23 [25] (.one 26 0 (.one 27 0 (Tr.done))))))))))))))))))))))))))))
  | 32 => .one 0 0 (.one 1 1 (.one 2 0 (.one 3 0 (.one 4 1 (.one 5 2 (.one 6 0 (.one 7 0 (.one 8 0 (.one 9 1 (.one 10 0 (.one 11 0 (.one 12 1 (.one 14 1 (.one 15 0 (.one 16 0 (.one 17 1 (.prm 13 [14, 17] (.one 18 2 (.one 19 0 (.one 20 0 (.one 21 0 (.one 22 0 (.one 23 1 (.one 24 0 (.one 25 0 (.one 26 1 (.one 27 1 (.one 28 1 (.one 29 0 (.one 30 0 (.one 31 1 (.one 32 1 (.one 33 0 (.one 34 0 (.one 35 0 (.one 36 0 (.one 37 2 (.one 38 0 (.one 39 2 (Tr.done))))))))))))))))))))))))))))))))))))))))
  | _ => .done
def pl31 : Nat → Tr
  | 6 => .one 0 0 (.one 1 0 (.one 2 0 (.one 3 1 (.one 4 1 (.one 5 2 (.one 6 0 (.one 7 0 (.one 8 0 (.one 9 0 (Tr.done))))))))))
  | _ => .done
def pl32 : Nat → Tr
  | 6 => .one 0 0 (.one 1 0 (.one 2 0 (.one 4 0 (.one 5 0 (.one 6 0 (.one 7 0 (.one 9 0 (.one 3 1 (.one 8 1 (.prm 10 [3] (.one 11 0 (.one 12 0 (.one 13 0 (.one 14 2 (Tr.done)))))))))))))))
  | 7 => .one 0 0 (.one 1 0 (.one 2 0 (.one 4 0 (.one 3 1 (.prm 5 [3] (.one 6 2 (Tr.done)))))))
  | _ => .done
def pl33 : Nat → Tr
  | 17 => .one 0 0 (.one 1 0 (.one 2 0 (.one 4 0 (.one 5 0 (.one 6 0 (.one 7 0 (.one 3 1 (.one 8 1 (.one 9 0 (.one 10 2 (Tr.done)))))))))))
  | 18 => .one 0 0 (.one 1 0 (.one 2 0 (.one 4 0 (.one 6 0 (.one 3 1 (.one 5 1 (.one 7 1 (.one 8 2 (Tr.done)))))))))
  | _ => .done
def pl35 : Nat → Tr
  | 3 => .one 0 0 (.one 1 0 (.one 2 0 (.one 4 0 (.one 3 1 (.one 5 1 (.alt 6 [] (.one 7 0 (.one 8 0 (.one 9 0 (.one 10 2 (.one 11 2 (.one 12 0 (Tr.done))))))) 10 [3, 5] (.one 6 2 (.one 7 0 (.one 8 0 (.one 9 0 (.one 11 2 (.one 12 0 (Tr.done)))))))))))))
  | 5 => .one 0 0 (.one 1 0 (.one 2 0 (.one 4 0 (.one 3 1 (.one 5 1 (.one 6 1 (.one 7 2 (Tr.done))))))))
  | _ => .done
def pl38 : Nat → Tr
  | 3 => .one 4 0 (.one 0 1 (.one 1 0 (.one 2 0 (.one 3 1 (.one 5 1 (.one 6 2 (Tr.done)))))))
  | _ => .done
def pl39 : Nat → Tr
  | 4 => .one 0 0 (.one 1 0 (.one 2 0 (.one 4 0 (.one 7 0 (.one 3 1 (.one 5 1 (.one 6 1 (.one 8 2 (Tr.done)))))))))
  | 5 => .one 0 0 (.one 1 0 (.one 2 0 (.one 3 1 (.one 4 1 (.one 5 2 (Tr.done))))))
  | _ => .done
def pl45 : Nat → Tr
  | 5 => .one 0 0 (.one 1 0 (.one 2 0 (.one 4 0 (.one 3 1 (.one 5 1 (.one 6 2 (Tr.done)))))))
  | _ => .done
def pl47 : Nat → Tr
  | 3 => .one 0 0 (.one 1 0 (.one 5 0 (.one 6 0 (.one 9 0 (.one 10 0 (.one 14 0 (.one 15 0 (.one 2 1 (.one 3 0 (.one 4 0 (.one 7 1 (.one 11 1 (.one 12 0 (.one 13 0 (.one 16 1 (.alt 8 [2, 11, 16] (.alt 17 [2, 11] (.one 18 0 (.prm 19 [2, 11] (.one 20 2 (Tr.done)))) 19 [2, 11, 16] (.prm 17 [2, 11] (.one 18 0 (.one 20 2 (Tr.done))))) 19 [2, 7, 11, 16] (.prm 8 [2, 11, 16] (.prm 17 [2, 11] (.one 18 0 (.one 20 2 (Tr.done)))))))))))))))))))))
  | _ => .done
def pl48 : Nat → Tr
  | 3 => .one 0 0 (.one 1 0 (.one 2 0 (.one 5 0 (.one 6 0 (.one 7 0 (.one 3 1 (.one 4 0 (.one 8 1 (.prm 9 [3] (.one 10 0 (.one 11 0 (Tr.done))))))))))))
  | _ => .done
def pl49 : Nat → Tr
  | 3 => .one 0 0 (.one 1 0 (.one 2 0 (.one 5 0 (.one 6 0 (.one 7 0 (.one 3 1 (.one 4 0 (.one 8 1 (.prm 9 [3] (.one 10 0 (.one 11 0 (Tr.done))))))))))))
  | _ => .done
def pl50 : Nat → Tr
  | 9 => .one 5 0 (.one 0 1 (.one 1 1 (.one 2 0 (.one 3 0 (.one 4 1 (.one 6 1 (.one 7 2 (Tr.done))))))))
  | 18 => .one 4 0 (.one 6 0 (.one 8 0 (.one 0 1 (.one 1 0 (.one 2 0 (.one 3 1 (.one 5 1 (.one 7 1 (.one 9 2 (Tr.done))))))))))
  | 19 => .one 0 1 (.one 1 0 (.one 2 0 (.one 3 1 (.one 4 1 (.one 5 2 (Tr.done))))))
  | _ => .done
def pl51 : Nat → Tr
  | 7 => .one 10 0 (.one 0 1 (.one 1 0 (.one 2 0 (.one 3 1 (.one 4 1 (.one 5 1 (.one 6 1 (.one 7 0 (.one 8 0 (.one 9 1 (.one 11 1 (.one 12 2 (Tr.done)))))))))))))
  | _ => .done
def pl52 : Nat → Tr
  | 14 => .one 0 0 (.one 1 0 (.one 2 0 (.one 3 1 (.one 4 1 (.alt 5 [] (.one 6 0 (.one 7 0 (.one 8 0 (.one 9 2 (.one 10 2 (.one 11 0 (Tr.done))))))) 9 [3, 4] (.one 5 2 (.one 6 0 (.one 7 0 (.one 8 0 (.one 10 2 (.one 11 0 (Tr.done))))))))))))
  | 17 => .one 0 0 (.one 1 0 (.one 2 0 (.one 4 0 (.one 3 1 (.one 5 1 (.alt 6 [] (.one 7 0 (.one 8 0 (.one 9 0 (.one 10 0 (.one 11 2 (.one 12 2 (.one 13 0 (.one 14 0 (Tr.done))))))))) 11 [3, 5] (.one 6 2 (.one 7 0 (.one 8 0 (.one 9 0 (.one 10 0 (.one 12 2 (.one 13 0 (.one 14 0 (Tr.done)))))))))))))))
  | 26 => .one 0 0 (.one 1 0 (.one 2 0 (.one 4 0 (.one 5 0 (.one 6 0 (.one 7 0 (.one 9 0 (.one 10 0 (.one 3 1 (.one 8 1 (.prm 11 [3, 8] (.one 12 2 (.one 13 0 (.one 14 2 (.one 15 2 (.one 16 0 (.one 17 2 (Tr.done))))))))))))))))))
  | 31 => .one 0 0 (.one 1 0 (.one 2 0 (.one 3 1 (.one 4 1 (.alt 5 [] (.one 6 0 (.one 7 0 (.one 8 0 (.one 9 2 (.one 10 2 (.one 11 0 (Tr.done))))))) 9 [3, 4] (.one 5 2 (.one 6 0 (.one 7 0 (.one 8 0 (.one 10 2 (.one 11 0 (Tr.done))))))))))))
  | 32 => .one 0 0 (.one 3 0 (.one 1 1 (.one 2 1 (.one 4 1 (.one 5 0 (Tr.done))))))
  | 34 => .one 0 0 (.one 1 0 (.one 2 0 (.one 4 0 (.one 7 0 (.one 3 1 (.one 5 1 (.one 6 1 (.one 8 1 (.one 9 2 (Tr.done))))))))))
  | 35 => .one 0 0 (.one 1 0 (.one 3 0 (.one 4 0 (.one 2 1 (.one 5 1 (.one 6 1 (.one 7 2 (Tr.done))))))))
  | _ => .done
def pl54 : Nat → Tr
  | 12 => .one 0 0 (.one 1 0 (.one 2 0 (.one 4 0 (.one 5 0 (.one 6 0 (.one 13 0 (.one 3 1 (.one 7 1 (.one 8 0 (.one 9 1 (.one 10 0 (.one 11 0 (.one 12 1 (.one 14 0 (Tr.done)))))))))))))))
  | 14 => .one 0 0 (.one 1 0 (.one 2 0 (.one 4 0 (.one 5 0 (.one 6 0 (.one 3 1 (.one 7 1 (.one 8 0 (.one 9 1 (.one 10 0 (.one 11 0 (.one 12 1 (Tr.done)))))))))))))
  | 16 => .one 0 0 (.one 1 0 (.one 2 0 (.one 3 0 (.one 4 0 (.one 5 0 (.one 6 1 (.one 7 2 (.one 8 0 (Tr.done)))))))))
  | _ => .done
def pl58 : Nat → Tr
  | 11 => .one 0 0 (.one 1 0 (.one 2 0 (.one 7 0 (.one 8 0 (.one 9 0 (.one 14 0 (.one 3 1 (.one 4 0 (.one 5 0 (.one 6 1 (.one 10 1 (.one 11 0 (.one 12 0 (.one 13 1 (.one 15 2 (Tr.done))))))))))))))))
  | 12 => .one 0 0 (.one 1 0 (.one 2 0 (.one 5 0 (.one 3 1 (.one 4 1 (.alt 6 [] (.one 7 0 (.one 8 0 (.one 9 0 (.one 10 2 (.one 11 2 (.one 12 0 (Tr.done))))))) 10 [3, 4] (.one 6 2 (.one 7 0 (.one 8 0 (.one 9 0 (.one 11 2 (.one 12 0 (Tr.done)))))))))))))
  | 13 => .one 0 0 (.one 1 0 (.one 2 0 (.one 3 0 (.one 5 0 (.one 6 0 (.one 7 0 (.one 9 0 (.one 12 0 (.one 13 0 (.one 14 0 (.one 16 0 (.one 4 1 (.one 8 1 (.one 10 0 (.one 11 1 (.one 15 1 (.one 17 0 (.one 18 1 (.one 19 2 (.one 20 0 (.one 21 0 (Tr.done))))))))))))))))))))))
  | 15 => .one 0 0 (.one 1 0 (.one 2 0 (.one 5 0 (.one 3 1 (.one 4 1 (.one 6 2 (.one 7 0 (.one 8 0 (.one 9 0 (.one 10 0 (.one 11 0 (Tr.done))))))))))))
  | 27 => .one 0 0 (.one 1 0 (.one 2 0 (.one 8 0 (.one 9 0 (.one 10 0 (.one 3 1 (.one 4 0 (.one 5 0 (.one 6 1 (.one 11 1 (.one 12 0 (.one 13 0 (.one 14 1 (.prm 7 [11, 14] (.one 15 2 (.one 16 0 (.one 17 0 (.one 18 0 (Tr.done)))))))))))))))))))
  | _ => .done
def pl64 : Nat → Tr
  | 5 => .one 0 0 (.one 1 0 (.one 2 0 (.one 7 0 (.one 8 0 (.one 9 0 (.one 12 0 (.one 13 0 (.one 14 0 (.one 3 1 (.one 4 0 (.one 5 0 (.one 6 1 (.one 10 1 (.one 11 1 (.one 15 1 (.one 16 2 (Tr.done)))))))))))))))))
  | _ => .done
def pl65 : Nat → Tr
  | 7 => .one 2 0 (.one 0 1 (.one 1 1 (.prm 3 [0, 1] (.one 4 0 (.one 5 0 (.prm 6 [1] (.one 7 0 (.one 8 0 (.one 9 2 (Tr.done))))))))))
  | 8 => .one 8 0 (.one 0 1 (.one 1 1 (.one 2 0 (.one 3 0 (.one 4 1 (.one 5 0 (.one 6 0 (.one 7 1 (.prm 9 [0] (.one 10 0 (.one 11 0 (.one 12 0 (.one 13 0 (.one 14 0 (.one 15 2 (Tr.done))))))))))))))))
  | _ => .done
def pl68 : Nat → Tr
  | 3 => .one 0 0 (.one 1 0 (.one 2 0 (.one 5 0 (.one 6 0 (.one 7 0 (.one 3 1 (.one 8 1 (.prm 4 [8] (.one 9 0 (.one 10 0 (Tr.done)))))))))))
  | _ => .done
def pl71 : Nat → Tr
  | 6 => .one 0 0 (.one 1 0 (.one 2 0 (.one 4 0 (.one 5 0 (.one 6 0 (.one 3 1 (.one 7 1 (.one 8 0 (Tr.done)))))))))
  | _ => .done
def pl72 : Nat → Tr
  | 12 => .one 0 0 (.one 1 0 (.one 2 0 (.one 7 0 (.one 8 0 (.one 9 0 (.one 14 0 (.one 3 1 (.one 4 0 (.one 5 0 (.one 6 1 (.one 10 1 (.one 11 0 (.one 12 0 (.one 13 1 (.one 15 2 (Tr.done))))))))))))))))
  | 13 => .one 0 0 (.one 1 0 (.one 2 0 (.one 8 0 (.one 3 1 (.one 4 0 (.one 5 0 (.one 6 1 (.one 7 1 (.alt 9 [] (.one 10 0 (.one 11 0 (.one 12 0 (.one 13 2 (.one 14 2 (.one 15 0 (Tr.done))))))) 13 [3, 6, 7] (.one 9 2 (.one 10 0 (.one 11 0 (.one 12 0 (.one 14 2 (.one 15 0 (Tr.done))))))))))))))))
  | 14 => .one 0 0 (.one 1 0 (.one 2 0 (.one 3 0 (.one 5 0 (.one 6 0 (.one 7 0 (.one 9 0 (.one 12 0 (.one 13 0 (.one 14 0 (.one 16 0 (.one 4 1 (.one 8 1 (.one 10 0 (.one 11 1 (.one 15 1 (.one 17 0 (.one 18 1 (.one 19 2 (.one 20 0 (.one 21 0 (Tr.done))))))))))))))))))))))
  | 16 => .one 0 0 (.one 1 0 (.one 2 0 (.one 8 0 (.one 3 1 (.one 4 0 (.one 5 0 (.one 6 1 (.one 7 1 (.one 9 2 (.one 10 0 (.one 11 0 (.one 12 0 (.one 13 0 (.one 14 0 (Tr.done)))))))))))))))
  | 28 => .one 0 0 (.one 1 0 (.one 2 0 (.one 11 0 (.one 12 0 (.one 13 0 (.one 3 1 (.one 4 0 (.one 5 0 (.one 6 1 (.one 7 0 (.one 8 0 (.one 9 1 (.one 14 1 (.one 15 0 (.one 16 0 (.one 17 1 (.prm 10 [14, 17] (.one 18 2 (.one 19 0 (.one 20 0 (.one 21 0 (Tr.done))))))))))))))))))))))
  | _ => .done
def pl83 : Nat → Tr
  | 6 => .one 0 0 (.one 1 0 (.one 2 0 (.one 7 0 (.one 8 0 (.one 9 0 (.one 10 0 (.one 3 1 (.one 4 0 (.one 5 0 (.one 6 1 (.one 11 1 (.one 12 2 (Tr.done)))))))))))))
  | 10 => .one 0 0 (.one 1 0 (.one 2 0 (.one 4 0 (.one 3 1 (.one 5 1 (.one 6 2 (Tr.done)))))))
  | _ => .done
def pl84 : Nat → Tr
  | 6 => .one 0 1 (.one 1 0 (.one 2 0 (.one 3 1 (.one 4 0 (.one 5 0 (.one 6 1 (.one 7 1 (.one 8 0 (.one 9 0 (.one 10 1 (.one 11 1 (.one 12 2 (Tr.done)))))))))))))
  | 12 => .one 0 1 (.one 1 0 (.one 2 0 (.one 3 1 (.one 4 0 (.one 5 0 (.one 6 1 (.one 7 1 (.one 8 0 (.one 9 0 (.one 10 1 (.one 11 1 (.one 12 2 (Tr.done)))))))))))))
  | 15 => .one 7 0 (.one 0 1 (.one 1 0 (.one 2 0 (.one 3 1 (.one 4 0 (.one 5 0 (.one 6 1 (.one 8 1 (.alt 9 [] (.one 10 0 (.one 11 0 (.one 12 0 (.one 13 0 (.one 14 2 (.one 15 2 (.one 16 0 (.one 17 0 (Tr.done))))))))) 14 [0, 3, 6, 8] (.one 9 2 (.one 10 0 (.one 11 0 (.one 12 0 (.one 13 0 (.one 15 2 (.one 16 0 (.one 17 0 (Tr.done))))))))))))))))))
  | 16 => .one 0 0 (.one 1 1 (.one 2 1 (.one 3 0 (.one 4 0 (.one 5 1 (.one 6 0 (.one 7 0 (.one 8 1 (.prm 9 [1] (.one 10 0 (.one 11 0 (Tr.done))))))))))))
  | 17 => .one 0 0 (.one 1 0 (.one 3 0 (.one 2 1 (.one 4 0 (.one 5 0 (.one 6 1 (.one 7 0 (.one 8 0 (.one 9 1 (.one 10 0 (.one 11 0 (.one 12 1 (.prm 13 [2] (.one 14 0 (.one 15 0 (Tr.done))))))))))))))))
  | 20 => .one 0 1 (.one 1 0 (.one 2 0 (.one 3 1 (.one 4 0 (.one 5 0 (.one 6 1 (.one 7 1 (.one 8 0 (.one 9 0 (.one 10 1 (.one 11 1 (.one 12 0 (Tr.done)))))))))))))
  | 30 => .one 0 1 (.one 3 0 (.one 4 0 (.one 1 1 (.one 2 1 (.prm 5 [1, 2] (.one 6 0 (.one 7 0 (.prm 8 [2] (.one 9 0 (.one 10 0 (.one 11 2 (Tr.done))))))))))))
  | _ => .done
def pl86 : Nat → Tr
  | 5 => .one 0 0 (.one 1 0 (.one 2 0 (.one 4 0 (.one 3 1 (.one 5 1 (.one 6 2 (.one 7 0 (.one 8 0 (.one 9 0 (.one 10 0 (.one 11 0 (Tr.done))))))))))))
  | 6 => .one 0 0 (.one 1 0 (.one 2 0 (.one 4 0 (.one 3 1 (.one 5 1 (.one 6 2 (.one 7 0 (.one 8 0 (.one 9 0 (.one 10 0 (.one 11 0 (Tr.done))))))))))))
  | 9 => .one 0 0 (.one 1 0 (.one 2 0 (.one 4 0 (.one 3 1 (.one 5 1 (.one 6 2 (.one 7 0 (.one 8 0 (.one 9 0 (.one 10 0 (.one 11 0 (Tr.done))))))))))))
  | 10 => .one 0 0 (.one 1 0 (.one 2 0 (.one 4 0 (.one 3 1 (.one 5 1 (.one 6 2 (.one 7 0 (.one 8 0 (.one 9 0 (.one 10 0 (.one 11 0 (Tr.done))))))))))))
  | 21 => .one 0 0 (.one 1 0 (.one 2 0 (.one 4 0 (.one 6 0 (.one 3 1 (.one 5 1 (.one 7 2 (.one 8 0 (.one 9 0 (.one 10 0 (.one 11 0 (.one 12 0 (Tr.done)))))))))))))
  | 22 => .one 0 0 (.one 1 0 (.one 2 0 (.one 4 0 (.one 6 0 (.one 3 1 (.one 5 1 (.one 7 2 (.one 8 0 (Tr.done)))))))))
  | 27 => .one 0 0 (.one 1 0 (.one 2 0 (.one 3 0 (.one 4 0 (.one 5 0 (.one 6 0 (.one 7 0 (.one 8 0 (.one 10 0 (.one 12 0 (.one 9 1 (.one 11 1 (.one 13 2 (.one 14 0 (.one 15 0 (.one 16 2 (.one 17 0 (Tr.done))))))))))))))))))
  | _ => .done
def pl94 : Nat → Tr
  | 3 => .one 0 0 (.one 1 0 (.one 2 0 (.one 3 1 (.one 4 1 (.one 5 1 (.one 6 0 (.one 7 0 (.one 8 0 (.one 9 0 (.one 10 0 (Tr.done)))))))))))
  | _ => .done
def pl97 : Nat → Tr
  | 1 => .one 0 0 (.one 1 0 (.one 2 0 (.one 7 0 (.one 3 1 (.one 4 0 (.one 5 0 (.one 6 1 (.one 8 1 (.alt 9 [] (.one 10 0 (.one 11 0 (.one 12 0 (.one 13 0 (.one 14 2 (.one 15 2 (.one 16 0 (.one 17 0 (Tr.done))))))))) 14 [3, 6, 8] (.one 9 2 (.one 10 0 (.one 11 0 (.one 12 0 (.one 13 0 (.one 15 2 (.one 16 0 (.one 17 0 (Tr.done))))))))))))))))))
  | _ => .done
def pl100 : Nat → Tr
  | 2 => .one 0 0 (.one 1 0 (.one 2 0 (.one 7 0 (.one 3 1 (.one 4 0 (.one 5 0 (.one 6 1 (.one 8 1 (.one 9 2 (.one 10 0 (.one 11 0 (.one 12 0 (.one 13 0 (.one 18 0 (.one 21 0 (.one 14 1 (.one 15 0 (.one 16 0 (.one 17 1 (.one 19 1 (.one 20 1 (.one 22 2 (.one 23 0 (.one 24 0 (Tr.done)))))))))))))))))))))))))
  | _ => .done
def pl104 : Nat → Tr
  | 1 => .one 0 0 (.one 2 0 (.one 5 0 (.one 7 0 (.one 1 1 (.one 3 1 (.one 6 1 (.one 8 1 (.prm 4 [6, 8] (.one 9 2 (.one 10 2 (.one 11 2 (.one 12 0 (Tr.done)))))))))))))
  | _ => .done
def pl107 : Nat → Tr
  | 6 => .one 0 0 (.one 1 0 (.one 2 0 (.one 4 0 (.one 5 0 (.one 6 0 (.one 7 0 (.one 3 1 (.one 8 1 (.one 9 0 (Tr.done))))))))))
  | 11 => .one 0 0 (.one 1 0 (.one 2 0 (.one 4 0 (.one 5 0 (.one 6 0 (.one 7 0 (.one 3 1 (.one 8 1 (.one 9 0 (Tr.done))))))))))
  | _ => .done
def pl108 : Nat → Tr
  | 2 => .one 0 0 (.one 1 0 (.one 2 0 (.one 4 0 (.one 5 0 (.one 6 0 (.one 7 0 (.one 8 0 (.one 3 1 (.one 9 1 (.one 10 0 (.one 11 0 (.one 12 0 (.one 13 0 (.one 14 0 (.one 15 1 (.one 16 2 (Tr.done)))))))))))))))))
  | _ => .done
def pl109 : Nat → Tr
  | 6 => .one 0 0 (.one 1 0 (.one 2 0 (.one 3 0 (.one 4 1 (.one 5 1 (.prm 6 [4] (.one 7 2 (.one 8 0 (.one 9 0 (.one 10 2 (Tr.done)))))))))))
  | _ => .done
def pl111 : Nat → Tr
  | 1 => .one 0 0 (.one 1 0 (.one 2 0 (.one 4 0 (.one 6 0 (.one 8 0 (.one 3 1 (.one 5 1 (.one 7 1 (.one 9 1 (.alt 10 [] (.one 11 0 (.one 12 0 (.one 13 0 (.one 14 2 (.one 15 2 (.one 16 0 (Tr.done))))))) 14 [3, 5, 7, 9] (.one 10 2 (.one 11 0 (.one 12 0 (.one 13 0 (.one 15 2 (.one 16 0 (Tr.done)))))))))))))))))
  | 2 => .one 0 0 (.one 1 0 (.one 2 0 (.one 4 0 (.one 6 0 (.one 8 0 (.one 3 1 (.one 5 1 (.one 7 1 (.one 9 1 (.one 10 2 (.one 11 0 (.one 12 0 (.one 13 0 (.one 14 0 (.one 15 0 (Tr.done))))))))))))))))
  | 9 => .one 1 0 (.one 0 1 (.one 2 0 (.one 3 0 (.one 4 0 (.one 5 0 (.one 6 0 (.one 7 0 (.one 8 0 (.one 10 0 (.one 11 0 (.one 12 0 (.one 13 0 (.one 14 0 (.one 9 2 (.one 15 0 (.one 16 0 (.one 17 0 (Tr.done))))))))))))))))))
  | 18 => .one 0 0 (.one 1 0 (.one 2 0 (.one 4 0 (.one 6 0 (.one 8 0 (.one 3 1 (.one 5 1 (.one 7 1 (.one 9 1 (.one 10 2 (Tr.done)))))))))))
  | 19 => .one 0 0 (.one 1 0 (.one 2 0 (.one 3 0 (.one 4 1 (.one 5 1 (.prm 6 [4] (.one 7 2 (.one 8 0 (.one 9 0 (.one 10 2 (Tr.done)))))))))))
  | _ => .done
def pl112 : Nat → Tr
  | 7 => .one 0 0 (.one 1 0 (.one 2 0 (.one 4 0 (.one 5 0 (.one 6 0 (.one 11 0 (.one 3 1 (.one 7 1 (.one 8 0 (.one 9 0 (.one 10 1 (.one 12 2 (.one 13 0 (Tr.done))))))))))))))
  | _ => .done
def pl114 : Nat → Tr
  | 2 => .one 0 0 (.one 1 0 (.one 2 0 (.one 3 0 (.one 4 1 (.one 5 0 (.one 6 0 (.one 7 0 (.one 9 0 (.one 10 0 (.one 11 0 (.one 13 0 (.one 8 1 (.one 12 1 (.one 14 0 (.one 15 1 (.one 16 0 (.one 17 0 (.one 18 0 (.one 19 0 (Tr.done))))))))))))))))))))
  | _ => .done
def pl119 : Nat → Tr
  | 1 => .one 0 0 (.one 1 0 (.one 2 0 (.one 3 1 (.one 4 1 (.alt 5 [] (.one 6 0 (.one 7 0 (.one 8 0 (.one 9 2 (.one 10 2 (.one 11 0 (Tr.done))))))) 9 [3, 4] (.one 5 2 (.one 6 0 (.one 7 0 (.one 8 0 (.one 10 2 (.one 11 0 (Tr.done))))))))))))
  | 5 => .one 0 0 (.one 1 0 (.one 2 0 (.one 4 0 (.one 5 0 (.one 6 0 (.one 8 0 (.one 9 0 (.one 10 0 (.one 12 0 (.one 13 0 (.one 14 0 (.one 16 0 (.one 17 0 (.one 18 0 (.one 21 0 (.one 22 0 (.one 23 0 (.one 3 1 (.one 7 1 (.one 11 1 (.one 15 1 (.one 19 1 (.one 20 0 (.one 24 1 (.one 25 0 (.one 26 0 (.one 27 0 (.one 28 0 (Tr.done)))))))))))))))))))))))))))))
  | _ => .done
def pl121 : Nat → Tr
  | 6 => .one 4 0 (.one 0 1 (.one 1 0 (.one 2 0 (.one 3 1 (.one 5 1 (.one 6 2 (Tr.done)))))))
  | 9 => .one 4 0 (.one 6 0 (.one 0 1 (.one 1 0 (.one 2 0 (.one 3 1 (.one 5 1 (.one 7 0 (.one 8 2 (.one 9 0 (.one 10 0 (.one 11 0 (.one 12 0 (.one 13 0 (Tr.done))))))))))))))
  | 10 => .one 4 0 (.one 0 1 (.one 1 0 (.one 2 0 (.one 3 1 (.one 5 1 (.alt 6 [] (.one 7 0 (.one 8 0 (.one 9 0 (.one 10 2 (.one 11 2 (.one 12 0 (Tr.done))))))) 10 [0, 3, 5] (.one 6 2 (.one 7 0 (.one 8 0 (.one 9 0 (.one 11 2 (.one 12 0 (Tr.done)))))))))))))
  | 16 => .one 0 1 (.one 1 0 (.one 2 0 (.one 3 1 (.one 5 1 (.prm 4 [5] (.one 6 0 (.one 7 2 (Tr.done))))))))
  | _ => .done
def pl122 : Nat → Tr
  | 3 => .one 0 0 (.one 1 0 (.one 2 1 (.prm 3 [2] (.one 4 2 (.one 5 0 (.one 6 0 (.one 7 0 (.one 8 0 (.one 9 0 (Tr.done))))))))))
  | 4 => .one 0 0 (.one 1 0 (.one 4 0 (.one 5 0 (.one 8 0 (.one 9 0 (.one 12 0 (.one 13 0 (.one 2 1 (.one 3 0 (.one 6 1 (.one 10 1 (.one 11 0 (.one 14 1 (.alt 7 [2, 10, 14] (.alt 15 [2, 10] (.one 16 0 (.prm 17 [2, 10] (.one 18 2 (Tr.done)))) 17 [2, 10, 14] (.prm 15 [2, 10] (.one 16 0 (.one 18 2 (Tr.done))))) 17 [2, 6, 10, 14] (.prm 7 [2, 10, 14] (.prm 15 [2, 10] (.one 16 0 (.one 18 2 (Tr.done)))))))))))))))))))
  | _ => .done
def pl123 : Nat → Tr
  | 7 => .one 0 0 (.one 1 0 (.one 2 0 (.one 3 0 (.one 4 1 (.one 5 1 (.prm 6 [4] (.prm 7 [4] (.one 8 2 (.one 9 0 (.one 10 0 (.one 11 2 (Tr.done))))))))))))
  | _ => .done
def pl124 : Nat → Tr
  | 8 => .one 0 0 (.one 1 0 (.one 2 0 (.one 4 0 (.one 5 0 (.one 6 0 (.one 8 0 (.one 3 1 (.one 7 1 (.one 9 2 (Tr.done))))))))))
  | _ => .done
def pl129 : Nat → Tr
  | 10 => .one 0 0 (.one 1 0 (.one 2 0 (.one 4 0 (.one 5 0 (.one 6 0 (.one 8 0 (.one 3 1 (.one 7 1 (.one 9 2 (.one 10 0 (.one 11 0 (.one 12 0 (.one 13 0 (.one 14 0 (Tr.done)))))))))))))))
  | _ => .done
def pl130 : Nat → Tr
  | 9 => .one 0 0 (.one 1 0 (.one 3 0 (.one 4 0 (.one 2 1 (.prm 5 [2] (.one 6 0 (.one 7 0 (.one 8 2 (Tr.done)))))))))
  | _ => .done
def pl134 : Nat → Tr
  | 1 => .one 4 0 (.one 0 1 (.one 1 0 (.one 2 0 (.one 3 1 (.one 5 1 (.one 6 1 (.one 7 2 (.one 8 0 (.one 9 0 (.one 10 0 (.one 11 2 (.one 12 0 (Tr.done)))))))))))))
  | _ => .done
def pl137 : Nat → Tr
  | 1 => .one 4 0 (.one 0 1 (.one 1 0 (.one 2 0 (.one 3 1 (.one 5 1 (.one 6 1 (.one 7 2 (.one 8 0 (.one 9 0 (.one 10 0 (.one 11 2 (.one 12 0 (Tr.done)))))))))))))
  | _ => .done
def pl138 : Nat → Tr
  | 1 => .one 4 0 (.one 0 1 (.one 1 0 (.one 2 0 (.one 3 1 (.one 5 1 (.alt 6 [] (.one 7 0 (.one 8 0 (.one 9 0 (.one 10 0 (.one 11 2 (.one 12 2 (.one 13 0 (.one 14 0 (Tr.done))))))))) 11 [0, 3, 5] (.one 6 2 (.one 7 0 (.one 8 0 (.one 9 0 (.one 10 0 (.one 12 2 (.one 13 0 (.one 14 0 (Tr.done)))))))))))))))
  | _ => .done
def pl139 : Nat → Tr
  | 4 => .one 0 0 (.one 1 0 (.one 2 0 (.one 3 1 (.one 4 1 (.alt 5 [] (.one 6 0 (.one 7 0 (.one 8 0 (.one 9 2 (.one 10 2 (.one 11 0 (Tr.done))))))) 9 [3, 4] (.one 5 2 (.one 6 0 (.one 7 0 (.one 8 0 (.one 10 2 (.one 11 0 (Tr.done))))))))))))
  | _ => .done
def pl140 : Nat → Tr
  | 2 => .one 0 0 (.one 1 0 (.one 2 0 (.one 3 1 (.one 4 1 (.one 5 2 (Tr.done))))))
  | 5 => .one 0 0 (.one 1 0 (.one 2 0 (.one 4 0 (.one 3 1 (.one 5 1 (.alt 6 [] (.one 7 0 (.one 8 0 (.one 9 0 (.one 10 2 (.one 11 2 (.one 12 0 (Tr.done))))))) 10 [3, 5] (.one 6 2 (.one 7 0 (.one 8 0 (.one 9 0 (.one 11 2 (.one 12 0 (Tr.done)))))))))))))
  | 7 => .one 0 0 (.one 1 0 (.one 2 0 (.one 5 0 (.one 6 0 (.one 3 1 (.one 4 1 (.one 7 1 (.one 8 2 (Tr.done)))))))))
  | _ => .done
def pl143 : Nat → Tr
  | 8 => .one 0 0 (.one 1 0 (.one 2 0 (.one 4 0 (.one 3 1 (.one 5 1 (.one 6 2 (Tr.done)))))))
  | _ => .done
def pl144 : Nat → Tr
  | 1 => .one 4 0 (.one 0 1 (.one 1 0 (.one 2 0 (.one 3 1 (.one 5 1 (.one 6 1 (.one 7 1 (.one 8 2 (.one 9 0 (Tr.done))))))))))
  | _ => .done
def pl146 : Nat → Tr
  | 3 => .one 0 0 (.one 1 0 (.one 2 0 (.one 3 1 (.one 4 1 (.alt 5 [] (.one 6 0 (.one 7 0 (.one 8 0 (.one 9 2 (.one 10 2 (.one 11 0 (Tr.done))))))) 9 [3, 4] (.one 5 2 (.one 6 0 (.one 7 0 (.one 8 0 (.one 10 2 (.one 11 0 (Tr.done))))))))))))
  | _ => .done
def pl148 : Nat → Tr
  | 2 => .one 0 1 (.one 1 0 (.one 2 0 (.one 3 1 (.one 4 1 (.one 5 1 (.one 6 2 (.one 7 0 (Tr.done))))))))
  | _ => .done
def pl149 : Nat → Tr
  | 4 => .one 0 1 (.one 1 0 (.one 2 0 (.one 3 1 (.one 4 1 (.one 5 1 (.one 6 2 (.one 7 0 (Tr.done))))))))
  | _ => .done
def pl150 : Nat → Tr
  | 4 => .one 0 0 (.one 1 0 (.one 2 0 (.one 4 0 (.one 5 0 (.one 7 0 (.alt 3 [] (.one 6 2 (.one 8 0 (.one 9 2 (.one 10 0 (.one 11 0 (Tr.done)))))) 6 [] (.one 3 2 (.one 8 0 (.one 9 2 (.one 10 0 (.one 11 0 (Tr.done))))))))))))
  | _ => .done
def pl161 : Nat → Tr
  | 1 => .one 0 0 (.one 1 0 (.one 2 0 (.one 5 0 (.one 6 0 (.one 7 0 (.one 3 1 (.one 8 1 (.prm 4 [8] (.one 9 2 (.one 10 0 (Tr.done)))))))))))
  | _ => .done
def pl162 : Nat → Tr
  | 2 => .one 0 0 (.one 1 0 (.one 2 0 (.one 3 1 (.one 4 1 (.alt 5 [] (.one 6 0 (.one 7 0 (.one 8 0 (.one 9 2 (.one 10 2 (.one 11 0 (Tr.done))))))) 9 [3, 4] (.one 5 2 (.one 6 0 (.one 7 0 (.one 8 0 (.one 10 2 (.one 11 0 (Tr.done))))))))))))
  | 3 => .one 0 1 (.one 1 1 (.prm 2 [1] (.one 3 2 (Tr.done))))
  | _ => .done
def pl164 : Nat → Tr
  | 4 => .one 0 0 (.one 1 0 (.one 2 0 (.one 3 1 (.one 4 1 (.one 5 2 (Tr.done))))))
  | 5 => .one 0 0 (.one 1 0 (.one 2 0 (.one 4 0 (.one 3 1 (.one 5 1 (.one 6 2 (Tr.done)))))))
  | 6 => .one 0 0 (.one 1 0 (.one 2 0 (.one 4 0 (.one 3 1 (.one 5 1 (.one 6 1 (.one 7 2 (Tr.done))))))))
  | _ => .done
def pl167 : Nat → Tr
  | 10 => .one 0 0 (.one 1 0 (.one 2 0 (.one 3 0 (.one 4 0 (.one 6 0 (.one 7 0 (.one 8 0 (.one 5 1 (.one 9 1 (.one 10 0 (.one 11 0 (.one 12 2 (.one 13 0 (.one 14 0 (.one 15 2 (Tr.done))))))))))))))))
  | _ => .done
def pl168 : Nat → Tr
  | 1 => .one 0 0 (.one 1 0 (.one 2 0 (.one 4 0 (.one 7 0 (.one 3 1 (.one 5 1 (.one 6 1 (.one 8 2 (Tr.done)))))))))
  | 3 => .one 0 0 (.one 1 0 (.one 2 0 (.one 3 1 (.one 4 1 (.one 5 1 (.one 6 2 (Tr.done)))))))
  | _ => .done
def pl170 : Nat → Tr
  | 7 => .one 0 0 (.one 1 0 (.one 2 0 (.one 3 1 (.one 4 1 (.alt 5 [] (.one 6 0 (.one 7 0 (.one 8 0 (.one 9 2 (.one 10 2 (.one 11 0 (Tr.done))))))) 9 [3, 4] (.one 5 2 (.one 6 0 (.one 7 0 (.one 8 0 (.one 10 2 (.one 11 0 (Tr.done))))))))))))
  | _ => .done
def pl178 : Nat → Tr
  | 5 => .one 0 0 (.one 1 0 (.one 2 0 (.one 4 0 (.one 3 1 (.one 5 1 (.one 6 2 (.one 7 0 (.one 8 0 (.one 9 0 (.one 10 0 (.one 11 0 (Tr.done))))))))))))
  | 6 => .one 0 0 (.one 1 0 (.one 2 0 (.one 4 0 (.one 3 1 (.one 5 1 (.one 6 2 (.one 7 0 (.one 8 0 (.one 9 0 (.one 10 0 (.one 11 0 (Tr.done))))))))))))
  | 9 => .one 0 0 (.one 1 0 (.one 2 0 (.one 4 0 (.one 3 1 (.one 5 1 (.one 6 2 (.one 7 0 (.one 8 0 (.one 9 0 (.one 10 0 (.one 11 0 (Tr.done))))))))))))
  | 10 => .one 0 0 (.one 1 0 (.one 2 0 (.one 4 0 (.one 3 1 (.one 5 1 (.one 6 2 (.one 7 0 (.one 8 0 (.one 9 0 (.one 10 0 (.one 11 0 (Tr.done))))))))))))
  | 14 => .one 0 0 (.one 1 0 (.one 2 0 (.one 4 0 (.one 6 0 (.one 3 1 (.one 5 1 (.one 7 2 (.one 8 0 (.one 9 0 (.one 10 0 (.one 11 0 (.one 12 0 (Tr.done)))))))))))))
  | 15 => .one 0 0 (.one 1 0 (.one 2 0 (.one 4 0 (.one 6 0 (.one 3 1 (.one 5 1 (.one 7 2 (.one 8 0 (Tr.done)))))))))
  | 20 => .one 0 0 (.one 1 0 (.one 2 0 (.one 3 0 (.one 4 0 (.one 5 0 (.one 6 0 (.one 8 0 (.one 10 0 (.one 7 1 (.one 9 1 (.one 11 2 (.one 12 0 (.one 13 0 (.one 14 0 (Tr.done)))))))))))))))
  | _ => .done
def pl179 : Nat → Tr
  | 3 => .one 0 0 (.one 2 0 (.one 3 0 (.one 6 0 (.one 1 1 (.one 4 1 (.one 5 0 (.one 7 1 (.one 8 0 (.one 9 2 (.one 10 0 (Tr.done)))))))))))
  | _ => .done
def pl184 : Nat → Tr
  | 2 => .one 0 0 (.one 1 0 (.one 2 0 (.one 3 1 (.one 4 0 (.one 5 0 (.one 6 1 (.one 7 1 (.alt 8 [] (.one 9 0 (.one 10 0 (.one 11 0 (.one 12 2 (.one 13 2 (.one 14 0 (Tr.done))))))) 12 [3, 6, 7] (.one 8 2 (.one 9 0 (.one 10 0 (.one 11 0 (.one 13 2 (.one 14 0 (Tr.done)))))))))))))))
  | 3 => .one 0 1 (.one 1 1 (.prm 2 [1] (.one 3 2 (Tr.done))))
  | _ => .done
def pl186 : Nat → Tr
  | 6 => .one 0 0 (.one 1 0 (.one 2 0 (.one 4 0 (.one 7 0 (.one 3 1 (.one 5 1 (.one 6 1 (.one 8 1 (.one 9 0 (.one 10 0 (Tr.done)))))))))))
  | 7 => .one 0 0 (.one 2 0 (.one 3 0 (.one 1 1 (.one 4 1 (.prm 5 [1] (.one 6 0 (.one 7 0 (Tr.done))))))))
  | _ => .done
def pl187 : Nat → Tr
  | 2 => .one 0 0 (.one 1 0 (.one 2 0 (.one 7 0 (.one 3 1 (.one 4 0 (.one 5 0 (.one 6 1 (.one 8 1 (.alt 9 [] (.one 10 0 (.one 11 0 (.one 12 0 (.one 13 0 (.one 14 2 (.one 15 2 (.one 16 0 (.one 17 0 (Tr.done))))))))) 14 [3, 6, 8] (.one 9 2 (.one 10 0 (.one 11 0 (.one 12 0 (.one 13 0 (.one 15 2 (.one 16 0 (.one 17 0 (Tr.done))))))))))))))))))
  | 7 => .one 0 0 (.one 1 0 (.one 2 0 (.one 7 0 (.one 8 0 (.one 3 1 (.one 4 0 (.one 5 0 (.one 6 1 (.one 9 1 (.one 10 2 (Tr.done)))))))))))
  | 9 => .one 0 0 (.one 1 0 (.one 2 0 (.one 3 1 (.one 4 0 (.one 5 0 (.one 6 1 (.one 7 1 (.one 8 1 (.one 9 2 (Tr.done))))))))))
  | 15 => .one 0 0 (.one 2 0 (.one 3 0 (.one 4 0 (.one 1 1 (.one 5 1 (.one 6 0 (Tr.done)))))))
  | _ => .done
def pl189 : Nat → Tr
  | 1 => .one 0 0 (.one 1 0 (.one 2 0 (.one 3 1 (.one 4 0 (.one 5 0 (.one 6 1 (.one 7 1 (.alt 8 [] (.one 9 0 (.one 10 0 (.one 11 0 (.one 12 2 (.one 13 2 (.one 14 0 (Tr.done))))))) 12 [3, 6, 7] (.one 8 2 (.one 9 0 (.one 10 0 (.one 11 0 (.one 13 2 (.one 14 0 (Tr.done)))))))))))))))
  | 3 => .one 0 0 (.one 1 0 (.one 2 0 (.one 3 0 (.one 4 0 (.one 6 0 (.one 5 1 (.one 7 0 (.one 8 0 (.prm 9 [5] (.one 10 0 (Tr.done)))))))))))
  | 8 => .one 0 0 (.one 1 0 (.one 2 0 (.one 4 0 (.one 5 0 (.one 6 0 (.one 8 0 (.one 9 0 (.one 10 0 (.one 12 0 (.one 15 0 (.one 16 0 (.one 17 0 (.one 19 0 (.one 20 0 (.one 21 0 (.one 23 0 (.one 24 0 (.one 25 0 (.one 27 0 (.one 28 0 (.one 29 0 (.one 31 0 (.one 32 0 (.one 33 0 (.one 36 0 (.one 37 0 (.one 38 0 (.one 3 1 (.one 7 1 (.one 11 1 (.one 13 0 (.one 14 0 (.one 18 1 (.one 22 1 (.one 26 1 (.one 30 1 (.one 34 1 (.one 35 0 (.one 39 1 (.one 40 0 (.one 41 0 (.one 42 0 (.prm 43 [18, 22, 26, 30, 34, 39] (.one 44 0 (Tr.done)))))))))))))))))))))))))))))))))))))))))))))
  | _ => .done
def pl190 : Nat → Tr
  | 2 => .one 0 0 (.one 1 0 (.one 2 0 (.one 3 0 (.one 4 1 (.one 5 0 (.one 6 0 (.one 7 0 (.one 9 0 (.one 10 0 (.one 11 0 (.one 13 0 (.one 8 1 (.one 12 1 (.one 14 0 (.one 15 1 (.one 16 0 (.one 17 0 (.one 18 0 (.one 19 0 (Tr.done))))))))))))))))))))
  | _ => .done
def pl191 : Nat → Tr
  | 5 => .one 0 0 (.one 1 0 (.one 8 0 (.one 2 1 (.one 3 1 (.one 4 1 (.one 5 0 (.one 6 0 (.one 7 1 (.one 9 0 (.one 10 0 (.one 11 1 (.one 12 2 (.one 13 0 (.one 14 0 (Tr.done)))))))))))))))
  | _ => .done
def pl193 : Nat → Tr
  | 3 => .one 0 0 (.one 1 1 (.one 2 0 (.one 3 0 (.one 4 0 (.one 6 0 (.one 7 0 (.one 8 0 (.one 5 1 (.one 9 1 (.one 10 0 (.one 11 0 (.one 12 0 (.one 13 0 (.one 14 0 (.one 15 0 (.one 16 0 (.one 18 0 (.one 17 1 (.one 19 1 (.one 20 0 (.one 21 0 (.one 22 1 (.one 23 0 (.one 24 0 (.one 25 0 (.one 26 0 (.one 27 0 (.one 28 0 (.one 30 0 (.one 35 0 (.one 29 1 (.one 31 1 (.one 32 0 (.one 33 0 (.one 34 1 (.one 36 1 (.one 37 0 (.one 38 0 (Tr.done)))))))))))))))))))))))))))))))))))))))
  | 5 => .one 0 0 (.one 1 0 (.one 2 0 (.one 4 0 (.one 3 1 (.one 5 1 (.one 6 0 (.one 7 0 (.one 8 0 (Tr.done)))))))))
  | _ => .done
def pl195 : Nat → Tr
  | 8 => .one 2 0 (.one 3 0 (.one 0 1 (.one 1 1 (.prm 4 [1] (.one 5 2 (.one 6 0 (.one 7 0 (Tr.done))))))))
  | _ => .done
def pl201 : Nat → Tr
  | 10 => .one 0 0 (.one 1 0 (.one 2 0 (.one 4 0 (.one 6 0 (.one 3 1 (.one 5 1 (.one 7 0 (.one 8 2 (Tr.done)))))))))
  | 12 => .one 0 0 (.one 1 1 (.one 2 0 (.one 3 0 (.one 4 0 (.one 5 0 (.one 6 0 (.one 8 0 (.one 9 0 (.one 10 0 (.one 11 0 (.one 12 0 (.one 7 1 (.one 13 1 (.prm 14 [7] (.one 15 0 (.one 16 0 (.one 17 0 (Tr.done))))))))))))))))))
  | _ => .done
def pl203 : Nat → Tr
  | 4 => .one 0 0 (.one 1 0 (.one 2 0 (.one 7 0 (.one 3 1 (.one 4 0 (.one 5 0 (.one 6 1 (.one 8 1 (.one 9 2 (.one 10 0 (.one 11 0 (.one 12 0 (.one 13 0 (.one 14 0 (Tr.done)))))))))))))))
  | 5 => .one 0 0 (.one 1 0 (.one 2 0 (.one 4 0 (.one 3 1 (.one 5 1 (.one 6 2 (.one 7 0 (.one 8 0 (.one 9 0 (.one 10 0 (.one 11 0 (Tr.done))))))))))))
  | 8 => .one 0 0 (.one 1 0 (.one 2 0 (.one 7 0 (.one 3 1 (.one 4 0 (.one 5 0 (.one 6 1 (.one 8 1 (.one 9 2 (.one 10 0 (.one 11 0 (.one 12 0 (.one 13 0 (.one 14 0 (Tr.done)))))))))))))))
  | 9 => .one 0 0 (.one 1 0 (.one 2 0 (.one 4 0 (.one 3 1 (.one 5 1 (.one 6 2 (.one 7 0 (.one 8 0 (.one 9 0 (.one 10 0 (.one 11 0 (Tr.done))))))))))))
  | 14 => .one 0 0 (.one 1 0 (.one 2 0 (.one 5 0 (.one 3 1 (.one 4 1 (.one 6 1 (.one 7 2 (.one 8 0 (.one 9 0 (.one 10 0 (.one 11 0 (.one 12 0 (Tr.done)))))))))))))
  | 15 => .one 0 0 (.one 1 0 (.one 2 0 (.one 4 0 (.one 5 0 (.one 3 1 (.one 6 1 (.one 7 2 (.one 8 0 (Tr.done)))))))))
  | 18 => .one 0 0 (.one 1 0 (.one 2 0 (.one 3 0 (.one 4 0 (.one 5 0 (.one 6 0 (.one 7 0 (.one 8 0 (.one 13 0 (.one 19 0 (.one 9 1 (.one 10 0 (.one 11 0 (.one 12 1 (.one 14 0 (.one 15 1 (.one 16 0 (.one 17 0 (.one 18 1 (.one 20 1 (.one 21 0 (.one 22 1 (.one 23 0 (.one 24 0 (.prm 25 [9, 12, 15, 18, 20, 22] (.one 26 0 (Tr.done)))))))))))))))))))))))))))
  | 20 => .one 0 0 (.one 1 0 (.one 2 0 (.one 5 0 (.one 7 0 (.one 10 0 (.one 11 0 (.one 12 0 (.one 14 0 (.one 15 0 (.one 3 1 (.one 4 1 (.one 6 1 (.one 8 1 (.one 13 1 (.one 16 1 (.prm 9 [13, 16] (.one 17 2 (.one 18 0 (.one 19 0 (Tr.done))))))))))))))))))))
  | 22 => .one 0 0 (.one 1 0 (.one 2 0 (.one 7 0 (.one 13 0 (.one 15 0 (.one 3 1 (.one 4 0 (.one 5 0 (.one 6 1 (.one 8 0 (.one 9 1 (.one 10 0 (.one 11 0 (.one 12 1 (.one 14 1 (.one 16 1 (.one 17 0 (.one 18 2 (Tr.done)))))))))))))))))))
  | 25 => .one 0 0 (.one 1 0 (.one 2 0 (.one 5 0 (.one 3 1 (.one 4 1 (.one 6 1 (.alt 7 [] (.one 8 0 (.one 9 0 (.one 10 0 (.one 11 2 (.one 12 2 (.one 13 0 (Tr.done))))))) 11 [3, 4, 6] (.one 7 2 (.one 8 0 (.one 9 0 (.one 10 0 (.one 12 2 (.one 13 0 (Tr.done))))))))))))))
  | 26 => .one 0 0 (.one 1 0 (.one 2 0 (.one 4 0 (.one 5 0 (.one 3 1 (.one 6 1 (.one 7 2 (.one 8 0 (.one 9 0 (.one 10 0 (.one 11 0 (.one 12 0 (.one 13 0 (.one 14 0 (Tr.done)))))))))))))))
  | 30 => .one 0 0 (.one 1 0 (.one 2 0 (.one 4 0 (.one 5 0 (.one 7 0 (.one 3 1 (.one 6 1 (.one 8 2 (.one 9 0 (Tr.done))))))))))
  | 31 => .one 0 0 (.one 1 0 (.one 2 0 (.one 3 0 (.one 4 0 (.one 10 0 (.one 14 0 (.one 5 1 (.one 6 0 (.one 7 0 (.one 8 1 (.one 9 1 (.one 11 1 (.one 12 1 (.one 13 2 (.one 15 0 (.one 16 2 (.one 17 0 (Tr.done))))))))))))))))))
  | 33 => .one 0 0 (.one 1 0 (.one 2 0 (.one 4 0 (.one 5 0 (.one 3 1 (.one 6 1 (.one 7 2 (.one 8 0 (Tr.done)))))))))
  | 34 => .one 0 0 (.one 1 0 (.one 2 0 (.one 3 0 (.one 4 0 (.one 10 0 (.one 13 0 (.one 5 1 (.one 6 0 (.one 7 0 (.one 8 1 (.one 9 1 (.one 11 1 (.one 12 2 (.one 14 0 (.one 15 2 (.one 16 0 (Tr.done)))))))))))))))))
  | 37 => .one 0 0 (.one 1 0 (.one 2 0 (.one 3 0 (.one 4 0 (.one 11 0 (.one 5 1 (.one 6 0 (.one 7 0 (.one 8 1 (.one 9 1 (.one 10 2 (.one 12 0 (.one 13 2 (.one 14 0 (Tr.done)))))))))))))))
  | 39 => .one 0 0 (.one 1 0 (.one 2 0 (.one 4 0 (.one 5 0 (.one 3 1 (.one 6 1 (.one 7 0 (.one 8 0 (.one 9 2 (.one 10 0 (Tr.done)))))))))))
  | 40 => .one 0 0 (.one 1 0 (.one 2 0 (.one 3 0 (.one 4 0 (.one 7 0 (.one 12 0 (.one 5 1 (.one 6 1 (.one 8 1 (.one 9 0 (.one 10 0 (.one 11 2 (.one 13 0 (.one 14 2 (.one 15 0 (Tr.done))))))))))))))))
  | 44 => .one 0 0 (.one 1 0 (.one 2 0 (.one 8 0 (.one 3 1 (.one 4 0 (.one 5 0 (.one 6 1 (.one 7 1 (.one 9 1 (.alt 10 [] (.one 11 0 (.one 12 0 (.one 13 0 (.one 14 2 (.one 15 2 (.one 16 0 (Tr.done))))))) 14 [3, 6, 7, 9] (.one 10 2 (.one 11 0 (.one 12 0 (.one 13 0 (.one 15 2 (.one 16 0 (Tr.done)))))))))))))))))
  | 45 => .one 0 0 (.one 1 0 (.one 2 0 (.one 4 0 (.one 5 0 (.one 3 1 (.one 6 1 (.one 7 2 (.one 8 0 (Tr.done)))))))))
  | 47 => .one 0 0 (.one 1 0 (.one 2 0 (.one 3 0 (.one 4 0 (.one 5 0 (.one 7 0 (.one 6 1 (.one 8 0 (.one 9 0 (.prm 10 [6] (.one 11 0 (Tr.done))))))))))))
  | 49 => .one 0 0 (.one 1 0 (.one 2 0 (.one 4 0 (.one 8 0 (.one 9 0 (.one 10 0 (.one 12 0 (.one 17 0 (.one 18 0 (.one 19 0 (.one 20 0 (.one 22 0 (.one 23 0 (.one 24 0 (.one 26 0 (.one 30 0 (.one 31 0 (.one 32 0 (.one 34 0 (.one 3 1 (.one 5 1 (.one 6 0 (.one 7 1 (.one 11 1 (.one 13 1 (.one 14 0 (.one 15 1 (.one 16 0 (.one 21 1 (.one 25 1 (.one 27 1 (.one 28 0 (.one 29 1 (.one 33 1 (.one 35 1 (.one 36 0 (.one 37 1 (.prm 38 [3, 5, 7, 11, 13, 15] (.one 39 0 (.one 40 2 (.one 41 0 (Tr.done))))))))))))))))))))))))))))))))))))))))))
  | _ => .done
def pl205 : Nat → Tr
  | 18 => .one 0 0 (.one 1 0 (.one 2 0 (.one 4 0 (.one 3 1 (.one 5 0 (.one 6 1 (.one 7 0 (.one 8 0 (.one 9 0 (.one 10 0 (.one 11 0 (.one 13 0 (.one 14 0 (.one 15 0 (.one 17 0 (.one 12 1 (.one 16 1 (.one 18 0 (.one 19 1 (.one 20 0 (.one 21 1 (.one 22 0 (.one 23 0 (.one 24 1 (.one 25 0 (Tr.done))))))))))))))))))))))))))
  | _ => .done
def pl208 : Nat → Tr
  | 2 => .one 0 0 (.one 1 0 (.one 2 0 (.one 4 0 (.one 5 0 (.one 6 0 (.one 7 0 (.one 8 0 (.one 3 1 (.one 9 1 (.one 10 0 (.one 11 0 (.one 12 0 (.one 13 0 (.one 14 0 (.one 15 1 (.one 16 2 (Tr.done)))))))))))))))))
  | _ => .done
def pl210 : Nat → Tr
  | 5 => .one 0 0 (.one 1 0 (.one 2 0 (.one 4 0 (.one 5 0 (.one 6 0 (.one 10 0 (.one 3 1 (.one 7 1 (.one 8 0 (.one 9 1 (.one 11 0 (.one 12 0 (.one 13 2 (Tr.done))))))))))))))
  | _ => .done
def pl214 : Nat → Tr
  | 5 => .one 0 0 (.one 1 0 (.one 3 0 (.one 4 0 (.one 7 0 (.one 2 1 (.one 5 1 (.one 6 1 (.one 8 1 (.prm 9 [2, 5, 6] (.prm 10 [2] (.one 11 2 (Tr.done))))))))))))
  | _ => .done
def pl215 : Nat → Tr
  | 1 => .one 0 0 (.one 2 0 (.one 3 0 (.one 4 0 (.one 1 1 (.one 5 1 (.one 6 0 (.one 7 0 (.one 8 1 (.prm 9 [1] (.one 10 0 (.one 11 0 (Tr.done))))))))))))
  | 2 => .one 0 0 (.one 1 0 (.one 3 0 (.one 6 0 (.one 7 0 (.one 8 0 (.one 2 1 (.one 4 0 (.one 5 0 (.one 9 1 (.one 10 0 (.one 11 0 (.one 12 1 (.prm 13 [2] (.one 14 0 (.one 15 0 (Tr.done))))))))))))))))
  | 4 => .one 0 0 (.one 1 0 (.one 2 0 (.one 7 0 (.one 9 0 (.one 3 1 (.one 4 0 (.one 5 0 (.one 6 1 (.one 10 1 (.prm 8 [10] (.one 11 0 (Tr.done))))))))))))
  | _ => .done
def pl216 : Nat → Tr
  | 2 => .one 7 0 (.one 0 1 (.one 1 0 (.one 2 0 (.one 3 1 (.one 4 0 (.one 5 0 (.one 6 1 (.one 8 1 (.one 9 2 (Tr.done))))))))))
  | 6 => .one 7 0 (.one 0 1 (.one 1 0 (.one 2 0 (.one 3 1 (.one 4 0 (.one 5 0 (.one 6 1 (.one 8 1 (.alt 9 [] (.one 10 0 (.one 11 0 (.one 12 0 (.one 13 2 (.one 14 2 (.one 15 0 (Tr.done))))))) 13 [0, 3, 6, 8] (.one 9 2 (.one 10 0 (.one 11 0 (.one 12 0 (.one 14 2 (.one 15 0 (Tr.done))))))))))))))))
  | 11 => .one 0 1 (.one 2 0 (.one 1 1 (.one 3 0 (Tr.done))))
  | _ => .done
def pl217 : Nat → Tr
  | 8 => .one 0 0 (.one 1 0 (.one 2 0 (.one 3 1 (.one 4 0 (.one 5 0 (.one 6 1 (.one 7 1 (.one 8 2 (.one 9 0 (.one 10 0 (.one 11 0 (.one 12 0 (.one 13 0 (Tr.done))))))))))))))
  | _ => .done
def pl221 : Nat → Tr
  | 17 => .one 0 0 (.one 1 0 (.one 2 0 (.one 3 0 (.one 4 0 (.one 5 0 (.one 6 0 (.one 7 0 (.one 9 0 (.one 10 0 (.one 11 0 (.one 8 1 (.one 12 1 (.one 13 2 (.one 14 0 (.one 15 0 (.one 16 0 (Tr.done)))))))))))))))))
  | _ => .done
def pl228 : Nat → Tr
  | 7 => .one 0 0 (.one 1 0 (.one 5 0 (.one 2 1 (.one 6 1 (.prm 3 [6] (.one 4 0 (.one 7 0 (.one 8 2 (.one 9 2 (.one 10 2 (Tr.done)))))))))))
  | _ => .done
def pl232 : Nat → Tr
  | 1 => .one 0 0 (.one 3 0 (.one 1 1 (.one 4 1 (.prm 2 [4] (.one 6 0 (.one 5 2 (.one 7 2 (.one 8 0 (.one 9 2 (Tr.done))))))))))
  | _ => .done
def pl233 : Nat → Tr
  | 6 => .one 0 0 (.one 1 0 (.one 2 0 (.one 4 0 (.one 5 0 (.one 6 0 (.one 7 0 (.one 3 1 (.one 8 1 (.one 9 0 (Tr.done))))))))))
  | 11 => .one 0 0 (.one 1 0 (.one 2 0 (.one 4 0 (.one 5 0 (.one 6 0 (.one 7 0 (.one 3 1 (.one 8 1 (.one 9 0 (Tr.done))))))))))
  | _ => .done
def pl234 : Nat → Tr
  | 3 => .one 0 0 (.one 1 0 (.one 2 0 (.one 4 0 (.one 5 0 (.one 6 0 (.one 3 1 (.one 7 1 (.one 8 0 (.one 9 0 (Tr.done))))))))))
  | _ => .done
def pl235 : Nat → Tr
  | 13 => .one 0 0 (.one 1 0 (.one 2 0 (.one 4 0 (.one 5 0 (.one 6 0 (.one 7 0 (.one 10 0 (.one 11 0 (.one 12 0 (.one 13 0 (.one 14 0 (.one 15 0 (.one 3 1 (.one 8 1 (.one 9 0 (.one 16 1 (.one 17 0 (.one 18 0 (.one 19 2 (Tr.done))))))))))))))))))))
  | _ => .done
def pl238 : Nat → Tr
  | 3 => .one 1 0 (.one 4 0 (.one 7 0 (.one 2 1 (.one 3 0 (.one 5 1 (.one 6 0 (.one 8 1 (.one 9 0 (.alt 0 [2, 5, 8] (.one 10 2 (.one 11 2 (.one 12 0 (.one 13 0 (.one 14 0 (.one 15 0 (Tr.done))))))) 10 [] (.one 0 2 (.one 11 2 (.one 12 0 (.one 13 0 (.one 14 0 (.one 15 0 (Tr.done))))))))))))))))
  | _ => .done
def pl239 : Nat → Tr
  | 1 => .one 0 0 (.one 1 0 (.one 2 0 (.one 4 0 (.one 3 1 (.one 5 1 (.alt 6 [] (.one 7 0 (.one 8 0 (.one 9 0 (.one 10 2 (.one 11 2 (.one 12 0 (Tr.done))))))) 10 [3, 5] (.one 6 2 (.one 7 0 (.one 8 0 (.one 9 0 (.one 11 2 (.one 12 0 (Tr.done)))))))))))))
  | _ => .done
def pl240 : Nat → Tr
  | 8 => .one 0 0 (.one 1 0 (.one 2 0 (.one 4 0 (.one 5 0 (.one 6 0 (.one 7 0 (.one 9 0 (.one 10 0 (.one 11 0 (.one 13 0 (.one 14 0 (.one 15 0 (.one 16 0 (.one 3 1 (.one 8 0 (.one 12 1 (.one 17 0 (.one 18 2 (Tr.done)))))))))))))))))))
  | _ => .done
def pl242 : Nat → Tr
  | 11 => .one 0 0 (.one 1 0 (.one 2 0 (.one 3 0 (.one 4 0 (.one 5 0 (.one 6 0 (.one 7 0 (.one 8 2 (Tr.done)))))))))
  | 15 => .one 0 0 (.one 1 0 (.one 2 0 (.one 3 0 (.one 4 0 (.one 5 0 (.one 6 0 (.one 7 0 (.one 8 2 (Tr.done)))))))))
  | _ => .done
def pl245 : Nat → Tr
  | 4 => .one 0 0 (.one 1 0 (.one 2 0 (.one 5 0 (.one 3 1 (.one 4 1 (.one 6 2 (Tr.done)))))))
  | 5 => .one 0 0 (.one 1 0 (.one 2 0 (.one 4 0 (.one 3 1 (.one 5 1 (.one 6 2 (Tr.done)))))))
  | 6 => .one 0 0 (.one 1 0 (.one 2 0 (.one 4 0 (.one 3 1 (.one 5 1 (.one 6 1 (.one 7 2 (Tr.done))))))))
  | _ => .done
def pl247 : Nat → Tr
  | 5 => .one 0 0 (.one 1 0 (.one 2 0 (.one 3 0 (.one 4 0 (.one 5 0 (.one 6 2 (.one 7 2 (Tr.done))))))))
  | _ => .done
def pl249 : Nat → Tr
  | 1 => .one 4 0 (.one 0 1 (.one 1 0 (.one 2 0 (.one 3 1 (.one 5 1 (.one 6 1 (.one 7 1 (.one 8 2 (.one 9 0 (Tr.done))))))))))
  | _ => .done
def pl252 : Nat → Tr
  | 7 => .one 1 0 (.one 2 0 (.one 6 0 (.one 7 0 (.one 3 1 (.one 4 0 (.one 5 0 (.one 8 1 (.one 9 0 (.alt 0 [3, 8] (.one 10 2 (.one 11 2 (.one 12 0 (.one 13 0 (.one 14 0 (.one 15 0 (Tr.done))))))) 10 [] (.one 0 2 (.one 11 2 (.one 12 0 (.one 13 0 (.one 14 0 (.one 15 0 (Tr.done))))))))))))))))
  | _ => .done
def pl256 : Nat → Tr
  | 3 => .one 0 0 (.one 1 0 (.one 2 0 (.one 3 0 (.one 4 0 (.one 5 0 (.one 6 0 (.one 7 0 (.one 8 0 (.one 9 0 (.one 10 0 (.one 12 0 (.one 13 0 (.one 14 0 (.one 11 1 (.one 15 1 (.one 16 0 (.one 17 0 (.one 18 0 (Tr.done)))))))))))))))))))
  | _ => .done
def pl257 : Nat → Tr
  | 4 => .one 0 0 (.one 1 0 (.one 2 0 (.one 4 0 (.one 6 0 (.one 8 0 (.one 9 0 (.one 10 0 (.one 3 1 (.one 5 1 (.one 7 0 (.one 11 1 (.one 12 2 (Tr.done)))))))))))))
  | 6 => .one 0 0 (.one 1 0 (.one 2 0 (.one 3 0 (.one 4 1 (.one 5 1 (.prm 6 [4] (.one 7 2 (.one 8 0 (.one 9 0 (.one 10 2 (Tr.done)))))))))))
  | _ => .done
def pl259 : Nat → Tr
  | 5 => .one 0 0 (.one 1 0 (.one 2 0 (.one 3 0 (.one 5 0 (.one 6 0 (.one 8 0 (.one 9 0 (.one 10 0 (.one 12 0 (.one 13 0 (.one 4 1 (.one 7 0 (.one 11 1 (.one 14 0 (.one 15 2 (.one 16 0 (.one 17 0 (.one 18 2 (Tr.done)))))))))))))))))))
  | _ => .done
def pl261 : Nat → Tr
  | 17 => .one 0 0 (.one 1 0 (.one 2 0 (.one 3 0 (.one 4 0 (.one 5 0 (.one 6 0 (.one 8 0 (.one 9 0 (.one 10 0 (.one 7 1 (.one 11 1 (.one 12 2 (.one 13 0 (.one 14 0 (Tr.done)))))))))))))))
  | _ => .done
def pl262 : Nat → Tr
  | 2 => .one 0 0 (.one 1 0 (.one 2 0 (.one 4 0 (.one 5 0 (.one 6 0 (.one 7 0 (.one 3 1 (.one 8 1 (.one 9 0 (.one 10 2 (Tr.done)))))))))))
  | 3 => .one 0 0 (.one 1 0 (.one 2 0 (.one 3 0 (.one 5 0 (.one 6 0 (.one 7 0 (.one 8 0 (.one 4 1 (.one 9 1 (.one 10 0 (.prm 11 [4] (.one 12 2 (.one 13 0 (.one 14 0 (.one 15 2 (Tr.done))))))))))))))))
  | _ => .done
def pl263 : Nat → Tr
  | 1 => .one 0 0 (.one 1 1 (.one 2 0 (.one 3 0 (.one 4 0 (.one 5 0 (.one 10 0 (.one 11 0 (.one 12 0 (.one 15 0 (.one 17 0 (.one 18 0 (.one 19 0 (.one 6 1 (.one 7 0 (.one 8 0 (.one 9 1 (.one 13 1 (.one 14 1 (.one 16 1 (.one 20 1 (.one 21 0 (.one 22 0 (.one 23 1 (.prm 24 [6, 9, 13, 14, 16] (.one 25 0 (.one 26 2 (.one 27 0 (.one 28 0 (.one 29 0 (.one 30 0 (.one 31 1 (.one 32 2 (.one 33 0 (.one 34 0 (.one 35 0 (Tr.done))))))))))))))))))))))))))))))))))))
  | _ => .done
def pl266 : Nat → Tr
  | 2 => .one 0 0 (.one 1 0 (.one 4 0 (.one 5 0 (.one 8 0 (.one 9 0 (.one 2 1 (.one 3 0 (.one 6 1 (.one 7 0 (.one 10 1 (.one 11 0 (.one 12 0 (.prm 13 [2, 6, 10] (.one 14 2 (Tr.done)))))))))))))))
  | _ => .done
def pl268 : Nat → Tr
  | 7 => .one 0 0 (.one 1 0 (.one 5 0 (.one 6 0 (.one 2 1 (.one 3 0 (.one 4 0 (.one 7 1 (.one 8 0 (.one 9 0 (.prm 10 [2, 7] (.one 11 2 (Tr.done))))))))))))
  | _ => .done
def pl270 : Nat → Tr
  | 1 => .one 0 0 (.one 1 0 (.one 2 0 (.one 4 0 (.one 6 0 (.one 8 0 (.one 3 1 (.one 5 1 (.one 7 1 (.one 9 1 (.alt 10 [] (.one 11 0 (.one 12 0 (.one 13 0 (.one 14 2 (.one 15 2 (.one 16 0 (Tr.done))))))) 14 [3, 5, 7, 9] (.one 10 2 (.one 11 0 (.one 12 0 (.one 13 0 (.one 15 2 (.one 16 0 (Tr.done)))))))))))))))))
  | 2 => .one 0 0 (.one 1 0 (.one 2 0 (.one 4 0 (.one 6 0 (.one 8 0 (.one 3 1 (.one 5 1 (.one 7 1 (.one 9 1 (.one 10 2 (.one 11 0 (.one 12 0 (.one 13 0 (.one 14 0 (.one 15 0 (Tr.done))))))))))))))))
  | 4 => .one 0 0 (.one 1 0 (.one 2 0 (.one 3 0 (.one 4 0 (.one 5 0 (.one 7 0 (.one 6 1 (.one 8 0 (.one 9 0 (.prm 10 [6] (.one 11 0 (Tr.done))))))))))))
  | 6 => .one 0 0 (.one 1 0 (.one 2 0 (.one 3 0 (.one 4 0 (.one 5 1 (.one 6 0 (.one 7 0 (.one 8 1 (.one 9 0 (.one 10 0 (.one 11 1 (.one 12 2 (.one 13 0 (.one 14 0 (.one 16 0 (.one 15 1 (.one 17 0 (.one 18 0 (.prm 19 [15] (.one 20 0 (Tr.done)))))))))))))))))))))
  | 8 => .one 0 0 (.one 1 0 (.one 2 0 (.one 3 0 (.one 4 0 (.one 6 0 (.one 5 1 (.one 7 0 (.one 8 0 (.prm 9 [5] (.one 10 0 (Tr.done)))))))))))
  | 15 => .one 0 0 (.one 1 0 (.one 2 0 (.one 4 0 (.one 6 0 (.one 8 0 (.one 3 1 (.one 5 1 (.one 7 1 (.one 9 1 (.one 10 2 (Tr.done)))))))))))
  | 16 => .one 0 0 (.one 1 0 (.one 2 0 (.one 3 0 (.one 4 1 (.one 5 1 (.prm 6 [4] (.one 7 2 (.one 8 0 (.one 9 0 (.one 10 2 (Tr.done)))))))))))
  | _ => .done
def pl271 : Nat → Tr
  | 4 => .one 0 0 (.one 1 0 (.one 2 0 (.one 5 0 (.one 3 1 (.one 4 1 (.one 6 2 (.one 7 0 (.one 8 0 (.one 9 0 (.one 10 0 (Tr.done)))))))))))
  | _ => .done
def pl272 : Nat → Tr
  | 4 => .one 0 0 (.one 1 0 (.one 2 0 (.one 5 0 (.one 6 0 (.one 3 1 (.one 4 1 (.one 7 2 (.one 8 0 (Tr.done)))))))))
  | _ => .done
def pl273 : Nat → Tr
  | 4 => .one 0 0 (.one 1 0 (.one 2 0 (.one 5 0 (.one 3 1 (.one 4 1 (.alt 6 [] (.one 7 0 (.one 8 0 (.one 9 0 (.one 10 2 (.one 11 2 (.one 12 0 (Tr.done))))))) 10 [3, 4] (.one 6 2 (.one 7 0 (.one 8 0 (.one 9 0 (.one 11 2 (.one 12 0 (Tr.done)))))))))))))
  | _ => .done
def pl274 : Nat → Tr
  | 4 => .one 0 0 (.one 1 0 (.one 2 0 (.one 5 0 (.one 3 1 (.one 4 1 (.one 6 2 (.one 7 0 (Tr.done))))))))
  | 5 => .one 0 0 (.one 1 0 (.one 2 0 (.one 3 1 (.one 4 0 (.one 5 0 (.one 6 1 (.one 7 1 (.alt 8 [] (.one 9 0 (.one 10 0 (.one 11 0 (.one 12 2 (.one 13 2 (.one 14 0 (Tr.done))))))) 12 [3, 6, 7] (.one 8 2 (.one 9 0 (.one 10 0 (.one 11 0 (.one 13 2 (.one 14 0 (Tr.done)))))))))))))))
  | 6 => .one 0 0 (.one 1 0 (.one 2 0 (.one 3 0 (.one 4 0 (.one 5 0 (.one 6 0 (.one 7 0 (.one 9 0 (.one 10 0 (.one 11 0 (.one 8 1 (.one 12 1 (.one 13 0 (.one 14 0 (.one 15 0 (.one 16 0 (.one 17 1 (.one 18 2 (.one 19 0 (.one 20 0 (Tr.done)))))))))))))))))))))
  | 7 => .one 0 0 (.one 1 0 (.one 2 0 (.one 4 0 (.one 3 1 (.one 5 1 (.one 6 2 (Tr.done)))))))
  | _ => .done
def pl277 : Nat → Tr
  | 5 => .one 0 0 (.one 1 0 (.one 2 0 (.one 4 0 (.one 5 0 (.one 6 0 (.one 3 1 (.one 7 1 (.one 8 0 (.one 9 2 (Tr.done))))))))))
  | _ => .done
def pl283 : Nat → Tr
  | 1 => .one 0 0 (.one 2 0 (.one 5 0 (.one 7 0 (.one 1 1 (.one 3 1 (.one 6 1 (.one 8 1 (.prm 4 [6, 8] (.one 9 2 (.one 10 2 (.one 11 2 (.one 12 0 (Tr.done)))))))))))))
  | _ => .done
def pl285 : Nat → Tr
  | 4 => .one 0 0 (.one 1 0 (.one 2 0 (.one 3 0 (.one 4 0 (.one 5 0 (.one 6 0 (.one 7 0 (.one 9 0 (.one 10 0 (.one 11 0 (.one 12 0 (.one 8 1 (.one 13 1 (.one 14 2 (.one 15 0 (.one 16 0 (Tr.done)))))))))))))))))
  | 6 => .one 0 0 (.one 1 0 (.one 2 0 (.one 3 0 (.one 4 0 (.one 5 0 (.one 6 0 (.one 7 0 (.one 8 0 (.one 10 0 (.one 11 0 (.one 12 0 (.one 9 1 (.one 13 1 (.one 14 0 (.one 15 2 (.one 16 0 (.one 17 2 (Tr.done))))))))))))))))))
  | _ => .done
def pl286 : Nat → Tr
  | 10 => .one 0 0 (.one 1 0 (.one 2 0 (.one 3 0 (.one 4 0 (.one 5 0 (.one 6 0 (.one 7 0 (.one 8 0 (.one 9 0 (.one 10 0 (.one 12 0 (.one 13 0 (.one 14 0 (.one 11 1 (.one 15 1 (.one 16 0 (.one 17 2 (.one 18 0 (.one 19 2 (Tr.done))))))))))))))))))))
  | _ => .done
def pl287 : Nat → Tr
  | 10 => .one 0 0 (.one 1 0 (.one 2 0 (.one 3 0 (.one 4 0 (.one 5 0 (.one 6 0 (.one 7 0 (.one 8 0 (.one 9 0 (.one 10 0 (.one 12 0 (.one 13 0 (.one 14 0 (.one 11 1 (.one 15 1 (.one 16 0 (.one 17 2 (.one 18 0 (.one 19 2 (Tr.done))))))))))))))))))))
  | _ => .done
def pl289 : Nat → Tr
  | 3 => .one 0 0 (.one 1 0 (.one 2 0 (.one 3 0 (.one 4 0 (.one 5 0 (.one 6 0 (.one 8 0 (.one 9 0 (.one 10 0 (.one 7 1 (.one 11 1 (.one 12 0 (.one 13 2 (.one 14 0 (.one 15 2 (Tr.done))))))))))))))))
  | _ => .done
def pl290 : Nat → Tr
  | 5 => .one 0 0 (.one 1 0 (.one 2 0 (.one 3 0 (.one 4 0 (.one 5 0 (.one 6 0 (.one 7 0 (.one 9 0 (.one 10 0 (.one 11 0 (.one 12 0 (.one 8 1 (.one 13 1 (.one 14 2 (.one 15 0 (.one 16 0 (.one 17 0 (Tr.done))))))))))))))))))
  | 11 => .one 0 0 (.one 1 0 (.one 2 0 (.one 3 0 (.one 4 0 (.one 5 0 (.one 6 0 (.one 7 0 (.one 8 0 (.one 10 0 (.one 11 0 (.one 12 0 (.one 9 1 (.one 13 1 (.one 14 0 (.one 15 2 (.one 16 0 (.one 17 2 (Tr.done))))))))))))))))))
  | 16 => .one 0 0 (.one 1 0 (.one 2 0 (.one 3 0 (.one 5 0 (.one 6 0 (.one 7 0 (.one 8 0 (.one 4 1 (.one 9 1 (.one 10 2 (.one 11 0 (.one 12 0 (Tr.done)))))))))))))
  | 17 => .one 0 0 (.one 1 0 (.one 2 0 (.one 3 0 (.one 4 0 (.one 5 0 (.one 6 0 (.one 7 0 (.one 8 0 (.one 10 0 (.one 11 0 (.one 12 0 (.one 9 1 (.one 13 1 (.one 14 0 (.one 15 2 (.one 16 0 (.one 17 2 (Tr.done))))))))))))))))))
  | 22 => .one 0 0 (.one 1 0 (.one 2 0 (.one 3 0 (.one 5 0 (.one 6 0 (.one 7 0 (.one 8 0 (.one 4 1 (.one 9 1 (.one 10 2 (.one 11 0 (.one 12 0 (Tr.done)))))))))))))
  | 23 => .one 0 0 (.one 1 0 (.one 2 0 (.one 3 0 (.one 4 0 (.one 5 0 (.one 6 0 (.one 7 0 (.one 8 0 (.one 10 0 (.one 11 0 (.one 12 0 (.one 9 1 (.one 13 1 (.one 14 0 (.one 15 2 (.one 16 0 (.one 17 2 (Tr.done))))))))))))))))))
  | _ => .done
def pl291 : Nat → Tr
  | 1 => .one 0 0 (.one 1 0 (.one 2 0 (.one 3 0 (.one 4 0 (.one 5 0 (.one 6 0 (.one 8 0 (.one 9 0 (.one 10 0 (.one 7 1 (.one 11 1 (.one 12 0 (.one 13 2 (.one 14 0 (.one 15 2 (Tr.done))))))))))))))))
  | 3 => .one 0 0 (.one 1 0 (.one 2 0 (.one 3 0 (.one 4 0 (.one 5 0 (.one 6 0 (.one 7 0 (.one 9 0 (.one 10 0 (.one 11 0 (.one 8 1 (.one 12 1 (.one 13 2 (.one 14 0 (.one 15 0 (.one 16 0 (Tr.done)))))))))))))))))
  | 5 => .one 0 0 (.one 1 0 (.one 2 0 (.one 3 0 (.one 4 0 (.one 5 0 (.one 6 0 (.one 7 0 (.one 9 0 (.one 10 0 (.one 11 0 (.one 8 1 (.one 12 1 (.one 13 2 (.one 14 0 (.one 15 0 (Tr.done))))))))))))))))
  | 8 => .one 0 0 (.one 1 0 (.one 2 0 (.one 3 0 (.one 4 0 (.one 5 0 (.one 6 0 (.one 8 0 (.one 9 0 (.one 10 0 (.one 7 1 (.one 11 1 (.one 12 0 (.one 13 2 (.one 14 0 (.one 15 2 (Tr.done))))))))))))))))
  | _ => .done
def pl292 : Nat → Tr
  | 1 => .one 0 0 (.one 1 0 (.one 2 0 (.one 3 0 (.one 4 0 (.one 5 0 (.one 6 0 (.one 8 0 (.one 9 0 (.one 10 0 (.one 7 1 (.one 11 1 (.one 12 0 (.one 13 2 (.one 14 0 (.one 15 2 (Tr.done))))))))))))))))
  | 3 => .one 0 0 (.one 1 0 (.one 2 0 (.one 3 0 (.one 4 0 (.one 5 0 (.one 6 0 (.one 7 0 (.one 9 0 (.one 10 0 (.one 11 0 (.one 8 1 (.one 12 1 (.one 13 2 (.one 14 0 (.one 15 0 (Tr.done))))))))))))))))
  | 5 => .one 0 0 (.one 1 0 (.one 2 0 (.one 3 0 (.one 4 0 (.one 5 0 (.one 6 0 (.one 7 0 (.one 9 0 (.one 10 0 (.one 11 0 (.one 8 1 (.one 12 1 (.one 13 2 (.one 14 0 (.one 15 0 (.one 16 0 (Tr.done)))))))))))))))))
  | 8 => .one 0 0 (.one 1 0 (.one 2 0 (.one 3 0 (.one 4 0 (.one 5 0 (.one 6 0 (.one 8 0 (.one 9 0 (.one 10 0 (.one 7 1 (.one 11 1 (.one 12 0 (.one 13 2 (.one 14 0 (.one 15 2 (Tr.done))))))))))))))))
  | 10 => .one 0 0 (.one 1 0 (.one 2 0 (.one 3 0 (.one 4 0 (.one 5 0 (.one 6 0 (.one 8 0 (.one 9 0 (.one 10 0 (.one 7 1 (.one 11 1 (.one 12 0 (.one 13 2 (.one 14 0 (.one 15 2 (Tr.done))))))))))))))))
  | 13 => .one 0 0 (.one 1 0 (.one 2 0 (.one 3 0 (.one 4 0 (.one 5 0 (.one 6 0 (.one 7 0 (.one 9 0 (.one 10 0 (.one 11 0 (.one 8 1 (.one 12 1 (.one 13 2 (.one 14 0 (.one 15 0 (Tr.done))))))))))))))))
  | 15 => .one 0 0 (.one 1 0 (.one 2 0 (.one 3 0 (.one 4 0 (.one 5 0 (.one 6 0 (.one 7 0 (.one 9 0 (.one 10 0 (.one 11 0 (.one 8 1 (.one 12 1 (.one 13 2 (.one 14 0 (.one 15 0 (.one 16 0 (Tr.done)))))))))))))))))
  | 18 => .one 0 0 (.one 1 0 (.one 2 0 (.one 3 0 (.one 4 0 (.one 5 0 (.one 6 0 (.one 8 0 (.one 9 0 (.one 10 0 (.one 7 1 (.one 11 1 (.one 12 0 (.one 13 2 (.one 14 0 (.one 15 2 (Tr.done))))))))))))))))
  | 21 => .one 0 0 (.one 1 0 (.one 2 0 (.one 3 0 (.one 4 0 (.one 5 0 (.one 6 0 (.one 8 0 (.one 9 0 (.one 10 0 (.one 7 1 (.one 11 1 (.one 12 0 (.one 13 2 (.one 14 0 (.one 15 2 (Tr.done))))))))))))))))
  | _ => .done
def pl297 : Nat → Tr
  | 1 => .one 0 0 (.one 4 0 (.one 1 1 (.one 2 0 (.one 3 0 (.one 5 1 (.one 6 0 (.one 7 0 (Tr.done))))))))
  | _ => .done
def pl304 : Nat → Tr
  | 8 => .one 0 0 (.one 2 0 (.one 3 0 (.one 4 0 (.one 1 1 (.one 5 1 (.one 6 2 (.one 7 0 (.one 8 0 (.one 9 0 (.one 10 2 (.one 11 0 (Tr.done))))))))))))
  | _ => .done
def pl310 : Nat → Tr
  | 8 => .one 0 0 (.one 2 0 (.one 3 0 (.one 6 0 (.one 1 1 (.one 9 0 (.one 4 1 (.one 5 0 (.one 7 1 (.one 8 0 (.one 10 0 (Tr.done)))))))))))
  | _ => .done
def pl316 : Nat → Tr
  | 4 => .one 0 0 (.one 1 0 (.one 2 0 (.one 3 0 (.one 4 0 (.one 5 0 (.one 6 0 (.one 8 0 (.one 9 0 (.one 10 0 (.one 11 0 (.one 7 1 (.one 12 1 (.one 13 2 (.one 14 0 (Tr.done)))))))))))))))
  | 6 => .one 0 0 (.one 1 0 (.one 2 0 (.one 3 0 (.one 4 0 (.one 5 0 (.one 6 0 (.one 7 0 (.one 8 0 (.one 10 0 (.one 11 0 (.one 12 0 (.one 9 1 (.one 13 1 (.one 14 0 (.one 15 2 (.one 16 0 (.one 17 2 (Tr.done))))))))))))))))))
  | _ => .done
def pl317 : Nat → Tr
  | 10 => .one 0 0 (.one 1 0 (.one 2 0 (.one 3 0 (.one 4 0 (.one 5 0 (.one 6 0 (.one 7 0 (.one 8 0 (.one 9 0 (.one 10 0 (.one 12 0 (.one 13 0 (.one 14 0 (.one 11 1 (.one 15 1 (.one 16 0 (.one 17 2 (.one 18 0 (.one 19 2 (Tr.done))))))))))))))))))))
  | _ => .done
def pl318 : Nat → Tr
  | 10 => .one 0 0 (.one 1 0 (.one 2 0 (.one 3 0 (.one 4 0 (.one 5 0 (.one 6 0 (.one 7 0 (.one 8 0 (.one 9 0 (.one 10 0 (.one 12 0 (.one 13 0 (.one 14 0 (.one 11 1 (.one 15 1 (.one 16 0 (.one 17 2 (.one 18 0 (.one 19 2 (Tr.done))))))))))))))))))))
  | _ => .done
def pl320 : Nat → Tr
  | 3 => .one 0 0 (.one 1 0 (.one 2 0 (.one 3 0 (.one 4 0 (.one 5 0 (.one 6 0 (.one 8 0 (.one 9 0 (.one 10 0 (.one 7 1 (.one 11 1 (.one 12 0 (.one 13 2 (.one 14 0 (.one 15 2 (Tr.done))))))))))))))))
  | _ => .done
def pl321 : Nat → Tr
  | 5 => .one 0 0 (.one 1 0 (.one 2 0 (.one 3 0 (.one 4 0 (.one 5 0 (.one 6 0 (.one 8 0 (.one 9 0 (.one 10 0 (.one 11 0 (.one 7 1 (.one 12 1 (.one 13 2 (.one 14 0 (.one 15 0 (Tr.done))))))))))))))))
  | 11 => .one 0 0 (.one 1 0 (.one 2 0 (.one 3 0 (.one 4 0 (.one 5 0 (.one 6 0 (.one 7 0 (.one 8 0 (.one 10 0 (.one 11 0 (.one 12 0 (.one 9 1 (.one 13 1 (.one 14 0 (.one 15 2 (.one 16 0 (.one 17 2 (Tr.done))))))))))))))))))
  | 16 => .one 0 0 (.one 1 0 (.one 2 0 (.one 4 0 (.one 5 0 (.one 6 0 (.one 7 0 (.one 3 1 (.one 8 1 (.one 9 2 (.one 10 0 (Tr.done)))))))))))
  | 17 => .one 0 0 (.one 1 0 (.one 2 0 (.one 3 0 (.one 4 0 (.one 5 0 (.one 6 0 (.one 7 0 (.one 8 0 (.one 10 0 (.one 11 0 (.one 12 0 (.one 9 1 (.one 13 1 (.one 14 0 (.one 15 2 (.one 16 0 (.one 17 2 (Tr.done))))))))))))))))))
  | 22 => .one 0 0 (.one 1 0 (.one 2 0 (.one 4 0 (.one 5 0 (.one 6 0 (.one 7 0 (.one 3 1 (.one 8 1 (.one 9 2 (.one 10 0 (Tr.done)))))))))))
  | 23 => .one 0 0 (.one 1 0 (.one 2 0 (.one 3 0 (.one 4 0 (.one 5 0 (.one 6 0 (.one 7 0 (.one 8 0 (.one 10 0 (.one 11 0 (.one 12 0 (.one 9 1 (.one 13 1 (.one 14 0 (.one 15 2 (.one 16 0 (.one 17 2 (Tr.done))))))))))))))))))
  | _ => .done
def pl322 : Nat → Tr
  | 1 => .one 0 0 (.one 1 0 (.one 2 0 (.one 3 0 (.one 4 0 (.one 5 0 (.one 6 0 (.one 8 0 (.one 9 0 (.one 10 0 (.one 7 1 (.one 11 1 (.one 12 0 (.one 13 2 (.one 14 0 (.one 15 2 (Tr.done))))))))))))))))
  | 3 => .one 0 0 (.one 1 0 (.one 2 0 (.one 3 0 (.one 4 0 (.one 5 0 (.one 6 0 (.one 8 0 (.one 9 0 (.one 10 0 (.one 7 1 (.one 11 1 (.one 12 2 (.one 13 0 (.one 14 0 (Tr.done)))))))))))))))
  | 5 => .one 0 0 (.one 1 0 (.one 2 0 (.one 3 0 (.one 4 0 (.one 5 0 (.one 6 0 (.one 8 0 (.one 9 0 (.one 10 0 (.one 7 1 (.one 11 1 (.one 12 2 (.one 13 0 (Tr.done))))))))))))))
  | 8 => .one 0 0 (.one 1 0 (.one 2 0 (.one 3 0 (.one 4 0 (.one 5 0 (.one 6 0 (.one 8 0 (.one 9 0 (.one 10 0 (.one 7 1 (.one 11 1 (.one 12 0 (.one 13 2 (.one 14 0 (.one 15 2 (Tr.done))))))))))))))))
  | _ => .done
def pl323 : Nat → Tr
  | 1 => .one 0 0 (.one 1 0 (.one 2 0 (.one 3 0 (.one 4 0 (.one 5 0 (.one 6 0 (.one 8 0 (.one 9 0 (.one 10 0 (.one 7 1 (.one 11 1 (.one 12 0 (.one 13 2 (.one 14 0 (.one 15 2 (Tr.done))))))))))))))))
  | 3 => .one 0 0 (.one 1 0 (.one 2 0 (.one 3 0 (.one 4 0 (.one 5 0 (.one 6 0 (.one 8 0 (.one 9 0 (.one 10 0 (.one 7 1 (.one 11 1 (.one 12 2 (.one 13 0 (Tr.done))))))))))))))
  | 5 => .one 0 0 (.one 1 0 (.one 2 0 (.one 3 0 (.one 4 0 (.one 5 0 (.one 6 0 (.one 8 0 (.one 9 0 (.one 10 0 (.one 7 1 (.one 11 1 (.one 12 2 (.one 13 0 (.one 14 0 (Tr.done)))))))))))))))
  | 8 => .one 0 0 (.one 1 0 (.one 2 0 (.one 3 0 (.one 4 0 (.one 5 0 (.one 6 0 (.one 8 0 (.one 9 0 (.one 10 0 (.one 7 1 (.one 11 1 (.one 12 0 (.one 13 2 (.one 14 0 (.one 15 2 (Tr.done))))))))))))))))
  | 10 => .one 0 0 (.one 1 0 (.one 2 0 (.one 3 0 (.one 4 0 (.one 5 0 (.one 6 0 (.one 8 0 (.one 9 0 (.one 10 0 (.one 7 1 (.one 11 1 (.one 12 0 (.one 13 2 (.one 14 0 (.one 15 2 (Tr.done))))))))))))))))
  | 13 => .one 0 0 (.one 1 0 (.one 2 0 (.one 3 0 (.one 4 0 (.one 5 0 (.one 6 0 (.one 8 0 (.one 9 0 (.one 10 0 (.one 7 1 (.one 11 1 (.one 12 2 (.one 13 0 (Tr.done))))))))))))))
  | 15 => .one 0 0 (.one 1 0 (.one 2 0 (.one 3 0 (.one 4 0 (.one 5 0 (.one 6 0 (.one 8 0 (.one 9 0 (.one 10 0 (.one 7 1 (.one 11 1 (.one 12 2 (.one 13 0 (.one 14 0 (Tr.done)))))))))))))))
  | 18 => .one 0 0 (.one 1 0 (.one 2 0 (.one 3 0 (.one 4 0 (.one 5 0 (.one 6 0 (.one 8 0 (.one 9 0 (.one 10 0 (.one 7 1 (.one 11 1 (.one 12 0 (.one 13 2 (.one 14 0 (.one 15 2 (Tr.done))))))))))))))))
  | 21 => .one 0 0 (.one 1 0 (.one 2 0 (.one 3 0 (.one 4 0 (.one 5 0 (.one 6 0 (.one 8 0 (.one 9 0 (.one 10 0 (.one 7 1 (.one 11 1 (.one 12 0 (.one 13 2 (.one 14 0 (.one 15 2 (Tr.done))))))))))))))))
  | _ => .done
def pl324 : Nat → Tr
  | 1 => .one 0 0 (.one 1 0 (.one 2 0 (.one 7 0 (.one 8 0 (.one 9 0 (.one 13 0 (.one 14 0 (.one 15 0 (.one 16 0 (.one 3 1 (.one 4 0 (.one 5 0 (.one 6 1 (.one 10 1 (.one 11 1 (.one 17 1 (.one 18 0 (.one 19 0 (.one 20 1 (.prm 12 [17, 20] (.one 21 2 (.one 22 0 (.one 23 2 (.one 24 0 (Tr.done)))))))))))))))))))))))))
  | _ => .done
def pl326 : Nat → Tr
  | 1 => .one 0 0 (.one 1 0 (.one 2 0 (.one 3 1 (.one 4 0 (.one 5 0 (.one 6 1 (.one 7 1 (.alt 8 [] (.one 9 0 (.one 10 0 (.one 11 0 (.one 12 2 (.one 13 2 (.one 14 0 (Tr.done))))))) 12 [3, 6, 7] (.one 8 2 (.one 9 0 (.one 10 0 (.one 11 0 (.one 13 2 (.one 14 0 (Tr.done)))))))))))))))
  | 2 => .one 0 0 (.one 1 0 (.one 2 0 (.one 3 1 (.one 4 0 (.one 5 0 (.one 6 0 (.one 7 0 (.one 8 0 (.one 9 0 (.one 10 0 (.one 11 1 (.one 12 0 (.one 13 0 (.one 14 0 (.one 15 0 (.one 17 0 (.one 18 0 (.one 19 0 (.one 16 1 (.one 20 1 (.one 21 0 (.one 22 0 (.one 23 0 (.one 24 0 (.one 25 0 (.one 26 0 (.one 28 0 (.one 27 1 (.one 29 1 (.one 30 2 (.one 31 0 (.one 32 0 (Tr.done)))))))))))))))))))))))))))))))))
  | 3 => .one 0 0 (.one 1 0 (.one 2 0 (.one 4 0 (.one 3 1 (.one 5 1 (.prm 6 [3] (.one 7 2 (Tr.done))))))))
  | _ => .done
def pl332 : Nat → Tr
  | 3 => .one 0 0 (.one 1 0 (.one 2 0 (.one 3 0 (.one 4 0 (.one 5 0 (.one 6 0 (.one 7 0 (.one 8 0 (.one 9 0 (.one 10 0 (.one 12 0 (.one 13 0 (.one 14 0 (.one 15 0 (.one 16 0 (.one 17 0 (.one 11 1 (.one 18 1 (.one 19 2 (.one 20 0 (.one 21 0 (Tr.done))))))))))))))))))))))
  | 5 => .one 0 0 (.one 1 0 (.one 2 0 (.one 3 0 (.one 4 0 (.one 5 0 (.one 7 0 (.one 8 0 (.one 9 0 (.one 10 0 (.one 11 0 (.one 6 1 (.one 12 1 (.one 13 2 (.one 14 0 (.one 15 0 (Tr.done))))))))))))))))
  | 6 => .one 0 0 (.one 1 0 (.one 2 0 (.one 3 0 (.one 4 0 (.one 5 0 (.one 6 0 (.one 7 0 (.one 8 0 (.one 9 0 (.one 10 0 (.one 11 0 (.one 12 0 (.one 14 0 (.one 15 0 (.one 16 0 (.one 17 0 (.one 18 0 (.one 13 1 (.one 19 1 (.one 20 0 (.one 21 2 (.one 22 0 (.one 23 2 (Tr.done))))))))))))))))))))))))
  | _ => .done
def pl334 : Nat → Tr
  | 1 => .one 0 0 (.one 1 0 (.one 3 0 (.one 4 0 (.one 2 1 (.one 5 1 (.one 6 0 (.one 7 0 (.one 8 0 (.one 9 2 (Tr.done))))))))))
  | 2 => .one 0 0 (.one 1 0 (.one 3 0 (.one 4 0 (.one 2 1 (.one 5 1 (.one 6 0 (.one 7 0 (.one 8 0 (.one 9 2 (Tr.done))))))))))
  | 3 => .one 0 0 (.one 1 0 (.one 3 0 (.one 4 0 (.one 2 1 (.one 5 1 (.one 6 0 (.one 7 0 (.one 8 0 (.one 9 2 (Tr.done))))))))))
  | _ => .done
def pl338 : Nat → Tr
  | 1 => .one 0 0 (.one 1 0 (.one 2 0 (.one 4 0 (.one 5 0 (.one 8 0 (.one 9 0 (.one 10 0 (.one 3 1 (.one 6 0 (.one 7 1 (.one 11 0 (.one 12 0 (.one 13 2 (Tr.done))))))))))))))
  | _ => .done
def pl339 : Nat → Tr
  | 3 => .one 0 0 (.one 2 0 (.one 3 1 (.prm 1 [3] (.one 4 0 (.one 5 0 (Tr.done))))))
  | 5 => .one 0 0 (.one 4 0 (.one 5 0 (.one 1 1 (.one 6 1 (.one 7 0 (.prm 2 [6] (.one 3 0 (.one 8 0 (.one 9 0 (.one 10 0 (Tr.done)))))))))))
  | _ => .done
def pl341 : Nat → Tr
  | 3 => .one 0 0 (.one 1 0 (.one 2 0 (.one 3 0 (.one 4 0 (.one 5 0 (.one 6 0 (.one 7 0 (.one 8 0 (.one 9 0 (.one 11 0 (.one 12 0 (.one 13 0 (.one 14 0 (.one 15 0 (.one 16 0 (.one 10 1 (.one 17 1 (.one 18 2 (.one 19 0 (Tr.done))))))))))))))))))))
  | 5 => .one 0 0 (.one 1 0 (.one 2 0 (.one 3 0 (.one 4 0 (.one 6 0 (.one 7 0 (.one 8 0 (.one 9 0 (.one 10 0 (.one 5 1 (.one 11 1 (.one 12 2 (.one 13 0 (Tr.done))))))))))))))
  | 6 => .one 0 0 (.one 1 0 (.one 2 0 (.one 3 0 (.one 4 0 (.one 5 0 (.one 6 0 (.one 7 0 (.one 8 0 (.one 9 0 (.one 10 0 (.one 11 0 (.one 12 0 (.one 14 0 (.one 15 0 (.one 16 0 (.one 17 0 (.one 18 0 (.one 13 1 (.one 19 1 (.one 20 0 (.one 21 2 (.one 22 0 (.one 23 2 (Tr.done))))))))))))))))))))))))
  | _ => .done
def pl347 : Nat → Tr
  | 17 => .one 0 0 (.one 1 0 (.one 2 0 (.one 3 0 (.one 4 0 (.one 5 0 (.one 6 0 (.one 7 0 (.one 9 0 (.one 10 0 (.one 11 0 (.one 8 1 (.one 12 1 (.one 13 2 (.one 14 0 (.one 15 0 (.one 16 0 (Tr.done)))))))))))))))))
  | _ => .done
def pl348 : Nat → Tr
  | 1 => .one 0 0 (.one 1 0 (.one 2 0 (.one 3 0 (.one 5 0 (.one 6 0 (.one 7 0 (.one 4 1 (.one 8 1 (.one 9 2 (.one 10 0 (Tr.done)))))))))))
  | _ => .done
def pl350 : Nat → Tr
  | 3 => .one 0 0 (.one 1 0 (.one 2 0 (.one 3 0 (.one 4 0 (.one 5 0 (.one 6 0 (.one 8 0 (.one 9 0 (.one 10 0 (.one 7 1 (.one 11 1 (.one 12 0 (.one 13 2 (.one 14 0 (.one 15 2 (Tr.done))))))))))))))))
  | _ => .done
def pl351 : Nat → Tr
  | 1 => .one 0 0 (.one 1 0 (.one 2 0 (.one 4 0 (.one 5 0 (.one 6 0 (.one 3 1 (.one 7 1 (.one 8 2 (Tr.done)))))))))
  | _ => .done
def pl352 : Nat → Tr
  | 4 => .one 0 0 (.one 1 0 (.one 2 0 (.one 3 0 (.one 4 0 (.one 5 0 (.one 6 0 (.one 7 0 (.one 9 0 (.one 10 0 (.one 11 0 (.one 12 0 (.one 8 1 (.one 13 1 (.one 14 2 (.one 15 0 (.one 16 0 (Tr.done)))))))))))))))))
  | 6 => .one 0 0 (.one 1 0 (.one 2 0 (.one 3 0 (.one 4 0 (.one 5 0 (.one 6 0 (.one 7 0 (.one 8 0 (.one 10 0 (.one 11 0 (.one 12 0 (.one 9 1 (.one 13 1 (.one 14 0 (.one 15 2 (.one 16 0 (.one 17 2 (Tr.done))))))))))))))))))
  | _ => .done
def pl353 : Nat → Tr
  | 10 => .one 0 0 (.one 1 0 (.one 2 0 (.one 3 0 (.one 4 0 (.one 5 0 (.one 6 0 (.one 7 0 (.one 8 0 (.one 9 0 (.one 10 0 (.one 12 0 (.one 13 0 (.one 14 0 (.one 11 1 (.one 15 1 (.one 16 0 (.one 17 2 (.one 18 0 (.one 19 2 (Tr.done))))))))))))))))))))
  | _ => .done
def pl354 : Nat → Tr
  | 10 => .one 0 0 (.one 1 0 (.one 2 0 (.one 3 0 (.one 4 0 (.one 5 0 (.one 6 0 (.one 7 0 (.one 8 0 (.one 9 0 (.one 10 0 (.one 12 0 (.one 13 0 (.one 14 0 (.one 11 1 (.one 15 1 (.one 16 0 (.one 17 2 (.one 18 0 (.one 19 2 (Tr.done))))))))))))))))))))
  | _ => .done
def pl356 : Nat → Tr
  | 3 => .one 0 0 (.one 1 0 (.one 2 0 (.one 3 0 (.one 4 0 (.one 5 0 (.one 6 0 (.one 8 0 (.one 9 0 (.one 10 0 (.one 7 1 (.one 11 1 (.one 12 0 (.one 13 2 (.one 14 0 (.one 15 2 (Tr.done))))))))))))))))
  | _ => .done
def pl357 : Nat → Tr
  | 5 => .one 0 0 (.one 1 0 (.one 2 0 (.one 3 0 (.one 4 0 (.one 5 0 (.one 6 0 (.one 7 0 (.one 9 0 (.one 10 0 (.one 11 0 (.one 12 0 (.one 8 1 (.one 13 1 (.one 14 2 (.one 15 0 (.one 16 0 (.one 17 0 (Tr.done))))))))))))))))))
  | 11 => .one 0 0 (.one 1 0 (.one 2 0 (.one 3 0 (.one 4 0 (.one 5 0 (.one 6 0 (.one 7 0 (.one 8 0 (.one 10 0 (.one 11 0 (.one 12 0 (.one 9 1 (.one 13 1 (.one 14 0 (.one 15 2 (.one 16 0 (.one 17 2 (Tr.done))))))))))))))))))
  | 16 => .one 0 0 (.one 1 0 (.one 2 0 (.one 3 0 (.one 5 0 (.one 6 0 (.one 7 0 (.one 8 0 (.one 4 1 (.one 9 1 (.one 10 2 (.one 11 0 (.one 12 0 (Tr.done)))))))))))))
  | 17 => .one 0 0 (.one 1 0 (.one 2 0 (.one 3 0 (.one 4 0 (.one 5 0 (.one 6 0 (.one 7 0 (.one 8 0 (.one 10 0 (.one 11 0 (.one 12 0 (.one 9 1 (.one 13 1 (.one 14 0 (.one 15 2 (.one 16 0 (.one 17 2 (Tr.done))))))))))))))))))
  | 22 => .one 0 0 (.one 1 0 (.one 2 0 (.one 3 0 (.one 5 0 (.one 6 0 (.one 7 0 (.one 8 0 (.one 4 1 (.one 9 1 (.one 10 2 (.one 11 0 (.one 12 0 (Tr.done)))))))))))))
  | 23 => .one 0 0 (.one 1 0 (.one 2 0 (.one 3 0 (.one 4 0 (.one 5 0 (.one 6 0 (.one 7 0 (.one 8 0 (.one 10 0 (.one 11 0 (.one 12 0 (.one 9 1 (.one 13 1 (.one 14 0 (.one 15 2 (.one 16 0 (.one 17 2 (Tr.done))))))))))))))))))
  | _ => .done
def pl358 : Nat → Tr
  | 1 => .one 0 0 (.one 1 0 (.one 2 0 (.one 3 0 (.one 4 0 (.one 5 0 (.one 6 0 (.one 8 0 (.one 9 0 (.one 10 0 (.one 7 1 (.one 11 1 (.one 12 0 (.one 13 2 (.one 14 0 (.one 15 2 (Tr.done))))))))))))))))
  | 3 => .one 0 0 (.one 1 0 (.one 2 0 (.one 3 0 (.one 4 0 (.one 5 0 (.one 6 0 (.one 7 0 (.one 9 0 (.one 10 0 (.one 11 0 (.one 8 1 (.one 12 1 (.one 13 2 (.one 14 0 (.one 15 0 (.one 16 0 (Tr.done)))))))))))))))))
  | 5 => .one 0 0 (.one 1 0 (.one 2 0 (.one 3 0 (.one 4 0 (.one 5 0 (.one 6 0 (.one 7 0 (.one 9 0 (.one 10 0 (.one 11 0 (.one 8 1 (.one 12 1 (.one 13 2 (.one 14 0 (.one 15 0 (Tr.done))))))))))))))))
  | 8 => .one 0 0 (.one 1 0 (.one 2 0 (.one 3 0 (.one 4 0 (.one 5 0 (.one 6 0 (.one 8 0 (.one 9 0 (.one 10 0 (.one 7 1 (.one 11 1 (.one 12 0 (.one 13 2 (.one 14 0 (.one 15 2 (Tr.done))))))))))))))))
  | _ => .done
def pl359 : Nat → Tr
  | 1 => .one 0 0 (.one 1 0 (.one 2 0 (.one 3 0 (.one 4 0 (.one 5 0 (.one 6 0 (.one 8 0 (.one 9 0 (.one 10 0 (.one 7 1 (.one 11 1 (.one 12 0 (.one 13 2 (.one 14 0 (.one 15 2 (Tr.done))))))))))))))))
  | 3 => .one 0 0 (.one 1 0 (.one 2 0 (.one 3 0 (.one 4 0 (.one 5 0 (.one 6 0 (.one 7 0 (.one 9 0 (.one 10 0 (.one 11 0 (.one 8 1 (.one 12 1 (.one 13 2 (.one 14 0 (.one 15 0 (Tr.done))))))))))))))))
  | 5 => .one 0 0 (.one 1 0 (.one 2 0 (.one 3 0 (.one 4 0 (.one 5 0 (.one 6 0 (.one 7 0 (.one 9 0 (.one 10 0 (.one 11 0 (.one 8 1 (.one 12 1 (.one 13 2 (.one 14 0 (.one 15 0 (.one 16 0 (Tr.done)))))))))))))))))
  | 8 => .one 0 0 (.one 1 0 (.one 2 0 (.one 3 0 (.one 4 0 (.one 5 0 (.one 6 0 (.one 8 0 (.one 9 0 (.one 10 0 (.one 7 1 (.one 11 1 (.one 12 0 (.one 13 2 (.one 14 0 (.one 15 2 (Tr.done))))))))))))))))
  | 10 => .one 0 0 (.one 1 0 (.one 2 0 (.one 3 0 (.one 4 0 (.one 5 0 (.one 6 0 (.one 8 0 (.one 9 0 (.one 10 0 (.one 7 1 (.one 11 1 (.one 12 0 (.one 13 2 (.one 14 0 (.one 15 2 (Tr.done))))))))))))))))
  | 13 => .one 0 0 (.one 1 0 (.one 2 0 (.one 3 0 (.one 4 0 (.one 5 0 (.one 6 0 (.one 7 0 (.one 9 0 (.one 10 0 (.one 11 0 (.one 8 1 (.one 12 1 (.one 13 2 (.one 14 0 (.one 15 0 (Tr.done))))))))))))))))
  | 15 => .one 0 0 (.one 1 0 (.one 2 0 (.one 3 0 (.one 4 0 (.one 5 0 (.one 6 0 (.one 7 0 (.one 9 0 (.one 10 0 (.one 11 0 (.one 8 1 (.one 12 1 (.one 13 2 (.one 14 0 (.one 15 0 (.one 16 0 (Tr.done)))))))))))))))))
  | 18 => .one 0 0 (.one 1 0 (.one 2 0 (.one 3 0 (.one 4 0 (.one 5 0 (.one 6 0 (.one 8 0 (.one 9 0 (.one 10 0 (.one 7 1 (.one 11 1 (.one 12 0 (.one 13 2 (.one 14 0 (.one 15 2 (Tr.done))))))))))))))))
  | 21 => .one 0 0 (.one 1 0 (.one 2 0 (.one 3 0 (.one 4 0 (.one 5 0 (.one 6 0 (.one 8 0 (.one 9 0 (.one 10 0 (.one 7 1 (.one 11 1 (.one 12 0 (.one 13 2 (.one 14 0 (.one 15 2 (Tr.done))))))))))))))))
  | _ => .done
def pl360 : Nat → Tr
  | 3 => .one 0 0 (.one 1 0 (.one 2 0 (.one 3 0 (.one 4 0 (.one 5 0 (.one 6 0 (.one 7 0 (.one 8 0 (.one 9 0 (.one 10 0 (.one 12 0 (.one 13 0 (.one 14 0 (.one 15 0 (.one 16 0 (.one 17 0 (.one 11 1 (.one 18 1 (.one 19 2 (.one 20 0 (.one 21 0 (Tr.done))))))))))))))))))))))
  | 5 => .one 0 0 (.one 1 0 (.one 2 0 (.one 3 0 (.one 4 0 (.one 5 0 (.one 7 0 (.one 8 0 (.one 9 0 (.one 10 0 (.one 11 0 (.one 6 1 (.one 12 1 (.one 13 2 (.one 14 0 (.one 15 0 (Tr.done))))))))))))))))
  | 6 => .one 0 0 (.one 1 0 (.one 2 0 (.one 3 0 (.one 4 0 (.one 5 0 (.one 6 0 (.one 7 0 (.one 8 0 (.one 9 0 (.one 10 0 (.one 11 0 (.one 12 0 (.one 14 0 (.one 15 0 (.one 16 0 (.one 17 0 (.one 18 0 (.one 13 1 (.one 19 1 (.one 20 0 (.one 21 2 (.one 22 0 (.one 23 2 (Tr.done))))))))))))))))))))))))
  | _ => .done
def pl363 : Nat → Tr
  | 1 => .one 0 0 (.one 1 0 (.one 2 0 (.one 3 0 (.one 5 0 (.one 6 0 (.one 7 0 (.one 4 1 (.one 8 1 (.one 9 2 (.one 10 0 (Tr.done)))))))))))
  | _ => .done
end Go.Proofs
