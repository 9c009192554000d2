/- Part XT of the proofs of this seat: what the functions of the layer answer, in worlds that hold their blocks. -/
import Derived.Test.YtooemjldpchgfaaXRead
import Derived.Test.YtooemjldpchgfaaRows
namespace Go.Proofs.Ytooemjldpchgfaa
open Go Go.Proofs.Ytooemjldpchgfaa.TH
theorem sz2 : (Try.prog.info? 2).map (·.size) = some 1 := by kernel_rfl
theorem sc2 : scal Try.prog 2 = true := by kernel_rfl
theorem el2 : ElemT Try.prog 2 1 8 (.int .i64 0) := ElemT.of (by kernel_rfl) rfl
theorem sz3 : (Try.prog.info? 3).map (·.size) = some 1 := by kernel_rfl
theorem sc3 : scal Try.prog 3 = true := by kernel_rfl
theorem el3 : ElemT Try.prog 3 1 8 (.int .i64 0) := ElemT.of (by kernel_rfl) rfl
theorem sz4 : (Try.prog.info? 4).map (·.size) = some 1 := by kernel_rfl
theorem sc4 : scal Try.prog 4 = true := by kernel_rfl
theorem el4 : ElemT Try.prog 4 1 1 (.bool false) := ElemT.of (by kernel_rfl) rfl
theorem sz5 : (Try.prog.info? 5).map (·.size) = some 1 := by kernel_rfl
theorem sc5 : scal Try.prog 5 = true := by kernel_rfl
theorem el5 : ElemT Try.prog 5 1 1 (.int .u8 0) := ElemT.of (by kernel_rfl) rfl
theorem sz6 : (Try.prog.info? 6).map (·.size) = some 1 := by kernel_rfl
theorem sc6 : scal Try.prog 6 = true := by kernel_rfl
theorem el6 : ElemT Try.prog 6 1 1 (.int .u8 0) := ElemT.of (by kernel_rfl) rfl
theorem sz7 : (Try.prog.info? 7).map (·.size) = some 4 := by kernel_rfl
theorem ag7 : aggr Try.prog 7 4 = true := by kernel_rfl
theorem pl7 : structPlaces Try.prog 7 = some [(0, 1), (1, 1), (2, 1), (3, 1)] := by kernel_rfl
def z7 : List Value := [.int .i64 0, .int .i64 0, .bool false, .int .u8 0]
theorem el7 : ElemT Try.prog 7 4 24 (.agg z7.toArray) := ElemT.of (by kernel_rfl) (by kernel_rfl)
theorem sz8 : (Try.prog.info? 8).map (·.size) = some 4 := by kernel_rfl
theorem ag8 : aggr Try.prog 8 4 = true := by kernel_rfl
theorem pl8 : structPlaces Try.prog 8 = some [(0, 1), (1, 1), (2, 1), (3, 1)] := by kernel_rfl
def z8 : List Value := [.int .i64 0, .int .i64 0, .bool false, .int .u8 0]
theorem el8 : ElemT Try.prog 8 4 24 (.agg z8.toArray) := ElemT.of (by kernel_rfl) (by kernel_rfl)
theorem sz9 : (Try.prog.info? 9).map (·.size) = some 1 := by kernel_rfl
theorem sc9 : scal Try.prog 9 = true := by kernel_rfl
theorem el9 : ElemT Try.prog 9 1 16 (.string ⟨#[]⟩) := ElemT.of (by kernel_rfl) rfl
theorem sz10 : (Try.prog.info? 10).map (·.size) = some 1 := by kernel_rfl
theorem sc10 : scal Try.prog 10 = true := by kernel_rfl
theorem el10 : ElemT Try.prog 10 1 16 (.string ⟨#[]⟩) := ElemT.of (by kernel_rfl) rfl
theorem sz11 : (Try.prog.info? 11).map (·.size) = some 1 := by kernel_rfl
theorem sc11 : scal Try.prog 11 = true := by kernel_rfl
theorem el11 : ElemT Try.prog 11 1 16 (.string ⟨#[]⟩) := ElemT.of (by kernel_rfl) rfl
theorem sz12 : (Try.prog.info? 12).map (·.size) = some 1 := by kernel_rfl
theorem sc12 : scal Try.prog 12 = true := by kernel_rfl
theorem el12 : ElemT Try.prog 12 1 8 (.int .u64 0) := ElemT.of (by kernel_rfl) rfl
theorem sz13 : (Try.prog.info? 13).map (·.size) = some 2 := by kernel_rfl
theorem ag13 : aggr Try.prog 13 2 = true := by kernel_rfl
theorem pl13 : structPlaces Try.prog 13 = some [(0, 1), (1, 1)] := by kernel_rfl
def z13 : List Value := [.string ⟨#[]⟩, .int .u64 0]
theorem el13 : ElemT Try.prog 13 2 24 (.agg z13.toArray) := ElemT.of (by kernel_rfl) (by kernel_rfl)
theorem sz14 : (Try.prog.info? 14).map (·.size) = some 2 := by kernel_rfl
theorem ag14 : aggr Try.prog 14 2 = true := by kernel_rfl
theorem pl14 : structPlaces Try.prog 14 = some [(0, 1), (1, 1)] := by kernel_rfl
def z14 : List Value := [.string ⟨#[]⟩, .int .u64 0]
theorem el14 : ElemT Try.prog 14 2 24 (.agg z14.toArray) := ElemT.of (by kernel_rfl) (by kernel_rfl)
theorem sz15 : (Try.prog.info? 15).map (·.size) = some 1 := by kernel_rfl
theorem sc15 : scal Try.prog 15 = true := by kernel_rfl
theorem el15 : ElemT Try.prog 15 1 8 (.pointer none) := ElemT.of (by kernel_rfl) rfl
theorem sz16 : (Try.prog.info? 16).map (·.size) = some 1 := by kernel_rfl
theorem sc16 : scal Try.prog 16 = true := by kernel_rfl
theorem el16 : ElemT Try.prog 16 1 8 (.pointer none) := ElemT.of (by kernel_rfl) rfl
theorem sz17 : (Try.prog.info? 17).map (·.size) = some 1 := by kernel_rfl
theorem sc17 : scal Try.prog 17 = true := by kernel_rfl
theorem el17 : ElemT Try.prog 17 1 8 (.pointer none) := ElemT.of (by kernel_rfl) rfl
theorem sz18 : (Try.prog.info? 18).map (·.size) = some 1 := by kernel_rfl
theorem ag18 : aggr Try.prog 18 1 = true := by kernel_rfl
theorem pl18 : structPlaces Try.prog 18 = some [(0, 1)] := by kernel_rfl
def z18 : List Value := [.pointer none]
theorem el18 : ElemT Try.prog 18 1 8 (.agg z18.toArray) := ElemT.of (by kernel_rfl) (by kernel_rfl)
theorem sz19 : (Try.prog.info? 19).map (·.size) = some 1 := by kernel_rfl
theorem ag19 : aggr Try.prog 19 1 = true := by kernel_rfl
theorem pl19 : structPlaces Try.prog 19 = some [(0, 1)] := by kernel_rfl
def z19 : List Value := [.pointer none]
theorem el19 : ElemT Try.prog 19 1 8 (.agg z19.toArray) := ElemT.of (by kernel_rfl) (by kernel_rfl)
theorem sz21 : (Try.prog.info? 21).map (·.size) = some 1 := by kernel_rfl
theorem sc21 : scal Try.prog 21 = true := by kernel_rfl
theorem el21 : ElemT Try.prog 21 1 4 (.int .i32 0) := ElemT.of (by kernel_rfl) rfl
theorem sz23 : (Try.prog.info? 23).map (·.size) = some 1 := by kernel_rfl
theorem sc23 : scal Try.prog 23 = true := by kernel_rfl
theorem el23 : ElemT Try.prog 23 1 8 (.pointer none) := ElemT.of (by kernel_rfl) rfl
theorem sz24 : (Try.prog.info? 24).map (·.size) = some 1 := by kernel_rfl
theorem sc24 : scal Try.prog 24 = true := by kernel_rfl
theorem el24 : ElemT Try.prog 24 1 24 (.slice none 0 0) := ElemT.of (by kernel_rfl) rfl
theorem sz25 : (Try.prog.info? 25).map (·.size) = some 1 := by kernel_rfl
theorem ag25 : aggr Try.prog 25 1 = true := by kernel_rfl
theorem pl25 : structPlaces Try.prog 25 = some [(0, 1)] := by kernel_rfl
def z25 : List Value := [.slice none 0 0]
theorem el25 : ElemT Try.prog 25 1 24 (.agg z25.toArray) := ElemT.of (by kernel_rfl) (by kernel_rfl)
theorem sz26 : (Try.prog.info? 26).map (·.size) = some 1 := by kernel_rfl
theorem ag26 : aggr Try.prog 26 1 = true := by kernel_rfl
theorem pl26 : structPlaces Try.prog 26 = some [(0, 1)] := by kernel_rfl
def z26 : List Value := [.slice none 0 0]
theorem el26 : ElemT Try.prog 26 1 24 (.agg z26.toArray) := ElemT.of (by kernel_rfl) (by kernel_rfl)
theorem sz29 : (Try.prog.info? 29).map (·.size) = some 1 := by kernel_rfl
theorem sc29 : scal Try.prog 29 = true := by kernel_rfl
theorem el29 : ElemT Try.prog 29 1 8 (.pointer none) := ElemT.of (by kernel_rfl) rfl
theorem sz39 : (Try.prog.info? 39).map (·.size) = some 1 := by kernel_rfl
theorem sc39 : scal Try.prog 39 = true := by kernel_rfl
theorem el39 : ElemT Try.prog 39 1 24 (.slice none 0 0) := ElemT.of (by kernel_rfl) rfl
theorem sz43 : (Try.prog.info? 43).map (·.size) = some 32 := by kernel_rfl
theorem ag43 : aggr Try.prog 43 32 = true := by kernel_rfl
def z43 : List Value := List.replicate 32 (.int .u8 0)
theorem el43 : ElemT Try.prog 43 32 32 (.agg z43.toArray) := ElemT.of (by kernel_rfl) (by kernel_rfl)
theorem sz44 : (Try.prog.info? 44).map (·.size) = some 32 := by kernel_rfl
theorem ag44 : aggr Try.prog 44 32 = true := by kernel_rfl
def z44 : List Value := List.replicate 32 (.int .u8 0)
theorem el44 : ElemT Try.prog 44 32 32 (.agg z44.toArray) := ElemT.of (by kernel_rfl) (by kernel_rfl)
theorem sz45 : (Try.prog.info? 45).map (·.size) = some 36 := by kernel_rfl
theorem ag45 : aggr Try.prog 45 36 = true := by kernel_rfl
theorem pl45 : structPlaces Try.prog 45 = some [(0, 1), (1, 1), (2, 1), (3, 32), (35, 1)] := by kernel_rfl
def z45 : List Value := [.int .i64 0, .int .i64 0, .int .i64 0] ++ List.replicate 32 (.int .u8 0) ++ [.string ⟨#[]⟩]
theorem el45 : ElemT Try.prog 45 36 72 (.agg z45.toArray) := ElemT.of (by kernel_rfl) (by kernel_rfl)
theorem sz46 : (Try.prog.info? 46).map (·.size) = some 36 := by kernel_rfl
theorem ag46 : aggr Try.prog 46 36 = true := by kernel_rfl
theorem pl46 : structPlaces Try.prog 46 = some [(0, 1), (1, 1), (2, 1), (3, 32), (35, 1)] := by kernel_rfl
def z46 : List Value := [.int .i64 0, .int .i64 0, .int .i64 0] ++ List.replicate 32 (.int .u8 0) ++ [.string ⟨#[]⟩]
theorem el46 : ElemT Try.prog 46 36 72 (.agg z46.toArray) := ElemT.of (by kernel_rfl) (by kernel_rfl)
theorem sz52 : (Try.prog.info? 52).map (·.size) = some 1 := by kernel_rfl
theorem sc52 : scal Try.prog 52 = true := by kernel_rfl
theorem el52 : ElemT Try.prog 52 1 24 (.slice none 0 0) := ElemT.of (by kernel_rfl) rfl
theorem sz53 : (Try.prog.info? 53).map (·.size) = some 2 := by kernel_rfl
theorem ag53 : aggr Try.prog 53 2 = true := by kernel_rfl
theorem pl53 : structPlaces Try.prog 53 = some [(0, 1), (1, 1)] := by kernel_rfl
def z53 : List Value := [.string ⟨#[]⟩, .bool false]
theorem el53 : ElemT Try.prog 53 2 24 (.agg z53.toArray) := ElemT.of (by kernel_rfl) (by kernel_rfl)
theorem sz54 : (Try.prog.info? 54).map (·.size) = some 2 := by kernel_rfl
theorem ag54 : aggr Try.prog 54 2 = true := by kernel_rfl
theorem pl54 : structPlaces Try.prog 54 = some [(0, 1), (1, 1)] := by kernel_rfl
def z54 : List Value := [.string ⟨#[]⟩, .bool false]
theorem el54 : ElemT Try.prog 54 2 24 (.agg z54.toArray) := ElemT.of (by kernel_rfl) (by kernel_rfl)
theorem sz55 : (Try.prog.info? 55).map (·.size) = some 1 := by kernel_rfl
theorem sc55 : scal Try.prog 55 = true := by kernel_rfl
theorem el55 : ElemT Try.prog 55 1 8 (.int .u64 0) := ElemT.of (by kernel_rfl) rfl
theorem sz58 : (Try.prog.info? 58).map (·.size) = some 1 := by kernel_rfl
theorem sc58 : scal Try.prog 58 = true := by kernel_rfl
theorem el58 : ElemT Try.prog 58 1 24 (.slice none 0 0) := ElemT.of (by kernel_rfl) rfl
theorem sz59 : (Try.prog.info? 59).map (·.size) = some 4 := by kernel_rfl
theorem ag59 : aggr Try.prog 59 4 = true := by kernel_rfl
theorem pl59 : structPlaces Try.prog 59 = some [(0, 1), (1, 1), (2, 1), (3, 1)] := by kernel_rfl
def z59 : List Value := [.pointer none, .pointer none, .pointer none, .string ⟨#[]⟩]
theorem el59 : ElemT Try.prog 59 4 40 (.agg z59.toArray) := ElemT.of (by kernel_rfl) (by kernel_rfl)
theorem sz60 : (Try.prog.info? 60).map (·.size) = some 4 := by kernel_rfl
theorem ag60 : aggr Try.prog 60 4 = true := by kernel_rfl
theorem pl60 : structPlaces Try.prog 60 = some [(0, 1), (1, 1), (2, 1), (3, 1)] := by kernel_rfl
def z60 : List Value := [.pointer none, .pointer none, .pointer none, .string ⟨#[]⟩]
theorem el60 : ElemT Try.prog 60 4 40 (.agg z60.toArray) := ElemT.of (by kernel_rfl) (by kernel_rfl)
theorem sz64 : (Try.prog.info? 64).map (·.size) = some 1 := by kernel_rfl
theorem sc64 : scal Try.prog 64 = true := by kernel_rfl
theorem el64 : ElemT Try.prog 64 1 4 (.int .u32 0) := ElemT.of (by kernel_rfl) rfl
theorem sz65 : (Try.prog.info? 65).map (·.size) = some 1 := by kernel_rfl
theorem sc65 : scal Try.prog 65 = true := by kernel_rfl
theorem el65 : ElemT Try.prog 65 1 1 (.int .u8 0) := ElemT.of (by kernel_rfl) rfl
theorem sz66 : (Try.prog.info? 66).map (·.size) = some 1 := by kernel_rfl
theorem sc66 : scal Try.prog 66 = true := by kernel_rfl
theorem el66 : ElemT Try.prog 66 1 1 (.int .u8 0) := ElemT.of (by kernel_rfl) rfl
theorem sz68 : (Try.prog.info? 68).map (·.size) = some 1 := by kernel_rfl
theorem sc68 : scal Try.prog 68 = true := by kernel_rfl
theorem el68 : ElemT Try.prog 68 1 8 (.pointer none) := ElemT.of (by kernel_rfl) rfl
theorem sz69 : (Try.prog.info? 69).map (·.size) = some 1 := by kernel_rfl
theorem sc69 : scal Try.prog 69 = true := by kernel_rfl
theorem el69 : ElemT Try.prog 69 1 4 (.int .i32 0) := ElemT.of (by kernel_rfl) rfl
theorem sz70 : (Try.prog.info? 70).map (·.size) = some 1 := by kernel_rfl
theorem sc70 : scal Try.prog 70 = true := by kernel_rfl
theorem el70 : ElemT Try.prog 70 1 4 (.int .i32 0) := ElemT.of (by kernel_rfl) rfl
theorem sz71 : (Try.prog.info? 71).map (·.size) = some 11 := by kernel_rfl
theorem ag71 : aggr Try.prog 71 11 = true := by kernel_rfl
theorem pl71 : structPlaces Try.prog 71 = some [(0, 1), (1, 1), (2, 1), (3, 1), (4, 1), (5, 1), (6, 1), (7, 1), (8, 1), (9, 1), (10, 1)] := by kernel_rfl
def z71 : List Value := [.int .u64 0, .int .u64 0, .int .u32 0, .int .u8 0, .int .u8 0, .int .u8 0, .int .u8 0, .nilFunc, .pointer none, .int .i32 0, .int .i32 0]
theorem el71 : ElemT Try.prog 71 11 48 (.agg z71.toArray) := ElemT.of (by kernel_rfl) (by kernel_rfl)
theorem sz72 : (Try.prog.info? 72).map (·.size) = some 11 := by kernel_rfl
theorem ag72 : aggr Try.prog 72 11 = true := by kernel_rfl
theorem pl72 : structPlaces Try.prog 72 = some [(0, 1), (1, 1), (2, 1), (3, 1), (4, 1), (5, 1), (6, 1), (7, 1), (8, 1), (9, 1), (10, 1)] := by kernel_rfl
def z72 : List Value := [.int .u64 0, .int .u64 0, .int .u32 0, .int .u8 0, .int .u8 0, .int .u8 0, .int .u8 0, .nilFunc, .pointer none, .int .i32 0, .int .i32 0]
theorem el72 : ElemT Try.prog 72 11 48 (.agg z72.toArray) := ElemT.of (by kernel_rfl) (by kernel_rfl)
theorem sz73 : (Try.prog.info? 73).map (·.size) = some 1 := by kernel_rfl
theorem sc73 : scal Try.prog 73 = true := by kernel_rfl
theorem el73 : ElemT Try.prog 73 1 8 (.pointer none) := ElemT.of (by kernel_rfl) rfl
theorem fm : Try.prog.follows .mixedOrders = true := by kernel_rfl
end Go.Proofs.Ytooemjldpchgfaa
