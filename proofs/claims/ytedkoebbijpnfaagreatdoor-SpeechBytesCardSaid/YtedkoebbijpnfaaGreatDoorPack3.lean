/- Parts XT, S1, S2, S3, S4, S5, S6, S7, S8, S9, L1, S11, S12, SH, L2, D1, D2 of the proofs of this seat: what the functions of these layers answer, in worlds that hold their blocks. No condition beside those that each theorem names. -/
import Derived.Test.YtedkoebbijpnfaaGreatDoorPack2
import Derived.Test.YtedkoebbijpnfaaGreatDoorRows
import Derived.Shelf.Strings.Repeat
import Derived.Shelf.Strings.SlTrimAscii
namespace Go.Proofs.YtedkoebbijpnfaaGreatDoor
open Go Go.Proofs.YtedkoebbijpnfaaGreatDoor.TH
theorem sz2 : (Tryz.prog.info? 2).map (·.size) = some 1 := by kernel_rfl
theorem sc2 : scal Tryz.prog 2 = true := by kernel_rfl
theorem el2 : ElemT Tryz.prog 2 1 8 (.int .i64 0) := ElemT.of (by kernel_rfl) rfl
theorem sz3 : (Tryz.prog.info? 3).map (·.size) = some 1 := by kernel_rfl
theorem sc3 : scal Tryz.prog 3 = true := by kernel_rfl
theorem el3 : ElemT Tryz.prog 3 1 8 (.int .i64 0) := ElemT.of (by kernel_rfl) rfl
theorem sz4 : (Tryz.prog.info? 4).map (·.size) = some 1 := by kernel_rfl
theorem sc4 : scal Tryz.prog 4 = true := by kernel_rfl
theorem el4 : ElemT Tryz.prog 4 1 1 (.bool false) := ElemT.of (by kernel_rfl) rfl
theorem sz5 : (Tryz.prog.info? 5).map (·.size) = some 1 := by kernel_rfl
theorem sc5 : scal Tryz.prog 5 = true := by kernel_rfl
theorem el5 : ElemT Tryz.prog 5 1 1 (.int .u8 0) := ElemT.of (by kernel_rfl) rfl
theorem sz6 : (Tryz.prog.info? 6).map (·.size) = some 1 := by kernel_rfl
theorem sc6 : scal Tryz.prog 6 = true := by kernel_rfl
theorem el6 : ElemT Tryz.prog 6 1 1 (.int .u8 0) := ElemT.of (by kernel_rfl) rfl
theorem sz7 : (Tryz.prog.info? 7).map (·.size) = some 4 := by kernel_rfl
theorem ag7 : aggr Tryz.prog 7 4 = true := by kernel_rfl
theorem pl7 : structPlaces Tryz.prog 7 = some [(0, 1), (1, 1), (2, 1), (3, 1)] := by kernel_rfl
def z7 : List Value := [.int .i64 0, .int .i64 0, .bool false, .int .u8 0]
theorem el7 : ElemT Tryz.prog 7 4 24 (.agg z7.toArray) := ElemT.of (by kernel_rfl) (by kernel_rfl)
theorem sz8 : (Tryz.prog.info? 8).map (·.size) = some 4 := by kernel_rfl
theorem ag8 : aggr Tryz.prog 8 4 = true := by kernel_rfl
theorem pl8 : structPlaces Tryz.prog 8 = some [(0, 1), (1, 1), (2, 1), (3, 1)] := by kernel_rfl
def z8 : List Value := [.int .i64 0, .int .i64 0, .bool false, .int .u8 0]
theorem el8 : ElemT Tryz.prog 8 4 24 (.agg z8.toArray) := ElemT.of (by kernel_rfl) (by kernel_rfl)
theorem sz9 : (Tryz.prog.info? 9).map (·.size) = some 1 := by kernel_rfl
theorem sc9 : scal Tryz.prog 9 = true := by kernel_rfl
theorem el9 : ElemT Tryz.prog 9 1 16 (.string ⟨#[]⟩) := ElemT.of (by kernel_rfl) rfl
theorem sz10 : (Tryz.prog.info? 10).map (·.size) = some 1 := by kernel_rfl
theorem sc10 : scal Tryz.prog 10 = true := by kernel_rfl
theorem el10 : ElemT Tryz.prog 10 1 16 (.string ⟨#[]⟩) := ElemT.of (by kernel_rfl) rfl
theorem sz11 : (Tryz.prog.info? 11).map (·.size) = some 1 := by kernel_rfl
theorem sc11 : scal Tryz.prog 11 = true := by kernel_rfl
theorem el11 : ElemT Tryz.prog 11 1 16 (.string ⟨#[]⟩) := ElemT.of (by kernel_rfl) rfl
theorem sz12 : (Tryz.prog.info? 12).map (·.size) = some 1 := by kernel_rfl
theorem sc12 : scal Tryz.prog 12 = true := by kernel_rfl
theorem el12 : ElemT Tryz.prog 12 1 8 (.int .u64 0) := ElemT.of (by kernel_rfl) rfl
theorem sz13 : (Tryz.prog.info? 13).map (·.size) = some 2 := by kernel_rfl
theorem ag13 : aggr Tryz.prog 13 2 = true := by kernel_rfl
theorem pl13 : structPlaces Tryz.prog 13 = some [(0, 1), (1, 1)] := by kernel_rfl
def z13 : List Value := [.string ⟨#[]⟩, .int .u64 0]
theorem el13 : ElemT Tryz.prog 13 2 24 (.agg z13.toArray) := ElemT.of (by kernel_rfl) (by kernel_rfl)
theorem sz14 : (Tryz.prog.info? 14).map (·.size) = some 2 := by kernel_rfl
theorem ag14 : aggr Tryz.prog 14 2 = true := by kernel_rfl
theorem pl14 : structPlaces Tryz.prog 14 = some [(0, 1), (1, 1)] := by kernel_rfl
def z14 : List Value := [.string ⟨#[]⟩, .int .u64 0]
theorem el14 : ElemT Tryz.prog 14 2 24 (.agg z14.toArray) := ElemT.of (by kernel_rfl) (by kernel_rfl)
theorem sz15 : (Tryz.prog.info? 15).map (·.size) = some 1 := by kernel_rfl
theorem sc15 : scal Tryz.prog 15 = true := by kernel_rfl
theorem el15 : ElemT Tryz.prog 15 1 8 (.pointer none) := ElemT.of (by kernel_rfl) rfl
theorem sz16 : (Tryz.prog.info? 16).map (·.size) = some 1 := by kernel_rfl
theorem sc16 : scal Tryz.prog 16 = true := by kernel_rfl
theorem el16 : ElemT Tryz.prog 16 1 8 (.pointer none) := ElemT.of (by kernel_rfl) rfl
theorem sz17 : (Tryz.prog.info? 17).map (·.size) = some 1 := by kernel_rfl
theorem sc17 : scal Tryz.prog 17 = true := by kernel_rfl
theorem el17 : ElemT Tryz.prog 17 1 8 (.pointer none) := ElemT.of (by kernel_rfl) rfl
theorem sz18 : (Tryz.prog.info? 18).map (·.size) = some 1 := by kernel_rfl
theorem ag18 : aggr Tryz.prog 18 1 = true := by kernel_rfl
theorem pl18 : structPlaces Tryz.prog 18 = some [(0, 1)] := by kernel_rfl
def z18 : List Value := [.pointer none]
theorem el18 : ElemT Tryz.prog 18 1 8 (.agg z18.toArray) := ElemT.of (by kernel_rfl) (by kernel_rfl)
theorem sz19 : (Tryz.prog.info? 19).map (·.size) = some 1 := by kernel_rfl
theorem ag19 : aggr Tryz.prog 19 1 = true := by kernel_rfl
theorem pl19 : structPlaces Tryz.prog 19 = some [(0, 1)] := by kernel_rfl
def z19 : List Value := [.pointer none]
theorem el19 : ElemT Tryz.prog 19 1 8 (.agg z19.toArray) := ElemT.of (by kernel_rfl) (by kernel_rfl)
theorem sz21 : (Tryz.prog.info? 21).map (·.size) = some 1 := by kernel_rfl
theorem sc21 : scal Tryz.prog 21 = true := by kernel_rfl
theorem el21 : ElemT Tryz.prog 21 1 4 (.int .i32 0) := ElemT.of (by kernel_rfl) rfl
theorem sz22 : (Tryz.prog.info? 22).map (·.size) = some 1 := by kernel_rfl
theorem sc22 : scal Tryz.prog 22 = true := by kernel_rfl
theorem el22 : ElemT Tryz.prog 22 1 24 (.slice none 0 0) := ElemT.of (by kernel_rfl) rfl
theorem sz23 : (Tryz.prog.info? 23).map (·.size) = some 32 := by kernel_rfl
theorem ag23 : aggr Tryz.prog 23 32 = true := by kernel_rfl
def z23 : List Value := List.replicate 32 (.int .u8 0)
theorem el23 : ElemT Tryz.prog 23 32 32 (.agg z23.toArray) := ElemT.of (by kernel_rfl) (by kernel_rfl)
theorem sz24 : (Tryz.prog.info? 24).map (·.size) = some 32 := by kernel_rfl
theorem ag24 : aggr Tryz.prog 24 32 = true := by kernel_rfl
def z24 : List Value := List.replicate 32 (.int .u8 0)
theorem el24 : ElemT Tryz.prog 24 32 32 (.agg z24.toArray) := ElemT.of (by kernel_rfl) (by kernel_rfl)
theorem sz25 : (Tryz.prog.info? 25).map (·.size) = some 1 := by kernel_rfl
theorem sc25 : scal Tryz.prog 25 = true := by kernel_rfl
theorem el25 : ElemT Tryz.prog 25 1 24 (.slice none 0 0) := ElemT.of (by kernel_rfl) rfl
theorem sz26 : (Tryz.prog.info? 26).map (·.size) = some 39 := by kernel_rfl
theorem ag26 : aggr Tryz.prog 26 39 = true := by kernel_rfl
theorem pl26 : structPlaces Tryz.prog 26 = some [(0, 1), (1, 1), (2, 1), (3, 1), (4, 1), (5, 1), (6, 32), (38, 1)] := by kernel_rfl
def z26 : List Value := [.int .i64 0, .int .i64 0, .int .i64 0, .int .i64 0, .int .i64 0, .slice none 0 0] ++ List.replicate 32 (.int .u8 0) ++ [.slice none 0 0]
theorem el26 : ElemT Tryz.prog 26 39 120 (.agg z26.toArray) := ElemT.of (by kernel_rfl) (by kernel_rfl)
theorem sz27 : (Tryz.prog.info? 27).map (·.size) = some 39 := by kernel_rfl
theorem ag27 : aggr Tryz.prog 27 39 = true := by kernel_rfl
theorem pl27 : structPlaces Tryz.prog 27 = some [(0, 1), (1, 1), (2, 1), (3, 1), (4, 1), (5, 1), (6, 32), (38, 1)] := by kernel_rfl
def z27 : List Value := [.int .i64 0, .int .i64 0, .int .i64 0, .int .i64 0, .int .i64 0, .slice none 0 0] ++ List.replicate 32 (.int .u8 0) ++ [.slice none 0 0]
theorem el27 : ElemT Tryz.prog 27 39 120 (.agg z27.toArray) := ElemT.of (by kernel_rfl) (by kernel_rfl)
theorem sz30 : (Tryz.prog.info? 30).map (·.size) = some 1 := by kernel_rfl
theorem sc30 : scal Tryz.prog 30 = true := by kernel_rfl
theorem el30 : ElemT Tryz.prog 30 1 8 (.int .i64 0) := ElemT.of (by kernel_rfl) rfl
theorem sz37 : (Tryz.prog.info? 37).map (·.size) = some 2 := by kernel_rfl
theorem ag37 : aggr Tryz.prog 37 2 = true := by kernel_rfl
theorem pl37 : structPlaces Tryz.prog 37 = some [(0, 1), (1, 1)] := by kernel_rfl
def z37 : List Value := [.string ⟨#[]⟩, .string ⟨#[]⟩]
theorem el37 : ElemT Tryz.prog 37 2 32 (.agg z37.toArray) := ElemT.of (by kernel_rfl) (by kernel_rfl)
theorem sz38 : (Tryz.prog.info? 38).map (·.size) = some 2 := by kernel_rfl
theorem ag38 : aggr Tryz.prog 38 2 = true := by kernel_rfl
theorem pl38 : structPlaces Tryz.prog 38 = some [(0, 1), (1, 1)] := by kernel_rfl
def z38 : List Value := [.string ⟨#[]⟩, .string ⟨#[]⟩]
theorem el38 : ElemT Tryz.prog 38 2 32 (.agg z38.toArray) := ElemT.of (by kernel_rfl) (by kernel_rfl)
theorem sz43 : (Tryz.prog.info? 43).map (·.size) = some 68 := by kernel_rfl
theorem ag43 : aggr Tryz.prog 43 68 = true := by kernel_rfl
theorem pl43 : structPlaces Tryz.prog 43 = some [(0, 1), (1, 32), (33, 32), (65, 1), (66, 1), (67, 1)] := by kernel_rfl
def z43 : List Value := [.int .i64 0] ++ List.replicate 64 (.int .u8 0) ++ [.int .i64 0, .int .i64 0, .int .i64 0]
theorem el43 : ElemT Tryz.prog 43 68 96 (.agg z43.toArray) := ElemT.of (by kernel_rfl) (by kernel_rfl)
theorem sz44 : (Tryz.prog.info? 44).map (·.size) = some 68 := by kernel_rfl
theorem ag44 : aggr Tryz.prog 44 68 = true := by kernel_rfl
theorem pl44 : structPlaces Tryz.prog 44 = some [(0, 1), (1, 32), (33, 32), (65, 1), (66, 1), (67, 1)] := by kernel_rfl
def z44 : List Value := [.int .i64 0] ++ List.replicate 64 (.int .u8 0) ++ [.int .i64 0, .int .i64 0, .int .i64 0]
theorem el44 : ElemT Tryz.prog 44 68 96 (.agg z44.toArray) := ElemT.of (by kernel_rfl) (by kernel_rfl)
theorem sz52 : (Tryz.prog.info? 52).map (·.size) = some 8 := by kernel_rfl
theorem ag52 : aggr Tryz.prog 52 8 = true := by kernel_rfl
def z52 : List Value := List.replicate 8 (.string ⟨#[]⟩)
theorem el52 : ElemT Tryz.prog 52 8 128 (.agg z52.toArray) := ElemT.of (by kernel_rfl) (by kernel_rfl)
theorem sz53 : (Tryz.prog.info? 53).map (·.size) = some 1 := by kernel_rfl
theorem sc53 : scal Tryz.prog 53 = true := by kernel_rfl
theorem el53 : ElemT Tryz.prog 53 1 8 (.pointer none) := ElemT.of (by kernel_rfl) rfl
theorem sz66 : (Tryz.prog.info? 66).map (·.size) = some 1 := by kernel_rfl
theorem sc66 : scal Tryz.prog 66 = true := by kernel_rfl
theorem el66 : ElemT Tryz.prog 66 1 24 (.slice none 0 0) := ElemT.of (by kernel_rfl) rfl
theorem sz67 : (Tryz.prog.info? 67).map (·.size) = some 9 := by kernel_rfl
theorem ag67 : aggr Tryz.prog 67 9 = true := by kernel_rfl
def z67 : List Value := List.replicate 9 (.string ⟨#[]⟩)
theorem el67 : ElemT Tryz.prog 67 9 144 (.agg z67.toArray) := ElemT.of (by kernel_rfl) (by kernel_rfl)
theorem sz68 : (Tryz.prog.info? 68).map (·.size) = some 1 := by kernel_rfl
theorem sc68 : scal Tryz.prog 68 = true := by kernel_rfl
theorem el68 : ElemT Tryz.prog 68 1 8 (.int .u64 0) := ElemT.of (by kernel_rfl) rfl
theorem sz70 : (Tryz.prog.info? 70).map (·.size) = some 1 := by kernel_rfl
theorem sc70 : scal Tryz.prog 70 = true := by kernel_rfl
theorem el70 : ElemT Tryz.prog 70 1 8 (.pointer none) := ElemT.of (by kernel_rfl) rfl
theorem sz71 : (Tryz.prog.info? 71).map (·.size) = some 1 := by kernel_rfl
theorem sc71 : scal Tryz.prog 71 = true := by kernel_rfl
theorem el71 : ElemT Tryz.prog 71 1 24 (.slice none 0 0) := ElemT.of (by kernel_rfl) rfl
theorem sz72 : (Tryz.prog.info? 72).map (·.size) = some 1 := by kernel_rfl
theorem ag72 : aggr Tryz.prog 72 1 = true := by kernel_rfl
theorem pl72 : structPlaces Tryz.prog 72 = some [(0, 1)] := by kernel_rfl
def z72 : List Value := [.slice none 0 0]
theorem el72 : ElemT Tryz.prog 72 1 24 (.agg z72.toArray) := ElemT.of (by kernel_rfl) (by kernel_rfl)
theorem sz73 : (Tryz.prog.info? 73).map (·.size) = some 1 := by kernel_rfl
theorem ag73 : aggr Tryz.prog 73 1 = true := by kernel_rfl
theorem pl73 : structPlaces Tryz.prog 73 = some [(0, 1)] := by kernel_rfl
def z73 : List Value := [.slice none 0 0]
theorem el73 : ElemT Tryz.prog 73 1 24 (.agg z73.toArray) := ElemT.of (by kernel_rfl) (by kernel_rfl)
theorem sz82 : (Tryz.prog.info? 82).map (·.size) = some 1 := by kernel_rfl
theorem sc82 : scal Tryz.prog 82 = true := by kernel_rfl
theorem el82 : ElemT Tryz.prog 82 1 24 (.slice none 0 0) := ElemT.of (by kernel_rfl) rfl
theorem sz85 : (Tryz.prog.info? 85).map (·.size) = some 1 := by kernel_rfl
theorem sc85 : scal Tryz.prog 85 = true := by kernel_rfl
theorem el85 : ElemT Tryz.prog 85 1 8 (.int .u64 0) := ElemT.of (by kernel_rfl) rfl
theorem sz86 : (Tryz.prog.info? 86).map (·.size) = some 2 := by kernel_rfl
theorem ag86 : aggr Tryz.prog 86 2 = true := by kernel_rfl
theorem pl86 : structPlaces Tryz.prog 86 = some [(0, 1), (1, 1)] := by kernel_rfl
def z86 : List Value := [.string ⟨#[]⟩, .bool false]
theorem el86 : ElemT Tryz.prog 86 2 24 (.agg z86.toArray) := ElemT.of (by kernel_rfl) (by kernel_rfl)
theorem sz87 : (Tryz.prog.info? 87).map (·.size) = some 2 := by kernel_rfl
theorem ag87 : aggr Tryz.prog 87 2 = true := by kernel_rfl
theorem pl87 : structPlaces Tryz.prog 87 = some [(0, 1), (1, 1)] := by kernel_rfl
def z87 : List Value := [.string ⟨#[]⟩, .bool false]
theorem el87 : ElemT Tryz.prog 87 2 24 (.agg z87.toArray) := ElemT.of (by kernel_rfl) (by kernel_rfl)
theorem sz92 : (Tryz.prog.info? 92).map (·.size) = some 1 := by kernel_rfl
theorem sc92 : scal Tryz.prog 92 = true := by kernel_rfl
theorem el92 : ElemT Tryz.prog 92 1 8 (.pointer none) := ElemT.of (by kernel_rfl) rfl
theorem sz93 : (Tryz.prog.info? 93).map (·.size) = some 2 := by kernel_rfl
theorem ag93 : aggr Tryz.prog 93 2 = true := by kernel_rfl
theorem pl93 : structPlaces Tryz.prog 93 = some [(0, 1), (1, 1)] := by kernel_rfl
def z93 : List Value := [.pointer none, .slice none 0 0]
theorem el93 : ElemT Tryz.prog 93 2 32 (.agg z93.toArray) := ElemT.of (by kernel_rfl) (by kernel_rfl)
theorem sz94 : (Tryz.prog.info? 94).map (·.size) = some 2 := by kernel_rfl
theorem ag94 : aggr Tryz.prog 94 2 = true := by kernel_rfl
theorem pl94 : structPlaces Tryz.prog 94 = some [(0, 1), (1, 1)] := by kernel_rfl
def z94 : List Value := [.pointer none, .slice none 0 0]
theorem el94 : ElemT Tryz.prog 94 2 32 (.agg z94.toArray) := ElemT.of (by kernel_rfl) (by kernel_rfl)
theorem sz96 : (Tryz.prog.info? 96).map (·.size) = some 1 := by kernel_rfl
theorem sc96 : scal Tryz.prog 96 = true := by kernel_rfl
theorem el96 : ElemT Tryz.prog 96 1 16 (.nilIface) := ElemT.of (by kernel_rfl) rfl
theorem sz101 : (Tryz.prog.info? 101).map (·.size) = some 1 := by kernel_rfl
theorem sc101 : scal Tryz.prog 101 = true := by kernel_rfl
theorem el101 : ElemT Tryz.prog 101 1 4 (.int .u32 0) := ElemT.of (by kernel_rfl) rfl
theorem sz102 : (Tryz.prog.info? 102).map (·.size) = some 8 := by kernel_rfl
theorem ag102 : aggr Tryz.prog 102 8 = true := by kernel_rfl
def z102 : List Value := List.replicate 8 (.int .u32 0)
theorem el102 : ElemT Tryz.prog 102 8 32 (.agg z102.toArray) := ElemT.of (by kernel_rfl) (by kernel_rfl)
theorem sz103 : (Tryz.prog.info? 103).map (·.size) = some 64 := by kernel_rfl
theorem ag103 : aggr Tryz.prog 103 64 = true := by kernel_rfl
def z103 : List Value := List.replicate 64 (.int .u32 0)
theorem el103 : ElemT Tryz.prog 103 64 256 (.agg z103.toArray) := ElemT.of (by kernel_rfl) (by kernel_rfl)
theorem sz110 : (Tryz.prog.info? 110).map (·.size) = some 1 := by kernel_rfl
theorem sc110 : scal Tryz.prog 110 = true := by kernel_rfl
theorem el110 : ElemT Tryz.prog 110 1 8 (.pointer none) := ElemT.of (by kernel_rfl) rfl
theorem sz112 : (Tryz.prog.info? 112).map (·.size) = some 256 := by kernel_rfl
theorem ag112 : aggr Tryz.prog 112 256 = true := by kernel_rfl
def z112 : List Value := List.replicate 256 (.bool false)
theorem el112 : ElemT Tryz.prog 112 256 256 (.agg z112.toArray) := ElemT.of (by kernel_rfl) (by kernel_rfl)
theorem sz113 : (Tryz.prog.info? 113).map (·.size) = some 256 := by kernel_rfl
theorem ag113 : aggr Tryz.prog 113 256 = true := by kernel_rfl
def z113 : List Value := List.replicate 256 (.bool false)
theorem el113 : ElemT Tryz.prog 113 256 256 (.agg z113.toArray) := ElemT.of (by kernel_rfl) (by kernel_rfl)
theorem sz117 : (Tryz.prog.info? 117).map (·.size) = some 1 := by kernel_rfl
theorem sc117 : scal Tryz.prog 117 = true := by kernel_rfl
theorem el117 : ElemT Tryz.prog 117 1 8 (.pointer none) := ElemT.of (by kernel_rfl) rfl
theorem sz118 : (Tryz.prog.info? 118).map (·.size) = some 1 := by kernel_rfl
theorem sc118 : scal Tryz.prog 118 = true := by kernel_rfl
theorem el118 : ElemT Tryz.prog 118 1 8 (.pointer none) := ElemT.of (by kernel_rfl) rfl
theorem sz121 : (Tryz.prog.info? 121).map (·.size) = some 1 := by kernel_rfl
theorem sc121 : scal Tryz.prog 121 = true := by kernel_rfl
theorem el121 : ElemT Tryz.prog 121 1 8 (.pointer none) := ElemT.of (by kernel_rfl) rfl
theorem sz128 : (Tryz.prog.info? 128).map (·.size) = some 10 := by kernel_rfl
theorem ag128 : aggr Tryz.prog 128 10 = true := by kernel_rfl
theorem pl128 : structPlaces Tryz.prog 128 = some [(0, 8), (8, 1), (9, 1)] := by kernel_rfl
def z128 : List Value := List.replicate 8 (.int .u32 0) ++ [.slice none 0 0, .int .u64 0]
theorem el128 : ElemT Tryz.prog 128 10 64 (.agg z128.toArray) := ElemT.of (by kernel_rfl) (by kernel_rfl)
theorem sz129 : (Tryz.prog.info? 129).map (·.size) = some 10 := by kernel_rfl
theorem ag129 : aggr Tryz.prog 129 10 = true := by kernel_rfl
theorem pl129 : structPlaces Tryz.prog 129 = some [(0, 8), (8, 1), (9, 1)] := by kernel_rfl
def z129 : List Value := List.replicate 8 (.int .u32 0) ++ [.slice none 0 0, .int .u64 0]
theorem el129 : ElemT Tryz.prog 129 10 64 (.agg z129.toArray) := ElemT.of (by kernel_rfl) (by kernel_rfl)
theorem sz133 : (Tryz.prog.info? 133).map (·.size) = some 256 := by kernel_rfl
theorem ag133 : aggr Tryz.prog 133 256 = true := by kernel_rfl
def z133 : List Value := List.replicate 256 (.int .u8 0)
theorem el133 : ElemT Tryz.prog 133 256 256 (.agg z133.toArray) := ElemT.of (by kernel_rfl) (by kernel_rfl)
theorem sz134 : (Tryz.prog.info? 134).map (·.size) = some 2 := by kernel_rfl
theorem ag134 : aggr Tryz.prog 134 2 = true := by kernel_rfl
theorem pl134 : structPlaces Tryz.prog 134 = some [(0, 1), (1, 1)] := by kernel_rfl
def z134 : List Value := [.int .u8 0, .int .u8 0]
theorem el134 : ElemT Tryz.prog 134 2 2 (.agg z134.toArray) := ElemT.of (by kernel_rfl) (by kernel_rfl)
theorem sz135 : (Tryz.prog.info? 135).map (·.size) = some 2 := by kernel_rfl
theorem ag135 : aggr Tryz.prog 135 2 = true := by kernel_rfl
theorem pl135 : structPlaces Tryz.prog 135 = some [(0, 1), (1, 1)] := by kernel_rfl
def z135 : List Value := [.int .u8 0, .int .u8 0]
theorem el135 : ElemT Tryz.prog 135 2 2 (.agg z135.toArray) := ElemT.of (by kernel_rfl) (by kernel_rfl)
theorem sz136 : (Tryz.prog.info? 136).map (·.size) = some 32 := by kernel_rfl
theorem ag136 : aggr Tryz.prog 136 32 = true := by kernel_rfl
def z136 : List Value := List.replicate 32 (.int .u8 0)
theorem el136 : ElemT Tryz.prog 136 32 32 (.agg z136.toArray) := ElemT.of (by kernel_rfl) (by kernel_rfl)
theorem sz141 : (Tryz.prog.info? 141).map (·.size) = some 4 := by kernel_rfl
theorem ag141 : aggr Tryz.prog 141 4 = true := by kernel_rfl
theorem pl141 : structPlaces Tryz.prog 141 = some [(0, 1), (1, 1), (2, 1), (3, 1)] := by kernel_rfl
def z141 : List Value := [.pointer none, .pointer none, .pointer none, .string ⟨#[]⟩]
theorem el141 : ElemT Tryz.prog 141 4 40 (.agg z141.toArray) := ElemT.of (by kernel_rfl) (by kernel_rfl)
theorem sz142 : (Tryz.prog.info? 142).map (·.size) = some 4 := by kernel_rfl
theorem ag142 : aggr Tryz.prog 142 4 = true := by kernel_rfl
theorem pl142 : structPlaces Tryz.prog 142 = some [(0, 1), (1, 1), (2, 1), (3, 1)] := by kernel_rfl
def z142 : List Value := [.pointer none, .pointer none, .pointer none, .string ⟨#[]⟩]
theorem el142 : ElemT Tryz.prog 142 4 40 (.agg z142.toArray) := ElemT.of (by kernel_rfl) (by kernel_rfl)
theorem sz146 : (Tryz.prog.info? 146).map (·.size) = some 1 := by kernel_rfl
theorem sc146 : scal Tryz.prog 146 = true := by kernel_rfl
theorem el146 : ElemT Tryz.prog 146 1 1 (.int .u8 0) := ElemT.of (by kernel_rfl) rfl
theorem sz147 : (Tryz.prog.info? 147).map (·.size) = some 1 := by kernel_rfl
theorem sc147 : scal Tryz.prog 147 = true := by kernel_rfl
theorem el147 : ElemT Tryz.prog 147 1 1 (.int .u8 0) := ElemT.of (by kernel_rfl) rfl
theorem sz149 : (Tryz.prog.info? 149).map (·.size) = some 1 := by kernel_rfl
theorem sc149 : scal Tryz.prog 149 = true := by kernel_rfl
theorem el149 : ElemT Tryz.prog 149 1 4 (.int .i32 0) := ElemT.of (by kernel_rfl) rfl
theorem sz150 : (Tryz.prog.info? 150).map (·.size) = some 1 := by kernel_rfl
theorem sc150 : scal Tryz.prog 150 = true := by kernel_rfl
theorem el150 : ElemT Tryz.prog 150 1 4 (.int .i32 0) := ElemT.of (by kernel_rfl) rfl
theorem sz151 : (Tryz.prog.info? 151).map (·.size) = some 11 := by kernel_rfl
theorem ag151 : aggr Tryz.prog 151 11 = true := by kernel_rfl
theorem pl151 : structPlaces Tryz.prog 151 = some [(0, 1), (1, 1), (2, 1), (3, 1), (4, 1), (5, 1), (6, 1), (7, 1), (8, 1), (9, 1), (10, 1)] := by kernel_rfl
def z151 : List Value := [.int .u64 0, .int .u64 0, .int .u32 0, .int .u8 0, .int .u8 0, .int .u8 0, .int .u8 0, .nilFunc, .pointer none, .int .i32 0, .int .i32 0]
theorem el151 : ElemT Tryz.prog 151 11 48 (.agg z151.toArray) := ElemT.of (by kernel_rfl) (by kernel_rfl)
theorem sz152 : (Tryz.prog.info? 152).map (·.size) = some 11 := by kernel_rfl
theorem ag152 : aggr Tryz.prog 152 11 = true := by kernel_rfl
theorem pl152 : structPlaces Tryz.prog 152 = some [(0, 1), (1, 1), (2, 1), (3, 1), (4, 1), (5, 1), (6, 1), (7, 1), (8, 1), (9, 1), (10, 1)] := by kernel_rfl
def z152 : List Value := [.int .u64 0, .int .u64 0, .int .u32 0, .int .u8 0, .int .u8 0, .int .u8 0, .int .u8 0, .nilFunc, .pointer none, .int .i32 0, .int .i32 0]
theorem el152 : ElemT Tryz.prog 152 11 48 (.agg z152.toArray) := ElemT.of (by kernel_rfl) (by kernel_rfl)
theorem fm : Tryz.prog.follows .mixedOrders = true := by kernel_rfl
end Go.Proofs.YtedkoebbijpnfaaGreatDoor

namespace Go.Proofs.YtedkoebbijpnfaaGreatDoor
open Go Go.Proofs.YtedkoebbijpnfaaGreatDoor.TH
set_option maxHeartbeats 1000000

abbrev EyeB (s : List UInt8) (bad : Bool) : Obj := .cells #[str s, .bool bad] 87 (0, 0)
abbrev PenB (v : Value) : Obj := .cells #[v] 73 (0, 0)
abbrev ptr (g : Nat) : Value := .pointer (some ⟨g, 0, none⟩)

theorem On_spec (s : List UInt8) : CallL Tryz.prog 28 [str s] [] (fun v Hs' => ∃ b, v = ptr b ∧ Hs' = [sg b (EyeB s false)]) := by
  refine CallL.enter Tryz.func28 Tryz.ntmps28 rfl rfl rfl ?_
  refine EL.seq ?_
  refine EL.region (.p 0 (.nil)) (by kernel_rfl) ?_
  refine EPL.p rfl rfl (q_assign (v := .pointer _) rfl) ?_
  refine EPL.nil ?_
  refine EL.go ?_
  refine EL.seq ?_
  refine EL.region (.p 0 (.p 1 (.x 2 [] (.p 3 (.nil))))) (by kernel_rfl) ?_
  refine EPL.p rfl rfl (q_move (v := .string _) rfl) ?_
  refine EPL.p rfl rfl (q_build (cells := #[.string _, .bool _]) pl87 el87 (.cons rfl rfl (by decide) rfl .nil)) ?_
  refine EPL.box (c := #[.string _, .bool _]) rfl rfl rfl (fun _ => HeldL.nil) (fun b1 => ?_)
  refine EPL.p rfl rfl (q_assign (v := .pointer _) rfl) ?_
  refine EPL.nil ?_
  refine EL.go ?_
  refine EL.ret ?_
  exact end_ret (fun _ => rfl) (fun _ => ⟨_, rfl, rfl⟩)

theorem Blind_spec (g : Nat) (s : List UInt8) (bad : Bool) : CallL Tryz.prog 56 [ptr g] [sg g (EyeB s bad)] (fun v Hs' => v = .tuple #[] ∧ Hs' = [sg g (EyeB [] true)]) := by
  refine CallL.enter Tryz.func56 Tryz.ntmps56 rfl rfl rfl ?_
  refine EL.seq ?_
  refine EL.region (.p 0 (.p 1 (.nil))) (by kernel_rfl) ?_
  refine EPL.p rfl rfl (q_move (v := .pointer _) rfl) ?_
  refine EPL.p rfl rfl (q_neqSome Tryz.underlying53 rfl rfl) ?_
  refine EPL.nil ?_
  refine EL.go ?_
  refine EL.yes rfl ?_
  refine EL.region (.p 0 (.p 1 (.p 2 (.p 3 (.x 4 [] (.p 5 (.p 6 (.x 7 [] (.nil))))))))) (by kernel_rfl) ?_
  refine EPL.p rfl rfl (q_move (v := .pointer _) rfl) ?_
  refine EPL.p rfl rfl (q_move (v := .pointer _) rfl) ?_
  refine EPL.p rfl rfl (q_nilCheck rfl) ?_
  refine EPL.p rfl rfl (q_fieldAddr (p := ⟨_, _, none⟩) Tryz.underlying87 rfl sz4 rfl rfl) ?_
  refine EPL.st (v := .bool _) (c' := #[.string _, .bool _]) rfl rfl sz4 rfl rfl rfl (oneV rfl) (Nat.le_of_ble_eq_true rfl) rfl HeldL.nil ?_
  refine EPL.p rfl rfl (q_nilCheck rfl) ?_
  refine EPL.p rfl rfl (q_fieldAddr (p := ⟨_, _, none⟩) Tryz.underlying87 rfl sz9 rfl rfl) ?_
  refine EPL.st (v := .string _) (c' := #[.string _, .bool _]) rfl rfl sz9 rfl rfl rfl (oneV rfl) (Nat.le_of_ble_eq_true rfl) rfl HeldL.nil ?_
  refine EPL.nil ?_
  exact end_normal (fun _ => rfl) (fun _ => ⟨rfl, rfl⟩)

theorem Bad_spec (g : Nat) (s : List UInt8) (bad : Bool) : CallL Tryz.prog 54 [ptr g] [sg g (EyeB s bad)] (fun v Hs' => v = .bool bad ∧ Hs' = [sg g (EyeB s bad)]) := by
  refine CallL.enter Tryz.func54 Tryz.ntmps54 rfl rfl rfl ?_
  refine EL.seq ?_
  refine EL.region (.p 0 (.nil)) (by kernel_rfl) ?_
  refine EPL.p rfl rfl (q_assign (v := .bool _) rfl) ?_
  refine EPL.nil ?_
  refine EL.go ?_
  refine EL.seq ?_
  refine EL.region (.p 0 (.p 1 (.p 2 (.p 3 (.p 4 (.p 5 (.l 6 (.p 7 (.p 8 (.nil)))))))))) (by kernel_rfl) ?_
  refine EPL.p rfl rfl (q_move (v := .pointer _) rfl) ?_
  refine EPL.p rfl rfl (q_eqlSome Tryz.underlying53 rfl rfl) ?_
  refine EPL.p rfl rfl (q_move (v := .bool _) rfl) ?_
  refine EPL.p rfl rfl (q_move (v := .pointer _) rfl) ?_
  refine EPL.p rfl rfl (q_nilCheck rfl) ?_
  refine EPL.p rfl rfl (q_fieldAddr (p := ⟨_, _, none⟩) Tryz.underlying87 rfl sz4 rfl rfl) ?_
  refine EPL.ld1 (v := .bool _) rfl rfl sc4 rfl rfl ?_
  refine EPL.p rfl rfl (q_pickF (v := .bool _) rfl rfl) ?_
  refine EPL.p rfl rfl (q_assign (v := .bool _) rfl) ?_
  refine EPL.nil ?_
  refine EL.go ?_
  refine EL.ret ?_
  exact end_ret (fun _ => rfl) (fun _ => ⟨rfl, rfl⟩)

end Go.Proofs.YtedkoebbijpnfaaGreatDoor

namespace Go.Proofs.YtedkoebbijpnfaaGreatDoor
open Go Go.Proofs.YtedkoebbijpnfaaGreatDoor.TH
set_option maxHeartbeats 1000000

def rawOK (s : List UInt8) (bad : Bool) (n : Int) : Prop := bad = false ∧ 0 ≤ n ∧ n ≤ s.length

theorem Raw_spec (g : Nat) (s : List UInt8) (bad : Bool) (n : Int) : CallL Tryz.prog 52 [ptr g, .int .i64 n] [sg g (EyeB s bad)] (fun v Hs' => (rawOK s bad n ∧ v = str (s.take n.toNat) ∧ Hs' = [sg g (EyeB (s.drop n.toNat) false)]) ∨ (¬ rawOK s bad n ∧ v = str [] ∧ Hs' = [sg g (EyeB [] true)])) := by
  refine CallL.enter Tryz.func52 Tryz.ntmps52 rfl rfl rfl ?_
  refine EL.seq ?_
  refine EL.region (.p 0 (.nil)) (by kernel_rfl) ?_
  refine EPL.p rfl rfl (q_assign (v := .string _) rfl) ?_
  refine EPL.nil ?_
  refine EL.go ?_
  refine EL.seq ?_
  refine EL.seq ?_
  refine EL.region (.p 0 (.p 1 (.p 2 (.p 3 (.p 4 (.p 5 (.l 6 (.p 7 (.p 8 (.p 9 (.p 10 (.p 11 (.p 12 (.p 13 (.p 14 (.p 15 (.p 16 (.l 17 (.p 18 (.p 19 (.p 20 (.nil)))))))))))))))))))))) (by kernel_rfl) ?_
  refine EPL.p rfl rfl (q_move (v := .pointer _) rfl) ?_
  refine EPL.p rfl rfl (q_eqlSome Tryz.underlying53 rfl rfl) ?_
  refine EPL.p rfl rfl (q_move (v := .bool _) rfl) ?_
  refine EPL.p rfl rfl (q_move (v := .pointer _) rfl) ?_
  refine EPL.p rfl rfl (q_nilCheck rfl) ?_
  refine EPL.p rfl rfl (q_fieldAddr (p := ⟨_, _, none⟩) Tryz.underlying87 rfl sz4 rfl rfl) ?_
  refine EPL.ld1 (v := .bool _) rfl rfl sc4 rfl rfl ?_
  refine EPL.p rfl rfl (q_pickF (v := .bool _) rfl rfl) ?_
  refine EPL.p rfl rfl (q_move (v := .bool _) rfl) ?_
  refine EPL.bool 14 rfl (fun c1 => ?_) (fun c1 => ?_)
  ·
    refine EPL.pno rfl rfl ?_
    refine EPL.pno rfl rfl ?_
    refine EPL.p rfl rfl (q_pickT (v := .bool _) rfl rfl) ?_
    refine EPL.p rfl rfl (q_move (v := .bool _) rfl) ?_
    refine EPL.pno rfl rfl ?_
    refine EPL.pno rfl rfl ?_
    refine EPL.pno rfl rfl ?_
    refine EPL.pno rfl rfl ?_
    refine EPL.rno rfl rfl ?_
    refine EPL.pno rfl rfl ?_
    refine EPL.pno rfl rfl ?_
    refine EPL.p rfl rfl (q_pickT (v := .bool _) rfl rfl) ?_
    refine EPL.nil ?_
    refine EL.go ?_
    refine EL.yes rfl ?_
    refine EL.seq ?_
    refine EL.region (.p 0 (.x 1 [] (.nil))) (by kernel_rfl) ?_
    refine EPL.p rfl rfl (q_move (v := .pointer _) rfl) ?_
    refine EPL.cl rfl rfl Tryz.func56 rfl rfl (Blind_spec g s bad) rfl ?_
    rintro _ _ ⟨rfl, rfl⟩
    refine ⟨HeldL.nil, ?_⟩
    refine EPL.nil ?_
    refine EL.go ?_
    refine EL.seq ?_
    refine EL.region (.p 0 (.nil)) (by kernel_rfl) ?_
    refine EPL.p rfl rfl (q_assign (v := .string _) rfl) ?_
    refine EPL.nil ?_
    refine EL.go ?_
    refine EL.ret ?_
    exact end_ret (fun _ => rfl) (fun _ => .inr ⟨by unfold rawOK; simp [c1], rfl, rfl⟩)
  ·
    refine EPL.p rfl rfl (q_move (v := .int _ _) rfl) ?_
    refine EPL.p rfl rfl (q_lss rfl rfl) ?_
    refine EPL.p rfl rfl (q_pickF (v := .bool _) rfl rfl) ?_
    refine EPL.p rfl rfl (q_move (v := .bool _) rfl) ?_
    refine EPL.bool 18 rfl (fun c2 => ?_) (fun c2 => ?_)
    ·
      have c2 := of_decide_eq_true c2
      refine EPL.pno rfl rfl ?_
      refine EPL.pno rfl rfl ?_
      refine EPL.pno rfl rfl ?_
      refine EPL.pno rfl rfl ?_
      refine EPL.rno rfl rfl ?_
      refine EPL.pno rfl rfl ?_
      refine EPL.pno rfl rfl ?_
      refine EPL.p rfl rfl (q_pickT (v := .bool _) rfl rfl) ?_
      refine EPL.nil ?_
      refine EL.go ?_
      refine EL.yes rfl ?_
      refine EL.seq ?_
      refine EL.region (.p 0 (.x 1 [] (.nil))) (by kernel_rfl) ?_
      refine EPL.p rfl rfl (q_move (v := .pointer _) rfl) ?_
      refine EPL.cl rfl rfl Tryz.func56 rfl rfl (Blind_spec g s bad) rfl ?_
      rintro _ _ ⟨rfl, rfl⟩
      refine ⟨HeldL.nil, ?_⟩
      refine EPL.nil ?_
      refine EL.go ?_
      refine EL.seq ?_
      refine EL.region (.p 0 (.nil)) (by kernel_rfl) ?_
      refine EPL.p rfl rfl (q_assign (v := .string _) rfl) ?_
      refine EPL.nil ?_
      refine EL.go ?_
      refine EL.ret ?_
      exact end_ret (fun _ => rfl) (fun _ => .inr ⟨by unfold rawOK; omega, rfl, rfl⟩)
    ·
      have c2 := of_decide_eq_false c2
      refine EPL.p rfl rfl (q_move (v := .int _ _) rfl) ?_
      refine EPL.p rfl rfl (q_move (v := .pointer _) rfl) ?_
      refine EPL.p rfl rfl (q_nilCheck rfl) ?_
      refine EPL.p rfl rfl (q_fieldAddr (p := ⟨_, _, none⟩) Tryz.underlying87 rfl sz9 rfl rfl) ?_
      refine EPL.ld1 (v := .string _) rfl rfl sc9 rfl rfl ?_
      refine EPL.p rfl rfl (q_lenStr Tryz.underlying9 rfl) ?_
      refine EPL.p rfl rfl (q_gtr rfl rfl) ?_
      refine EPL.p rfl rfl (q_pickF (v := .bool _) rfl rfl) ?_
      refine EPL.nil ?_
      refine EL.go ?_
      refine EL.cond rfl (fun c3 => ?_) (fun c3 => ?_)
      ·
        have c3 := of_decide_eq_true c3
        refine EL.seq ?_
        refine EL.region (.p 0 (.x 1 [] (.nil))) (by kernel_rfl) ?_
        refine EPL.p rfl rfl (q_move (v := .pointer _) rfl) ?_
        refine EPL.cl rfl rfl Tryz.func56 rfl rfl (Blind_spec g s bad) rfl ?_
        rintro _ _ ⟨rfl, rfl⟩
        refine ⟨HeldL.nil, ?_⟩
        refine EPL.nil ?_
        refine EL.go ?_
        refine EL.seq ?_
        refine EL.region (.p 0 (.nil)) (by kernel_rfl) ?_
        refine EPL.p rfl rfl (q_assign (v := .string _) rfl) ?_
        refine EPL.nil ?_
        refine EL.go ?_
        refine EL.ret ?_
        exact end_ret (fun _ => rfl) (fun _ => .inr ⟨by unfold rawOK; omega, rfl, rfl⟩)
      ·
        have c3 := of_decide_eq_false c3
        refine EL.skip ?_
        refine EL.go ?_
        refine EL.seq ?_
        refine EL.region (.p 0 (.p 1 (.p 2 (.l 3 (.p 4 (.p 5 (.p 6 (.nil)))))))) (by kernel_rfl) ?_
        refine EPL.p rfl rfl (q_move (v := .pointer _) rfl) ?_
        refine EPL.p rfl rfl (q_nilCheck rfl) ?_
        refine EPL.p rfl rfl (q_fieldAddr (p := ⟨_, _, none⟩) Tryz.underlying87 rfl sz9 rfl rfl) ?_
        refine EPL.ld1 (v := .string _) rfl rfl sc9 rfl rfl ?_
        refine EPL.p rfl rfl (q_move (v := .int _ _) rfl) ?_
        refine EPL.p rfl rfl (q_ssHi Tryz.underlying9 rfl rfl (by omega) (by omega)) ?_
        refine EPL.p rfl rfl (q_assign (v := .string _) rfl) ?_
        refine EPL.nil ?_
        refine EL.go ?_
        refine EL.seq ?_
        refine EL.region (.p 0 (.p 1 (.p 2 (.p 3 (.l 4 (.p 5 (.p 6 (.p 7 (.p 8 (.x 9 [] (.nil))))))))))) (by kernel_rfl) ?_
        refine EPL.p rfl rfl (q_move (v := .pointer _) rfl) ?_
        refine EPL.p rfl rfl (q_move (v := .pointer _) rfl) ?_
        refine EPL.p rfl rfl (q_nilCheck rfl) ?_
        refine EPL.p rfl rfl (q_fieldAddr (p := ⟨_, _, none⟩) Tryz.underlying87 rfl sz9 rfl rfl) ?_
        refine EPL.ld1 (v := .string _) rfl rfl sc9 rfl rfl ?_
        refine EPL.p rfl rfl (q_move (v := .int _ _) rfl) ?_
        refine EPL.p rfl rfl (q_ssLo Tryz.underlying9 rfl rfl (by omega) (by omega)) ?_
        refine EPL.p rfl rfl (q_nilCheck rfl) ?_
        refine EPL.p rfl rfl (q_fieldAddr (p := ⟨_, _, none⟩) Tryz.underlying87 rfl sz9 rfl rfl) ?_
        refine EPL.st (v := .string _) (c' := #[.string _, .bool _]) rfl rfl sz9 rfl rfl rfl (oneV rfl) (Nat.le_of_ble_eq_true rfl) rfl HeldL.nil ?_
        refine EPL.nil ?_
        refine EL.go ?_
        refine EL.seq ?_
        refine EL.region (.p 0 (.p 1 (.nil))) (by kernel_rfl) ?_
        refine EPL.p rfl rfl (q_move (v := .string _) rfl) ?_
        refine EPL.p rfl rfl (q_assign (v := .string _) rfl) ?_
        refine EPL.nil ?_
        refine EL.go ?_
        refine EL.ret ?_
        exact end_ret (fun _ => rfl) (fun _ => .inl ⟨⟨c1, by omega, by omega⟩, rfl, by subst c1; rfl⟩)


theorem Done_spec (g : Nat) (s : List UInt8) (bad : Bool) : CallL Tryz.prog 35 [ptr g] [sg g (EyeB s bad)] (fun v Hs' => v = .bool (!bad && decide (s = [])) ∧ Hs' = [sg g (EyeB s bad)]) := by
  refine CallL.enter Tryz.func35 Tryz.ntmps35 rfl rfl rfl ?_
  refine EL.seq ?_
  refine EL.region (.p 0 (.nil)) (by kernel_rfl) ?_
  refine EPL.p rfl rfl (q_assign (v := .bool _) rfl) ?_
  refine EPL.nil ?_
  refine EL.go ?_
  refine EL.seq ?_
  refine EL.region (.p 0 (.p 1 (.p 2 (.p 3 (.p 4 (.p 5 (.l 6 (.p 7 (.p 8 (.p 9 (.p 10 (.p 11 (.p 12 (.l 13 (.p 14 (.p 15 (.p 16 (.nil)))))))))))))))))) (by kernel_rfl) ?_
  refine EPL.p rfl rfl (q_move (v := .pointer _) rfl) ?_
  refine EPL.p rfl rfl (q_neqSome Tryz.underlying53 rfl rfl) ?_
  refine EPL.p rfl rfl (q_move (v := .bool _) rfl) ?_
  refine EPL.p rfl rfl (q_move (v := .pointer _) rfl) ?_
  refine EPL.p rfl rfl (q_nilCheck rfl) ?_
  refine EPL.p rfl rfl (q_fieldAddr (p := ⟨_, _, none⟩) Tryz.underlying87 rfl sz4 rfl rfl) ?_
  refine EPL.ld1 (v := .bool _) rfl rfl sc4 rfl rfl ?_
  refine EPL.p rfl rfl (q_not rfl) ?_
  refine EPL.p rfl rfl (q_pickT (v := .bool _) rfl rfl) ?_
  refine EPL.p rfl rfl (q_move (v := .bool _) rfl) ?_
  refine EPL.bool 12 rfl (fun c1 => ?_) (fun c1 => ?_)
  ·
    refine EPL.p rfl rfl (q_move (v := .pointer _) rfl) ?_
    refine EPL.p rfl rfl (q_nilCheck rfl) ?_
    refine EPL.p rfl rfl (q_fieldAddr (p := ⟨_, _, none⟩) Tryz.underlying87 rfl sz9 rfl rfl) ?_
    refine EPL.ld1 (v := .string _) rfl rfl sc9 rfl rfl ?_
    refine EPL.p rfl rfl (q_streq rfl rfl) ?_
    refine EPL.p rfl rfl (q_pickT (v := .bool _) rfl rfl) ?_
    refine EPL.p rfl rfl (q_assign (v := .bool _) rfl) ?_
    refine EPL.nil ?_
    refine EL.go ?_
    refine EL.ret ?_
    exact end_ret (fun _ => rfl) (fun _ => ⟨by rw [c1]; rfl, rfl⟩)
  ·
    refine EPL.pno rfl rfl ?_
    refine EPL.pno rfl rfl ?_
    refine EPL.pno rfl rfl ?_
    refine EPL.rno rfl rfl ?_
    refine EPL.pno rfl rfl ?_
    refine EPL.p rfl rfl (q_pickF (v := .bool _) rfl rfl) ?_
    refine EPL.p rfl rfl (q_assign (v := .bool _) rfl) ?_
    refine EPL.nil ?_
    refine EL.go ?_
    refine EL.ret ?_
    exact end_ret (fun _ => rfl) (fun _ => ⟨by rw [c1]; rfl, rfl⟩)

end Go.Proofs.YtedkoebbijpnfaaGreatDoor

namespace Go.Proofs.YtedkoebbijpnfaaGreatDoor
open Go Go.Proofs.YtedkoebbijpnfaaGreatDoor.TH
set_option maxHeartbeats 1000000

/-- What an eye answers that is asked for so many bytes, and what it then is. -/
def rawR (s : List UInt8) (bad : Bool) (n : Int) : List UInt8 × List UInt8 × Bool := if !bad && decide (0 ≤ n) && decide (n ≤ s.length) then (s.take n.toNat, s.drop n.toNat, false) else ([], [], true)
theorem rawR_len (s : List UInt8) (bad : Bool) (n : Int) (h : 0 ≤ n) : ((rawR s bad n).1.length : Int) ≤ n := by
  unfold rawR; split
  · simp; omega
  · simp; omega
theorem Raw_spec' (g : Nat) (s : List UInt8) (bad : Bool) (n : Int) : CallL Tryz.prog 52 [ptr g, .int .i64 n] [sg g (EyeB s bad)] (fun v Hs' => v = str (rawR s bad n).1 ∧ Hs' = [sg g (EyeB (rawR s bad n).2.1 (rawR s bad n).2.2)]) := by
  refine (Raw_spec g s bad n).mono fun v Hs' h => ?_
  unfold rawR
  rcases h with ⟨⟨h1, h2, h3⟩, rfl, rfl⟩ | ⟨h, rfl, rfl⟩
  · rw [if_pos (by simp [h1, h2, h3])]; exact ⟨rfl, rfl⟩
  · rw [if_neg (by intro h'; simp at h'; exact h ⟨h'.1.1, h'.1.2, h'.2⟩)]; exact ⟨rfl, rfl⟩
def wideR (s : List UInt8) (bad : Bool) : Int × List UInt8 × Bool := if 9223372036854775808 ≤ leN (rawR s bad 8).1 then (0, [], true) else (leN (rawR s bad 8).1, (rawR s bad 8).2)

theorem Wide_spec (g : Nat) (s : List UInt8) (bad : Bool) : CallL Tryz.prog 66 [ptr g] [sg g (EyeB s bad)] (fun r Hs' => r = .int .i64 (wideR s bad).1 ∧ Hs' = [sg g (EyeB (wideR s bad).2.1 (wideR s bad).2.2)]) := by
  refine CallL.enter Tryz.func66 Tryz.ntmps66 rfl rfl rfl ?_
  refine EL.seq ?_
  refine EL.region (.p 0 (.nil)) (by kernel_rfl) ?_
  refine EPL.p rfl rfl (q_assign (v := .int _ _) rfl) ?_
  refine EPL.nil ?_
  refine EL.go ?_
  refine EL.seq ?_
  refine EL.region (.p 0 (.x 1 [] (.p 2 (.p 3 (.nil))))) (by kernel_rfl) ?_
  refine EPL.p rfl rfl (q_move (v := .pointer _) rfl) ?_
  refine EPL.cl rfl rfl Tryz.func52 rfl rfl (Raw_spec' g s bad 8) rfl ?_
  rintro _ _ ⟨rfl, rfl⟩
  refine ⟨HeldL.nil, ?_⟩
  refine EPL.p rfl rfl (q_assign (v := .string _) rfl) ?_
  refine EPL.p rfl rfl (q_assign (v := .int _ _) rfl) ?_
  refine EPL.nil ?_
  refine EL.go ?_
  refine EL.seq ?_
  refine EL.seq ?_
  refine EL.region (.p 0 (.p 1 (.p 2 (.nil)))) (by kernel_rfl) ?_
  refine EPL.p rfl rfl (q_move (v := .string _) rfl) ?_
  refine EPL.p rfl rfl (q_lenStr Tryz.underlying9 rfl) ?_
  refine EPL.p rfl rfl (q_move (v := .int _ _) rfl) ?_
  refine EPL.nil ?_
  refine EL.go ?_
  refine EL.block ?_
  have hlen := rawR_len s bad 8 (by decide)
  refine EL.loop [4, 5, 10, 11, 12, 13, 14, 15, 16, 17, 18, 19, 20, 21, 22] (fun i : Nat => [(4, .int .u64 (leN ((rawR s bad 8).1.take i))), (10, .int .i64 i)]) (fun m i Hs' => m + i = (rawR s bad 8).1.length ∧ Hs' = [sg g (EyeB (rawR s bad 8).2.1 (rawR s bad 8).2.2)]) (rawR s bad 8).1.length 0 ⟨by omega, rfl⟩ ⟨rfl, rfl, trivial⟩ ?_
  rintro m i _ j ⟨hm, rfl⟩
  refine EL.seq ?_
  refine EL.region (.p 0 (.nil)) (by kernel_rfl) ?_
  refine EPL.p rfl rfl (q_lss rfl rfl) ?_
  refine EPL.nil ?_
  refine EL.go ?_
  refine EL.seq ?_
  refine EL.cond rfl (fun c1 => ?_) (fun c1 => ?_)
  ·
    have c1 := of_decide_eq_true c1
    obtain ⟨x, hx⟩ : ∃ x, (rawR s bad 8).1[i]? = some x := ⟨_, List.getElem?_eq_getElem (by omega)⟩
    refine EL.skip ?_
    refine EL.go ?_
    refine EL.seq ?_
    refine EL.block ?_
    refine EL.seq ?_
    refine EL.region (.p 0 (.p 1 (.nil))) (by kernel_rfl) ?_
    refine EPL.p rfl rfl (q_move (v := .int _ _) rfl) ?_
    refine EPL.p rfl rfl (q_assign (v := .int _ _) rfl) ?_
    refine EPL.nil ?_
    refine EL.go ?_
    refine EL.region (.p 0 (.p 1 (.p 2 (.p 3 (.p 4 (.p 5 (.p 6 (.p 7 (.p 8 (.p 9 (.nil))))))))))) (by kernel_rfl) ?_
    refine EPL.p rfl rfl (q_move (v := .int _ _) rfl) ?_
    refine EPL.p rfl rfl (q_move (v := .string _) rfl) ?_
    refine EPL.p rfl rfl (q_move (v := .int _ _) rfl) ?_
    refine EPL.p rfl rfl (q_indexStr Tryz.underlying9 rfl rfl (by omega) (by assumption)) ?_
    refine EPL.p rfl rfl (q_conv Tryz.underlying5 Tryz.underlying85 rfl) ?_
    refine EPL.p rfl rfl (q_move (v := .int _ _) rfl) ?_
    refine EPL.p rfl rfl (q_mul rfl rfl) ?_
    refine EPL.p rfl rfl (q_shl rfl rfl (by first | decide | omega | (rw [wrap_i64_in (by omega)]; omega))) ?_
    refine EPL.p rfl rfl (q_or rfl rfl) ?_
    refine EPL.p rfl rfl (q_assign (v := .int _ _) rfl) ?_
    refine EPL.nil ?_
    refine EL.go ?_
    refine EL.region (.p 0 (.p 1 (.nil))) (by kernel_rfl) ?_
    refine EPL.p rfl rfl (q_add rfl rfl) ?_
    refine EPL.p rfl rfl (q_move (v := .int _ _) rfl) ?_
    refine EPL.nil ?_
    refine RoundQ.mk (m - 1) (i + 1) (by omega) ⟨by omega, rfl⟩ (by repeat first | refine Off.upd rfl ?_ | exact Off.mix | refine Off.upds rfl ?_ | refine Off.mixs rfl ?_ | exact Off.refl) ⟨congrArg (Value.int .u64) (or_u64 hx (by omega)), congrArg (Value.int .i64) (wrap_i64_in (by omega)), trivial⟩
  ·
    have c1 := of_decide_eq_false c1
    have ht : (rawR s bad 8).1.take i = (rawR s bad 8).1 := List.take_of_length_le (by omega)
    rw [ht] at *
    refine EL.exit ?_
    refine EL.go ?_
    refine EL.seq ?_
    refine EL.seq ?_
    refine EL.region (.p 0 (.p 1 (.nil))) (by kernel_rfl) ?_
    refine EPL.p rfl rfl (q_move (v := .int _ _) rfl) ?_
    refine EPL.p rfl rfl (q_geq rfl rfl) ?_
    refine EPL.nil ?_
    refine EL.go ?_
    refine EL.cond rfl (fun c2 => ?_) (fun c2 => ?_)
    ·
      have c2 := of_decide_eq_true c2
      refine EL.seq ?_
      refine EL.region (.p 0 (.x 1 [] (.nil))) (by kernel_rfl) ?_
      refine EPL.p rfl rfl (q_move (v := .pointer _) rfl) ?_
      refine EPL.cl rfl rfl Tryz.func56 rfl rfl (Blind_spec g (rawR s bad 8).2.1 (rawR s bad 8).2.2) rfl ?_
      rintro _ _ ⟨rfl, rfl⟩
      refine ⟨HeldL.nil, ?_⟩
      refine EPL.nil ?_
      refine EL.go ?_
      refine EL.seq ?_
      refine EL.region (.p 0 (.nil)) (by kernel_rfl) ?_
      refine EPL.p rfl rfl (q_assign (v := .int _ _) rfl) ?_
      refine EPL.nil ?_
      refine EL.go ?_
      refine EL.ret ?_
      exact end_ret (fun _ => rfl) (fun _ => by unfold wideR; rw [if_pos (by omega)]; exact ⟨rfl, rfl⟩)
    ·
      have c2 := of_decide_eq_false c2
      refine EL.skip ?_
      refine EL.go ?_
      refine EL.seq ?_
      refine EL.region (.p 0 (.p 1 (.p 2 (.nil)))) (by kernel_rfl) ?_
      refine EPL.p rfl rfl (q_move (v := .int _ _) rfl) ?_
      refine EPL.p rfl rfl (q_conv Tryz.underlying85 Tryz.underlying3 rfl) ?_
      refine EPL.p rfl rfl (q_assign (v := .int _ _) rfl) ?_
      refine EPL.nil ?_
      refine EL.go ?_
      refine EL.ret ?_
      exact end_ret (fun _ => rfl) (fun _ => by unfold wideR; rw [if_neg (by omega)]; exact ⟨congrArg (Value.int .i64) (wrap_i64_in (by omega)), rfl⟩)

end Go.Proofs.YtedkoebbijpnfaaGreatDoor

namespace Go.Proofs.YtedkoebbijpnfaaGreatDoor
open Go Go.Proofs.YtedkoebbijpnfaaGreatDoor.TH
set_option maxHeartbeats 1000000

abbrev PenS (a : Option Addr) (c : Nat) (out : List UInt8) : Obj := PenB (.slice a out.length c)
abbrev OwnB (a : Option Addr) (c : Nat) (out : List UInt8) (H : Hp) : Prop := OwnS 5 1 (.slice a out.length c) out.length (out.map bV) H
theorem OwnB.app {v : Value} {out news : List UInt8} {m : Nat} {H : Hp} (h : OwnS 5 1 v (out.length + m) (out.map bV ++ news.map bV) H) : ∃ a c, v = .slice a (out ++ news).length c ∧ OwnB a c (out ++ news) H := by
  have hm : (out ++ news).length = out.length + m := by have := h.1; simp at this; simp; omega
  obtain ⟨a, c, rfl⟩ := h.sl
  refine ⟨a, c, by rw [hm], ?_⟩
  unfold OwnB
  rw [hm, List.map_append]; exact h
def putK (size : Int) : Nat := (min (max size 1) 8).toNat
theorem putK_eq (size : Int) : min (max size 1) 8 = (putK size : Int) := by unfold putK; omega
theorem putK_le (size : Int) : putK size ≤ 8 := by unfold putK; omega
def putB (size : Int) (ns : List Int) : List UInt8 := ns.flatMap (leB (putK size))
theorem putB_take (size : Int) {ns : List Int} {i : Nat} {x : Int} (h : ns[i]? = some x) : putB size (ns.take (i + 1)) = putB size (ns.take i) ++ leB (putK size) x := by
  obtain ⟨hi, hx⟩ := List.getElem?_eq_some_iff.1 h
  rw [List.take_succ_eq_append_getElem hi, hx]
  simp [putB]
theorem putB_len (size : Int) (ns : List Int) : (putB size ns).length ≤ 8 * ns.length := by
  unfold putB
  induction ns with
  | nil => simp
  | cons n ns ih => have := putK_le size; simp only [List.flatMap_cons, List.length_append, leB_length, List.length_cons]; omega
theorem bvOne (l : List UInt8) : ∀ u ∈ l.map bV, u.oneCell' = true := by intro u hu; obtain ⟨x, _, rfl⟩ := List.mem_map.1 hu; rfl

theorem Put_spec (p : Nat) (a la : Option Addr) (c lc : Nat) (out : List UInt8) (ns : List Int) (H I : Hp) (size : Int) (hO : OwnB a c out H) (hI : OwnS 3 1 (.slice la ns.length lc) ns.length (ns.map (.int .i64)) I) (hb : out.length + 8 * ns.length ≤ 1099511627776) : CallL Tryz.prog 42 [ptr p, .int .i64 size, .slice la ns.length lc] [sg p (PenS a c out), H, I] (fun r Hs' => r = .tuple #[] ∧ ∃ a' c' H', Hs' = [sg p (PenS a' c' (out ++ putB size ns)), H', I] ∧ OwnB a' c' (out ++ putB size ns) H') := by
  refine CallL.enter Tryz.func42 Tryz.ntmps42 rfl rfl rfl ?_
  refine EL.seq ?_
  refine EL.region (.p 0 (.p 1 (.p 2 (.nil)))) (by kernel_rfl) ?_
  refine EPL.p rfl rfl (q_move (v := .slice _ _ _) rfl) ?_
  refine EPL.p rfl rfl (q_lenSl Tryz.underlying82 rfl) ?_
  refine EPL.p rfl rfl (q_move (v := .int _ _) rfl) ?_
  refine EPL.nil ?_
  refine EL.go ?_
  refine EL.block ?_
  refine EL.loop [7, 8, 11, 12, 13, 14, 15, 16, 17, 18, 19, 20, 21, 22, 23, 24, 25, 26, 27, 28, 29, 30, 31, 32, 33, 34, 35, 36] (fun i : Nat => [(11, .int .i64 i)]) (fun m i Hs' => m + i = ns.length ∧ ∃ a' c' H', Hs' = [sg p (PenS a' c' (out ++ putB size (ns.take i))), H', I] ∧ OwnB a' c' (out ++ putB size (ns.take i)) H') ns.length 0 ⟨by omega, a, c, H, by simp [putB], by simpa [putB] using hO⟩ ⟨rfl, trivial⟩ ?_
  rintro m i _ j ⟨hm, a', c', H', rfl, hO'⟩
  refine EL.seq ?_
  refine EL.region (.p 0 (.nil)) (by kernel_rfl) ?_
  refine EPL.p rfl rfl (q_lss rfl rfl) ?_
  refine EPL.nil ?_
  refine EL.go ?_
  refine EL.seq ?_
  refine EL.cond rfl (fun c1 => ?_) (fun c1 => ?_)
  ·
    have c1 := of_decide_eq_true c1
    obtain ⟨x, hx⟩ : ∃ x, ns[i]? = some x := ⟨_, List.getElem?_eq_getElem (by omega)⟩
    obtain ⟨b, off, cap, cc, fr, he, hbI, hcc⟩ := hI.get1 (i := i) (u := .int .i64 x) (by simp [hx])
    obtain ⟨rfl, rfl⟩ : la = some ⟨b, off, none⟩ ∧ lc = cap := by simpa using he
    refine EL.skip ?_
    refine EL.go ?_
    refine EL.seq ?_
    refine EL.block ?_
    refine EL.seq ?_
    refine EL.region (.p 0 (.l 1 (.p 2 (.nil)))) (by kernel_rfl) ?_
    refine EPL.p rfl rfl (q_idxSl Tryz.underlying82 sz3 rfl rfl (by omega) (by omega)) ?_
    refine EPL.ld1P (v := .int _ _) rfl rfl sc3 rfl hbI (by simpa using hcc) ?_
    refine EPL.p rfl rfl (q_assign (v := .int _ _) rfl) ?_
    refine EPL.nil ?_
    refine EL.go ?_
    refine EL.seq ?_
    refine EL.region (.p 0 (.p 1 (.p 2 (.p 3 (.nil))))) (by kernel_rfl) ?_
    refine EPL.p rfl rfl (q_move (v := .int _ _) rfl) ?_
    refine EPL.p rfl rfl (q_max rfl rfl) ?_
    refine EPL.p rfl rfl (q_min rfl rfl) ?_
    refine EPL.p rfl rfl (q_move (v := .int _ _) rfl) ?_
    refine EPL.nil ?_
    refine EL.go ?_
    refine EL.block ?_
    have hK := putK_eq size
    have hK8 := putK_le size
    have hlen : (out ++ putB size (ns.take i)).length + 8 ≤ 1099511627776 := by
      have := putB_len size (ns.take i)
      simp at this ⊢; omega
    refine EL.loop [8, 18, 19, 20, 21, 22, 23, 24, 25, 26, 27, 28, 29, 30, 31, 32, 33, 34, 35] (fun i2 : Nat => [(18, .int .i64 i2)]) (fun m2 i2 Hs' => m2 + i2 = putK size ∧ ∃ a' c' H', Hs' = [sg p (PenS a' c' (out ++ putB size (ns.take i) ++ leB i2 x)), H', I] ∧ OwnB a' c' (out ++ putB size (ns.take i) ++ leB i2 x) H') (putK size) 0 ⟨by omega, a', c', H', by simp [leB], by simpa [leB] using hO'⟩ ⟨rfl, trivial⟩ ?_
    rintro m2 i2 _ j2 ⟨hm2, a2, c2', H2, rfl, hO2⟩
    have hl2 : (out ++ putB size (ns.take i) ++ leB i2 x).length = (out ++ putB size (ns.take i)).length + i2 := by rw [List.length_append, leB_length]
    refine EL.seq ?_
    refine EL.region (.p 0 (.nil)) (by kernel_rfl) ?_
    refine EPL.p rfl rfl (q_lss rfl rfl) ?_
    refine EPL.nil ?_
    refine EL.go ?_
    refine EL.seq ?_
    refine EL.cond rfl (fun c2 => ?_) (fun c2 => ?_)
    ·
      have c2 := of_decide_eq_true c2
      refine EL.skip ?_
      refine EL.go ?_
      refine EL.seq ?_
      refine EL.block ?_
      refine EL.seq ?_
      refine EL.region (.p 0 (.p 1 (.nil))) (by kernel_rfl) ?_
      refine EPL.p rfl rfl (q_move (v := .int _ _) rfl) ?_
      refine EPL.p rfl rfl (q_assign (v := .int _ _) rfl) ?_
      refine EPL.nil ?_
      refine EL.go ?_
      refine EL.draw (.p 0 (.p 1 (.p 2 (.p 3 (.l 4 (.p 5 (.p 6 (.p 7 (.p 8 (.p 9 (.x 10 [4] (.x 11 [] (.p 12 (.p 13 (.x 14 [] (.nil)))))))))))))))) [10, 11, 14] [4] fm (by kernel_rfl) ?_
      refine EPL.p rfl rfl (q_move (v := .pointer _) rfl) ?_
      refine EPL.p rfl rfl (q_move (v := .pointer _) rfl) ?_
      refine EPL.p rfl rfl (q_nilCheck rfl) ?_
      refine EPL.p rfl rfl (q_fieldAddr (p := ⟨_, _, none⟩) Tryz.underlying73 rfl sz71 rfl rfl) ?_
      refine EPL.ld1 (v := .slice _ _ _) rfl rfl sc71 rfl rfl ?_
      refine EPL.p rfl rfl (q_move (v := .int _ _) rfl) ?_
      refine EPL.p rfl rfl (q_move (v := .int _ _) rfl) ?_
      refine EPL.p rfl rfl (q_mul rfl rfl) ?_
      refine EPL.p rfl rfl (q_shr rfl rfl (by first | decide | omega | (rw [wrap_i64_in (by omega)]; omega))) ?_
      refine EPL.p rfl rfl (q_conv Tryz.underlying3 Tryz.underlying5 rfl) ?_
      refine EPL.bs rfl rfl Tryz.underlying71 el5 rfl rfl (fill1 (u := .int _ _) rfl rfl) (fun _ => (HeldL.ld1 rfl rfl sc71 rfl rfl HeldL.nil)) (fun b3 => ?_)
      refine EPL.app rfl rfl Tryz.underlying71 (.inr ⟨_, Tryz.underlying71⟩) el5 rfl (by exact hO2) rfl (by exact fun hd => Src.pick hd rfl rfl) (by unfold maxLen; omega) (by omega) (fun v' H3 hv' => ?_)
      rw [shr_u8 x (by omega)] at hv'
      obtain ⟨a3, c3, rfl, hO3⟩ := OwnB.app (news := [byteAt x i2]) hv'
      refine ⟨HeldL.nil, ?_⟩
      refine EPL.p rfl rfl (q_nilCheck rfl) ?_
      refine EPL.p rfl rfl (q_fieldAddr (p := ⟨_, _, none⟩) Tryz.underlying73 rfl sz71 rfl rfl) ?_
      refine EPL.st (v := .slice _ _ _) (c' := #[.slice _ _ _]) rfl rfl sz71 rfl rfl rfl (oneV rfl) (Nat.le_of_ble_eq_true rfl) rfl HeldL.nil ?_
      refine EPL.nil ?_
      refine EL.go ?_
      refine EL.region (.p 0 (.p 1 (.nil))) (by kernel_rfl) ?_
      refine EPL.p rfl rfl (q_add rfl rfl) ?_
      refine EPL.p rfl rfl (q_move (v := .int _ _) rfl) ?_
      refine EPL.nil ?_
      refine RoundQ.mkP (m2 - 1) (i2 + 1) [sg p (PenS a3 c3 (out ++ putB size (ns.take i) ++ leB i2 x ++ [byteAt x i2])), H3, I] (by omega) ⟨by omega, a3, c3, H3, by rw [leB_succ, ← List.append_assoc], by rw [leB_succ, ← List.append_assoc]; exact hO3⟩ (by repeat first | refine Off.upd rfl ?_ | exact Off.mix | refine Off.upds rfl ?_ | refine Off.mixs rfl ?_ | exact Off.refl) ⟨congrArg (Value.int .i64) (wrap_i64_in (by omega)), trivial⟩
    ·
      have c2 := of_decide_eq_false c2
      have hi2 : i2 = putK size := by omega
      subst hi2
      refine EL.exit ?_
      refine EL.go ?_
      refine EL.region (.p 0 (.p 1 (.nil))) (by kernel_rfl) ?_
      refine EPL.p rfl rfl (q_add rfl rfl) ?_
      refine EPL.p rfl rfl (q_move (v := .int _ _) rfl) ?_
      refine EPL.nil ?_
      refine RoundQ.mk (m - 1) (i + 1) (by omega) ⟨by omega, a2, c2', H2, by rw [putB_take size hx, List.append_assoc], by rw [putB_take size hx, ← List.append_assoc]; exact hO2⟩ (by repeat first | refine Off.upd rfl ?_ | exact Off.mix | refine Off.upds rfl ?_ | refine Off.mixs rfl ?_ | exact Off.refl) ⟨congrArg (Value.int .i64) (wrap_i64_in (by omega)), trivial⟩
  ·
    have c1 := of_decide_eq_false c1
    have ht : ns.take i = ns := List.take_of_length_le (by omega)
    rw [ht] at hO' ⊢
    refine EL.exit ?_
    exact end_normal (fun _ => rfl) (fun _ => ⟨rfl, a', c', H', rfl, hO'⟩)

end Go.Proofs.YtedkoebbijpnfaaGreatDoor

namespace Go.Proofs.YtedkoebbijpnfaaGreatDoor
open Go Go.Proofs.YtedkoebbijpnfaaGreatDoor.TH
set_option maxHeartbeats 1000000
theorem PRaw_spec (p : Nat) (a : Option Addr) (c : Nat) (out s : List UInt8) (H : Hp) (hO : OwnB a c out H) (hb : out.length + s.length ≤ 1099511627776) : CallL Tryz.prog 43 [ptr p, str s] [sg p (PenS a c out), H] (fun r Hs' => r = .tuple #[] ∧ ∃ a' c' H', Hs' = [sg p (PenS a' c' (out ++ s)), H'] ∧ OwnB a' c' (out ++ s) H') := by
  refine CallL.enter Tryz.func43 Tryz.ntmps43 rfl rfl rfl ?_
  refine EL.region (.p 0 (.p 1 (.p 2 (.p 3 (.l 4 (.p 5 (.x 6 [] (.p 7 (.p 8 (.x 9 [] (.nil))))))))))) (by kernel_rfl) ?_
  refine EPL.p rfl rfl (q_move (v := .pointer _) rfl) ?_
  refine EPL.p rfl rfl (q_move (v := .pointer _) rfl) ?_
  refine EPL.p rfl rfl (q_nilCheck rfl) ?_
  refine EPL.p rfl rfl (q_fieldAddr (p := ⟨_, _, none⟩) Tryz.underlying73 rfl sz71 rfl rfl) ?_
  refine EPL.ld1 (v := .slice _ _ _) rfl rfl sc71 rfl rfl ?_
  refine EPL.p rfl rfl (q_move (v := .string _) rfl) ?_
  refine EPL.app rfl rfl Tryz.underlying71 (.inl Tryz.underlying9) el5 rfl (by exact hO) rfl (by exact fun hd => Src.str) (by unfold maxLen; omega) (by omega) (fun v' H3 hv' => ?_)
  obtain ⟨a3, c3, rfl, hO3⟩ := OwnB.app hv'
  refine ⟨HeldL.nil, ?_⟩
  refine EPL.p rfl rfl (q_nilCheck rfl) ?_
  refine EPL.p rfl rfl (q_fieldAddr (p := ⟨_, _, none⟩) Tryz.underlying73 rfl sz71 rfl rfl) ?_
  refine EPL.st (v := .slice _ _ _) (c' := #[.slice _ _ _]) rfl rfl sz71 rfl rfl rfl (oneV rfl) (Nat.le_of_ble_eq_true rfl) rfl HeldL.nil ?_
  refine EPL.nil ?_
  exact end_normal (fun _ => rfl) (fun _ => ⟨rfl, a3, c3, H3, rfl, hO3⟩)

theorem Text_spec (p : Nat) (a : Option Addr) (c : Nat) (out : List UInt8) (H : Hp) (hO : OwnB a c out H) : CallL Tryz.prog 46 [ptr p] [sg p (PenS a c out), H] (fun r Hs' => r = str out ∧ Hs' = [sg p (PenS a c out), H]) := by
  refine CallL.enter Tryz.func46 Tryz.ntmps46 rfl rfl rfl ?_
  refine EL.seq ?_
  refine EL.region (.p 0 (.nil)) (by kernel_rfl) ?_
  refine EPL.p rfl rfl (q_assign (v := .string _) rfl) ?_
  refine EPL.nil ?_
  refine EL.go ?_
  refine EL.seq ?_
  refine EL.region (.p 0 (.p 1 (.p 2 (.l 3 (.l 4 (.p 5 (.nil))))))) (by kernel_rfl) ?_
  refine EPL.p rfl rfl (q_move (v := .pointer _) rfl) ?_
  refine EPL.p rfl rfl (q_nilCheck rfl) ?_
  refine EPL.p rfl rfl (q_fieldAddr (p := ⟨_, _, none⟩) Tryz.underlying73 rfl sz71 rfl rfl) ?_
  refine EPL.ld1 (v := .slice _ _ _) rfl rfl sc71 rfl rfl ?_
  refine EPL.bts rfl rfl Tryz.underlying71 Tryz.underlying5 Tryz.underlying9 rfl (by exact hO) ?_
  refine EPL.p rfl rfl (q_assign (v := .string _) rfl) ?_
  refine EPL.nil ?_
  refine EL.go ?_
  refine EL.ret ?_
  exact end_ret (fun _ => rfl) (fun _ => ⟨rfl, rfl⟩)


/-- A count's bytes. -/
def cntB (n : Int) : List UInt8 := if n ≤ 252 then leB (putK 1) (max n 0) else if n ≤ 65535 then leB (putK 1) 253 ++ leB (putK 2) n else if n ≤ 4294967295 then leB (putK 1) 254 ++ leB (putK 4) n else leB (putK 1) 255 ++ leB (putK 8) n
theorem Put1_spec (p : Nat) (a : Option Addr) (b c : Nat) (out : List UInt8) (n : Int) (H : Hp) (size : Int) (hO : OwnB a c out H) (hb : out.length + 8 ≤ 1099511627776) : CallL Tryz.prog 42 [ptr p, .int .i64 size, .slice (some ⟨b, 0, none⟩) 1 1] [sg p (PenS a c out), H, sg b (.cells #[.int .i64 n] 3 (0, 0))] (fun r Hs' => r = .tuple #[] ∧ ∃ a' c' H', Hs' = [sg p (PenS a' c' (out ++ leB (putK size) n)), H', sg b (.cells #[.int .i64 n] 3 (0, 0))] ∧ OwnB a' c' (out ++ leB (putK size) n) H') := by
  have := Put_spec p a (some ⟨b, 0, none⟩) c 1 out [n] H (sg b (.cells #[.int .i64 n] 3 (0, 0))) size hO OwnS.one (by simpa using hb)
  simpa [putB] using this

theorem PCount_spec (p : Nat) (a : Option Addr) (c : Nat) (out : List UInt8) (n : Int) (H : Hp) (hO : OwnB a c out H) (hb : out.length + 30 ≤ 1099511627776) : CallL Tryz.prog 47 [ptr p, .int .i64 n] [sg p (PenS a c out), H] (fun r Hs' => r = .tuple #[] ∧ ∃ a' c' H', Hs' = [sg p (PenS a' c' (out ++ cntB n)), H'] ∧ OwnB a' c' (out ++ cntB n) H') := by
  refine CallL.enter Tryz.func47 Tryz.ntmps47 rfl rfl rfl ?_
  refine EL.block ?_
  refine EL.seq ?_
  refine EL.region (.p 0 (.p 1 (.p 2 (.nil)))) (by kernel_rfl) ?_
  refine EPL.p rfl rfl (q_move (v := .int _ _) rfl) ?_
  refine EPL.p rfl rfl (q_leq rfl rfl) ?_
  refine EPL.p rfl rfl (q_assign (v := .bool _) rfl) ?_
  refine EPL.nil ?_
  refine EL.go ?_
  refine EL.cond rfl (fun c1 => ?_) (fun c1 => ?_)
  ·
    have c1 := of_decide_eq_true c1
    refine EL.region (.p 0 (.p 1 (.p 2 (.x 3 [] (.x 4 [] (.nil)))))) (by kernel_rfl) ?_
    refine EPL.p rfl rfl (q_move (v := .pointer _) rfl) ?_
    refine EPL.p rfl rfl (q_move (v := .int _ _) rfl) ?_
    refine EPL.p rfl rfl (q_max rfl rfl) ?_
    refine EPL.bs rfl rfl Tryz.underlying82 el3 rfl rfl (fill1 (u := .int _ _) rfl rfl) (fun _ => HeldL.nil) (fun b2 => ?_)
    refine EPL.cl rfl rfl Tryz.func42 rfl rfl (Put1_spec p a b2 c (out) (max n 0) H 1 hO (by omega)) rfl ?_
    rintro _ _ ⟨rfl, a1, c1', H1, rfl, hO1⟩
    refine ⟨HeldL.nil, ?_⟩
    refine EPL.nil ?_
    exact end_normalP [sg p (PenS a1 c1' (out ++ leB (putK 1) (max n 0))), H1] (fun _ => rfl) (fun _ => ⟨rfl, a1, c1', H1, by unfold cntB; rw [if_pos c1], by unfold cntB; rw [if_pos c1]; exact hO1⟩)
  ·
    have c1 := of_decide_eq_false c1
    refine EL.seq ?_
    refine EL.region (.p 0 (.p 1 (.p 2 (.nil)))) (by kernel_rfl) ?_
    refine EPL.p rfl rfl (q_move (v := .int _ _) rfl) ?_
    refine EPL.p rfl rfl (q_leq rfl rfl) ?_
    refine EPL.p rfl rfl (q_assign (v := .bool _) rfl) ?_
    refine EPL.nil ?_
    refine EL.go ?_
    refine EL.cond rfl (fun c3 => ?_) (fun c3 => ?_)
    ·
      have c3 := of_decide_eq_true c3
      refine EL.seq ?_
      refine EL.region (.p 0 (.x 1 [] (.x 2 [] (.nil)))) (by kernel_rfl) ?_
      refine EPL.p rfl rfl (q_move (v := .pointer _) rfl) ?_
      refine EPL.bs rfl rfl Tryz.underlying82 el3 rfl rfl (fill1 (u := .int _ _) rfl rfl) (fun _ => HeldL.nil) (fun b4 => ?_)
      refine EPL.cl rfl rfl Tryz.func42 rfl rfl (Put1_spec p a b4 c (out) (253) H 1 hO (by omega)) rfl ?_
      rintro _ _ ⟨rfl, a1, c1', H1, rfl, hO1⟩
      refine ⟨HeldL.nil, ?_⟩
      refine EPL.nil ?_
      refine EL.go ?_
      refine EL.region (.p 0 (.p 1 (.x 2 [] (.x 3 [] (.nil))))) (by kernel_rfl) ?_
      refine EPL.p rfl rfl (q_move (v := .pointer _) rfl) ?_
      refine EPL.p rfl rfl (q_move (v := .int _ _) rfl) ?_
      refine EPL.bs rfl rfl Tryz.underlying82 el3 rfl rfl (fill1 (u := .int _ _) rfl rfl) (fun _ => HeldL.nil) (fun b5 => ?_)
      refine EPL.cl rfl rfl Tryz.func42 rfl rfl (Put1_spec p a1 b5 c1' (out ++ leB (putK 1) 253) (n) H1 2 hO1 (by rw [List.length_append, leB_length]; have := putK_le 1; omega)) rfl ?_
      rintro _ _ ⟨rfl, a2, c2', H2, rfl, hO2⟩
      refine ⟨HeldL.nil, ?_⟩
      refine EPL.nil ?_
      exact end_normalP [sg p (PenS a2 c2' (out ++ leB (putK 1) 253 ++ leB (putK 2) n)), H2] (fun _ => rfl) (fun _ => have e : cntB n = leB (putK 1) 253 ++ leB (putK 2) n := (by unfold cntB; rw [if_neg c1, if_pos c3]); ⟨rfl, a2, c2', H2, by rw [e, List.append_assoc], by rw [e, ← List.append_assoc]; exact hO2⟩)
    ·
      have c3 := of_decide_eq_false c3
      refine EL.seq ?_
      refine EL.region (.p 0 (.p 1 (.p 2 (.nil)))) (by kernel_rfl) ?_
      refine EPL.p rfl rfl (q_move (v := .int _ _) rfl) ?_
      refine EPL.p rfl rfl (q_leq rfl rfl) ?_
      refine EPL.p rfl rfl (q_assign (v := .bool _) rfl) ?_
      refine EPL.nil ?_
      refine EL.go ?_
      refine EL.cond rfl (fun c6 => ?_) (fun c6 => ?_)
      ·
        have c6 := of_decide_eq_true c6
        refine EL.seq ?_
        refine EL.region (.p 0 (.x 1 [] (.x 2 [] (.nil)))) (by kernel_rfl) ?_
        refine EPL.p rfl rfl (q_move (v := .pointer _) rfl) ?_
        refine EPL.bs rfl rfl Tryz.underlying82 el3 rfl rfl (fill1 (u := .int _ _) rfl rfl) (fun _ => HeldL.nil) (fun b7 => ?_)
        refine EPL.cl rfl rfl Tryz.func42 rfl rfl (Put1_spec p a b7 c (out) (254) H 1 hO (by omega)) rfl ?_
        rintro _ _ ⟨rfl, a1, c1', H1, rfl, hO1⟩
        refine ⟨HeldL.nil, ?_⟩
        refine EPL.nil ?_
        refine EL.go ?_
        refine EL.region (.p 0 (.p 1 (.x 2 [] (.x 3 [] (.nil))))) (by kernel_rfl) ?_
        refine EPL.p rfl rfl (q_move (v := .pointer _) rfl) ?_
        refine EPL.p rfl rfl (q_move (v := .int _ _) rfl) ?_
        refine EPL.bs rfl rfl Tryz.underlying82 el3 rfl rfl (fill1 (u := .int _ _) rfl rfl) (fun _ => HeldL.nil) (fun b8 => ?_)
        refine EPL.cl rfl rfl Tryz.func42 rfl rfl (Put1_spec p a1 b8 c1' (out ++ leB (putK 1) 254) (n) H1 4 hO1 (by rw [List.length_append, leB_length]; have := putK_le 1; omega)) rfl ?_
        rintro _ _ ⟨rfl, a2, c2', H2, rfl, hO2⟩
        refine ⟨HeldL.nil, ?_⟩
        refine EPL.nil ?_
        exact end_normalP [sg p (PenS a2 c2' (out ++ leB (putK 1) 254 ++ leB (putK 4) n)), H2] (fun _ => rfl) (fun _ => have e : cntB n = leB (putK 1) 254 ++ leB (putK 4) n := (by unfold cntB; rw [if_neg c1, if_neg c3, if_pos c6]); ⟨rfl, a2, c2', H2, by rw [e, List.append_assoc], by rw [e, ← List.append_assoc]; exact hO2⟩)
      ·
        have c6 := of_decide_eq_false c6
        refine EL.seq ?_
        refine EL.region (.p 0 (.x 1 [] (.x 2 [] (.nil)))) (by kernel_rfl) ?_
        refine EPL.p rfl rfl (q_move (v := .pointer _) rfl) ?_
        refine EPL.bs rfl rfl Tryz.underlying82 el3 rfl rfl (fill1 (u := .int _ _) rfl rfl) (fun _ => HeldL.nil) (fun b9 => ?_)
        refine EPL.cl rfl rfl Tryz.func42 rfl rfl (Put1_spec p a b9 c (out) (255) H 1 hO (by omega)) rfl ?_
        rintro _ _ ⟨rfl, a1, c1', H1, rfl, hO1⟩
        refine ⟨HeldL.nil, ?_⟩
        refine EPL.nil ?_
        refine EL.go ?_
        refine EL.region (.p 0 (.p 1 (.x 2 [] (.x 3 [] (.nil))))) (by kernel_rfl) ?_
        refine EPL.p rfl rfl (q_move (v := .pointer _) rfl) ?_
        refine EPL.p rfl rfl (q_move (v := .int _ _) rfl) ?_
        refine EPL.bs rfl rfl Tryz.underlying82 el3 rfl rfl (fill1 (u := .int _ _) rfl rfl) (fun _ => HeldL.nil) (fun b10 => ?_)
        refine EPL.cl rfl rfl Tryz.func42 rfl rfl (Put1_spec p a1 b10 c1' (out ++ leB (putK 1) 255) (n) H1 8 hO1 (by rw [List.length_append, leB_length]; have := putK_le 1; omega)) rfl ?_
        rintro _ _ ⟨rfl, a2, c2', H2, rfl, hO2⟩
        refine ⟨HeldL.nil, ?_⟩
        refine EPL.nil ?_
        exact end_normalP [sg p (PenS a2 c2' (out ++ leB (putK 1) 255 ++ leB (putK 8) n)), H2] (fun _ => rfl) (fun _ => have e : cntB n = leB (putK 1) 255 ++ leB (putK 8) n := (by unfold cntB; rw [if_neg c1, if_neg c3, if_neg c6]); ⟨rfl, a2, c2', H2, by rw [e, List.append_assoc], by rw [e, ← List.append_assoc]; exact hO2⟩)

end Go.Proofs.YtedkoebbijpnfaaGreatDoor

namespace Go.Proofs.YtedkoebbijpnfaaGreatDoor
open Go Go.Proofs.YtedkoebbijpnfaaGreatDoor.TH
set_option maxHeartbeats 1000000

def getK (size : Int) : Nat := (min (max size 1) 7).toNat
theorem getK_eq (size : Int) : min (max size 1) 7 = (getK size : Int) := by unfold getK; omega
theorem getK_le (size : Int) : getK size ≤ 7 := by unfold getK; omega
def getR (s : List UInt8) (bad : Bool) (size : Int) : Int := leN (rawR s bad (min (max size 1) 7)).1
def getT (s : List UInt8) (bad : Bool) (size : Int) : List UInt8 × Bool := (rawR s bad (min (max size 1) 7)).2

theorem Get_spec (g : Nat) (s : List UInt8) (bad : Bool) (size : Int) : CallL Tryz.prog 29 [ptr g, .int .i64 size] [sg g (EyeB s bad)] (fun r Hs' => r = .int .i64 (getR s bad size) ∧ Hs' = [sg g (EyeB (getT s bad size).1 (getT s bad size).2)]) := by
  refine CallL.enter Tryz.func29 Tryz.ntmps29 rfl rfl rfl ?_
  refine EL.seq ?_
  refine EL.region (.p 0 (.nil)) (by kernel_rfl) ?_
  refine EPL.p rfl rfl (q_assign (v := .int _ _) rfl) ?_
  refine EPL.nil ?_
  refine EL.go ?_
  refine EL.seq ?_
  refine EL.region (.p 0 (.p 1 (.p 2 (.p 3 (.x 4 [] (.p 5 (.p 6 (.nil)))))))) (by kernel_rfl) ?_
  refine EPL.p rfl rfl (q_move (v := .pointer _) rfl) ?_
  refine EPL.p rfl rfl (q_move (v := .int _ _) rfl) ?_
  refine EPL.p rfl rfl (q_max rfl rfl) ?_
  refine EPL.p rfl rfl (q_min rfl rfl) ?_
  refine EPL.cl rfl rfl Tryz.func52 rfl rfl (Raw_spec' g s bad (min (max size 1) 7)) rfl ?_
  rintro _ _ ⟨rfl, rfl⟩
  refine ⟨HeldL.nil, ?_⟩
  refine EPL.p rfl rfl (q_assign (v := .string _) rfl) ?_
  refine EPL.p rfl rfl (q_assign (v := .int _ _) rfl) ?_
  refine EPL.nil ?_
  refine EL.go ?_
  refine EL.seq ?_
  refine EL.seq ?_
  refine EL.region (.p 0 (.p 1 (.p 2 (.nil)))) (by kernel_rfl) ?_
  refine EPL.p rfl rfl (q_move (v := .string _) rfl) ?_
  refine EPL.p rfl rfl (q_lenStr Tryz.underlying9 rfl) ?_
  refine EPL.p rfl rfl (q_move (v := .int _ _) rfl) ?_
  refine EPL.nil ?_
  refine EL.go ?_
  refine EL.block ?_
  have hlen := rawR_len s bad (min (max size 1) 7) (by omega)
  refine EL.loop [6, 7, 15, 16, 17, 18, 19, 20, 21, 22, 23, 24, 25, 26, 27] (fun i : Nat => [(6, .int .i64 (leN ((rawR s bad (min (max size 1) 7)).1.take i))), (15, .int .i64 i)]) (fun m i Hs' => m + i = (rawR s bad (min (max size 1) 7)).1.length ∧ Hs' = [sg g (EyeB (rawR s bad (min (max size 1) 7)).2.1 (rawR s bad (min (max size 1) 7)).2.2)]) (rawR s bad (min (max size 1) 7)).1.length 0 ⟨by omega, rfl⟩ ⟨rfl, rfl, trivial⟩ ?_
  rintro m i _ j ⟨hm, rfl⟩
  refine EL.seq ?_
  refine EL.region (.p 0 (.nil)) (by kernel_rfl) ?_
  refine EPL.p rfl rfl (q_lss rfl rfl) ?_
  refine EPL.nil ?_
  refine EL.go ?_
  refine EL.seq ?_
  refine EL.cond rfl (fun c1 => ?_) (fun c1 => ?_)
  ·
    have c1 := of_decide_eq_true c1
    obtain ⟨x, hx⟩ : ∃ x, (rawR s bad (min (max size 1) 7)).1[i]? = some x := ⟨_, List.getElem?_eq_getElem (by omega)⟩
    refine EL.skip ?_
    refine EL.go ?_
    refine EL.seq ?_
    refine EL.block ?_
    refine EL.seq ?_
    refine EL.region (.p 0 (.p 1 (.nil))) (by kernel_rfl) ?_
    refine EPL.p rfl rfl (q_move (v := .int _ _) rfl) ?_
    refine EPL.p rfl rfl (q_assign (v := .int _ _) rfl) ?_
    refine EPL.nil ?_
    refine EL.go ?_
    refine EL.region (.p 0 (.p 1 (.p 2 (.p 3 (.p 4 (.p 5 (.p 6 (.p 7 (.p 8 (.p 9 (.nil))))))))))) (by kernel_rfl) ?_
    refine EPL.p rfl rfl (q_move (v := .int _ _) rfl) ?_
    refine EPL.p rfl rfl (q_move (v := .string _) rfl) ?_
    refine EPL.p rfl rfl (q_move (v := .int _ _) rfl) ?_
    refine EPL.p rfl rfl (q_indexStr Tryz.underlying9 rfl rfl (by omega) (by assumption)) ?_
    refine EPL.p rfl rfl (q_conv Tryz.underlying5 Tryz.underlying3 rfl) ?_
    refine EPL.p rfl rfl (q_move (v := .int _ _) rfl) ?_
    refine EPL.p rfl rfl (q_mul rfl rfl) ?_
    refine EPL.p rfl rfl (q_shl rfl rfl (by first | decide | omega | (rw [wrap_i64_in (by omega)]; omega))) ?_
    refine EPL.p rfl rfl (q_or rfl rfl) ?_
    refine EPL.p rfl rfl (q_assign (v := .int _ _) rfl) ?_
    refine EPL.nil ?_
    refine EL.go ?_
    refine EL.region (.p 0 (.p 1 (.nil))) (by kernel_rfl) ?_
    refine EPL.p rfl rfl (q_add rfl rfl) ?_
    refine EPL.p rfl rfl (q_move (v := .int _ _) rfl) ?_
    refine EPL.nil ?_
    refine RoundQ.mk (m - 1) (i + 1) (by omega) ⟨by omega, rfl⟩ (by repeat first | refine Off.upd rfl ?_ | exact Off.mix | refine Off.upds rfl ?_ | refine Off.mixs rfl ?_ | exact Off.refl) ⟨congrArg (Value.int .i64) (or_i64 hx (by omega)), congrArg (Value.int .i64) (wrap_i64_in (by omega)), trivial⟩
  ·
    have c1 := of_decide_eq_false c1
    have ht : (rawR s bad (min (max size 1) 7)).1.take i = (rawR s bad (min (max size 1) 7)).1 := List.take_of_length_le (by omega)
    rw [ht] at *
    refine EL.exit ?_
    refine EL.go ?_
    refine EL.seq ?_
    refine EL.region (.p 0 (.p 1 (.nil))) (by kernel_rfl) ?_
    refine EPL.p rfl rfl (q_move (v := .int _ _) rfl) ?_
    refine EPL.p rfl rfl (q_assign (v := .int _ _) rfl) ?_
    refine EPL.nil ?_
    refine EL.go ?_
    refine EL.ret ?_
    exact end_ret (fun _ => rfl) (fun _ => ⟨rfl, rfl⟩)


/-- After a first byte. -/
def cnt2 (s : List UInt8) (bad : Bool) : Int × Int × List UInt8 × Bool :=
  if getR s bad 1 = 253 then (getR (getT s bad 1).1 (getT s bad 1).2 2, 253, getT (getT s bad 1).1 (getT s bad 1).2 2)
  else if getR s bad 1 = 254 then (getR (getT s bad 1).1 (getT s bad 1).2 4, 65536, getT (getT s bad 1).1 (getT s bad 1).2 4)
  else if getR s bad 1 = 255 then ((wideR (getT s bad 1).1 (getT s bad 1).2).1, 4294967296, (wideR (getT s bad 1).1 (getT s bad 1).2).2)
  else (getR s bad 1, 0, getT s bad 1)
def countR (s : List UInt8) (bad : Bool) (most : Int) : Int × List UInt8 × Bool :=
  if (cnt2 s bad).1 < (cnt2 s bad).2.1 ∨ most < (cnt2 s bad).1 then (0, [], true) else ((cnt2 s bad).1, (cnt2 s bad).2.2)

theorem ECount_spec (g : Nat) (s : List UInt8) (bad : Bool) (most : Int) : CallL Tryz.prog 53 [ptr g, .int .i64 most] [sg g (EyeB s bad)] (fun r Hs' => r = .int .i64 (countR s bad most).1 ∧ Hs' = [sg g (EyeB (countR s bad most).2.1 (countR s bad most).2.2)]) := by
  refine CallL.enter Tryz.func53 Tryz.ntmps53 rfl rfl rfl ?_
  refine EL.seq ?_
  refine EL.region (.p 0 (.nil)) (by kernel_rfl) ?_
  refine EPL.p rfl rfl (q_assign (v := .int _ _) rfl) ?_
  refine EPL.nil ?_
  refine EL.go ?_
  refine EL.seq ?_
  refine EL.region (.p 0 (.x 1 [] (.p 2 (.p 3 (.nil))))) (by kernel_rfl) ?_
  refine EPL.p rfl rfl (q_move (v := .pointer _) rfl) ?_
  refine EPL.cl rfl rfl Tryz.func29 rfl rfl (Get_spec g s bad 1) rfl ?_
  rintro _ _ ⟨rfl, rfl⟩
  refine ⟨HeldL.nil, ?_⟩
  refine EPL.p rfl rfl (q_assign (v := .int _ _) rfl) ?_
  refine EPL.p rfl rfl (q_assign (v := .int _ _) rfl) ?_
  refine EPL.nil ?_
  refine EL.go ?_
  refine EL.seq ?_
  refine EL.seq ?_
  refine EL.region (.p 0 (.nil)) (by kernel_rfl) ?_
  refine EPL.p rfl rfl (q_move (v := .int _ _) rfl) ?_
  refine EPL.nil ?_
  refine EL.go ?_
  refine EL.block ?_
  refine EL.seq ?_
  refine EL.region (.p 0 (.p 1 (.nil))) (by kernel_rfl) ?_
  refine EPL.p rfl rfl (q_eql rfl rfl) ?_
  refine EPL.p rfl rfl (q_assign (v := .bool _) rfl) ?_
  refine EPL.nil ?_
  refine EL.go ?_
  refine EL.cond rfl (fun c1 => ?_) (fun c1 => ?_)
  ·
    have c1 := of_decide_eq_true c1
    refine EL.region (.p 0 (.x 1 [] (.p 2 (.p 3 (.nil))))) (by kernel_rfl) ?_
    refine EPL.p rfl rfl (q_move (v := .pointer _) rfl) ?_
    refine EPL.cl rfl rfl Tryz.func29 rfl rfl (Get_spec g (getT s bad 1).1 (getT s bad 1).2 2) rfl ?_
    rintro _ _ ⟨rfl, rfl⟩
    refine ⟨HeldL.nil, ?_⟩
    refine EPL.p rfl rfl (q_assign (v := .int _ _) rfl) ?_
    refine EPL.p rfl rfl (q_assign (v := .int _ _) rfl) ?_
    refine EPL.nil ?_
    refine EL.go ?_
    refine EL.seq ?_
    refine EL.seq ?_
    refine EL.region (.p 0 (.p 1 (.p 2 (.p 3 (.p 4 (.p 5 (.p 6 (.p 7 (.nil))))))))) (by kernel_rfl) ?_
    refine EPL.p rfl rfl (q_move (v := .int _ _) rfl) ?_
    refine EPL.p rfl rfl (q_move (v := .int _ _) rfl) ?_
    refine EPL.p rfl rfl (q_lss rfl rfl) ?_
    refine EPL.p rfl rfl (q_move (v := .bool _) rfl) ?_
    refine EPL.bool 25 rfl (fun c2 => ?_) (fun c2 => ?_)
    ·
      have c2 := of_decide_eq_true c2
      refine EPL.pno rfl rfl ?_
      refine EPL.pno rfl rfl ?_
      refine EPL.pno rfl rfl ?_
      refine EPL.p rfl rfl (q_pickT (v := .bool _) rfl rfl) ?_
      refine EPL.nil ?_
      refine EL.go ?_
      refine EL.yes rfl ?_
      refine EL.seq ?_
      refine EL.region (.p 0 (.x 1 [] (.nil))) (by kernel_rfl) ?_
      refine EPL.p rfl rfl (q_move (v := .pointer _) rfl) ?_
      refine EPL.cl rfl rfl Tryz.func56 rfl rfl (Blind_spec g (getT (getT s bad 1).1 (getT s bad 1).2 2).1 (getT (getT s bad 1).1 (getT s bad 1).2 2).2) rfl ?_
      rintro _ _ ⟨rfl, rfl⟩
      refine ⟨HeldL.nil, ?_⟩
      refine EPL.nil ?_
      refine EL.go ?_
      refine EL.seq ?_
      refine EL.region (.p 0 (.nil)) (by kernel_rfl) ?_
      refine EPL.p rfl rfl (q_assign (v := .int _ _) rfl) ?_
      refine EPL.nil ?_
      refine EL.go ?_
      refine EL.ret ?_
      exact end_ret (fun _ => rfl) (fun _ => by unfold countR cnt2; rw [if_pos c1, if_pos (by dsimp only; omega)]; exact ⟨rfl, rfl⟩)
    ·
      have c2 := of_decide_eq_false c2
      refine EPL.p rfl rfl (q_move (v := .int _ _) rfl) ?_
      refine EPL.p rfl rfl (q_move (v := .int _ _) rfl) ?_
      refine EPL.p rfl rfl (q_gtr rfl rfl) ?_
      refine EPL.p rfl rfl (q_pickF (v := .bool _) rfl rfl) ?_
      refine EPL.nil ?_
      refine EL.go ?_
      refine EL.cond rfl (fun c3 => ?_) (fun c3 => ?_)
      ·
        have c3 := of_decide_eq_true c3
        refine EL.seq ?_
        refine EL.region (.p 0 (.x 1 [] (.nil))) (by kernel_rfl) ?_
        refine EPL.p rfl rfl (q_move (v := .pointer _) rfl) ?_
        refine EPL.cl rfl rfl Tryz.func56 rfl rfl (Blind_spec g (getT (getT s bad 1).1 (getT s bad 1).2 2).1 (getT (getT s bad 1).1 (getT s bad 1).2 2).2) rfl ?_
        rintro _ _ ⟨rfl, rfl⟩
        refine ⟨HeldL.nil, ?_⟩
        refine EPL.nil ?_
        refine EL.go ?_
        refine EL.seq ?_
        refine EL.region (.p 0 (.nil)) (by kernel_rfl) ?_
        refine EPL.p rfl rfl (q_assign (v := .int _ _) rfl) ?_
        refine EPL.nil ?_
        refine EL.go ?_
        refine EL.ret ?_
        exact end_ret (fun _ => rfl) (fun _ => by unfold countR cnt2; rw [if_pos c1, if_pos (by dsimp only; omega)]; exact ⟨rfl, rfl⟩)
      ·
        have c3 := of_decide_eq_false c3
        refine EL.skip ?_
        refine EL.go ?_
        refine EL.seq ?_
        refine EL.region (.p 0 (.p 1 (.nil))) (by kernel_rfl) ?_
        refine EPL.p rfl rfl (q_move (v := .int _ _) rfl) ?_
        refine EPL.p rfl rfl (q_assign (v := .int _ _) rfl) ?_
        refine EPL.nil ?_
        refine EL.go ?_
        refine EL.ret ?_
        exact end_ret (fun _ => rfl) (fun _ => by unfold countR cnt2; rw [if_pos c1, if_neg (by dsimp only; omega)]; exact ⟨rfl, rfl⟩)
  ·
    have c1 := of_decide_eq_false c1
    refine EL.seq ?_
    refine EL.region (.p 0 (.p 1 (.nil))) (by kernel_rfl) ?_
    refine EPL.p rfl rfl (q_eql rfl rfl) ?_
    refine EPL.p rfl rfl (q_assign (v := .bool _) rfl) ?_
    refine EPL.nil ?_
    refine EL.go ?_
    refine EL.cond rfl (fun c4 => ?_) (fun c4 => ?_)
    ·
      have c4 := of_decide_eq_true c4
      refine EL.region (.p 0 (.x 1 [] (.p 2 (.p 3 (.nil))))) (by kernel_rfl) ?_
      refine EPL.p rfl rfl (q_move (v := .pointer _) rfl) ?_
      refine EPL.cl rfl rfl Tryz.func29 rfl rfl (Get_spec g (getT s bad 1).1 (getT s bad 1).2 4) rfl ?_
      rintro _ _ ⟨rfl, rfl⟩
      refine ⟨HeldL.nil, ?_⟩
      refine EPL.p rfl rfl (q_assign (v := .int _ _) rfl) ?_
      refine EPL.p rfl rfl (q_assign (v := .int _ _) rfl) ?_
      refine EPL.nil ?_
      refine EL.go ?_
      refine EL.seq ?_
      refine EL.seq ?_
      refine EL.region (.p 0 (.p 1 (.p 2 (.p 3 (.p 4 (.p 5 (.p 6 (.p 7 (.nil))))))))) (by kernel_rfl) ?_
      refine EPL.p rfl rfl (q_move (v := .int _ _) rfl) ?_
      refine EPL.p rfl rfl (q_move (v := .int _ _) rfl) ?_
      refine EPL.p rfl rfl (q_lss rfl rfl) ?_
      refine EPL.p rfl rfl (q_move (v := .bool _) rfl) ?_
      refine EPL.bool 25 rfl (fun c5 => ?_) (fun c5 => ?_)
      ·
        have c5 := of_decide_eq_true c5
        refine EPL.pno rfl rfl ?_
        refine EPL.pno rfl rfl ?_
        refine EPL.pno rfl rfl ?_
        refine EPL.p rfl rfl (q_pickT (v := .bool _) rfl rfl) ?_
        refine EPL.nil ?_
        refine EL.go ?_
        refine EL.yes rfl ?_
        refine EL.seq ?_
        refine EL.region (.p 0 (.x 1 [] (.nil))) (by kernel_rfl) ?_
        refine EPL.p rfl rfl (q_move (v := .pointer _) rfl) ?_
        refine EPL.cl rfl rfl Tryz.func56 rfl rfl (Blind_spec g (getT (getT s bad 1).1 (getT s bad 1).2 4).1 (getT (getT s bad 1).1 (getT s bad 1).2 4).2) rfl ?_
        rintro _ _ ⟨rfl, rfl⟩
        refine ⟨HeldL.nil, ?_⟩
        refine EPL.nil ?_
        refine EL.go ?_
        refine EL.seq ?_
        refine EL.region (.p 0 (.nil)) (by kernel_rfl) ?_
        refine EPL.p rfl rfl (q_assign (v := .int _ _) rfl) ?_
        refine EPL.nil ?_
        refine EL.go ?_
        refine EL.ret ?_
        exact end_ret (fun _ => rfl) (fun _ => by unfold countR cnt2; rw [if_neg c1, if_pos c4, if_pos (by dsimp only; omega)]; exact ⟨rfl, rfl⟩)
      ·
        have c5 := of_decide_eq_false c5
        refine EPL.p rfl rfl (q_move (v := .int _ _) rfl) ?_
        refine EPL.p rfl rfl (q_move (v := .int _ _) rfl) ?_
        refine EPL.p rfl rfl (q_gtr rfl rfl) ?_
        refine EPL.p rfl rfl (q_pickF (v := .bool _) rfl rfl) ?_
        refine EPL.nil ?_
        refine EL.go ?_
        refine EL.cond rfl (fun c6 => ?_) (fun c6 => ?_)
        ·
          have c6 := of_decide_eq_true c6
          refine EL.seq ?_
          refine EL.region (.p 0 (.x 1 [] (.nil))) (by kernel_rfl) ?_
          refine EPL.p rfl rfl (q_move (v := .pointer _) rfl) ?_
          refine EPL.cl rfl rfl Tryz.func56 rfl rfl (Blind_spec g (getT (getT s bad 1).1 (getT s bad 1).2 4).1 (getT (getT s bad 1).1 (getT s bad 1).2 4).2) rfl ?_
          rintro _ _ ⟨rfl, rfl⟩
          refine ⟨HeldL.nil, ?_⟩
          refine EPL.nil ?_
          refine EL.go ?_
          refine EL.seq ?_
          refine EL.region (.p 0 (.nil)) (by kernel_rfl) ?_
          refine EPL.p rfl rfl (q_assign (v := .int _ _) rfl) ?_
          refine EPL.nil ?_
          refine EL.go ?_
          refine EL.ret ?_
          exact end_ret (fun _ => rfl) (fun _ => by unfold countR cnt2; rw [if_neg c1, if_pos c4, if_pos (by dsimp only; omega)]; exact ⟨rfl, rfl⟩)
        ·
          have c6 := of_decide_eq_false c6
          refine EL.skip ?_
          refine EL.go ?_
          refine EL.seq ?_
          refine EL.region (.p 0 (.p 1 (.nil))) (by kernel_rfl) ?_
          refine EPL.p rfl rfl (q_move (v := .int _ _) rfl) ?_
          refine EPL.p rfl rfl (q_assign (v := .int _ _) rfl) ?_
          refine EPL.nil ?_
          refine EL.go ?_
          refine EL.ret ?_
          exact end_ret (fun _ => rfl) (fun _ => by unfold countR cnt2; rw [if_neg c1, if_pos c4, if_neg (by dsimp only; omega)]; exact ⟨rfl, rfl⟩)
    ·
      have c4 := of_decide_eq_false c4
      refine EL.seq ?_
      refine EL.region (.p 0 (.p 1 (.nil))) (by kernel_rfl) ?_
      refine EPL.p rfl rfl (q_eql rfl rfl) ?_
      refine EPL.p rfl rfl (q_assign (v := .bool _) rfl) ?_
      refine EPL.nil ?_
      refine EL.go ?_
      refine EL.cond rfl (fun c7 => ?_) (fun c7 => ?_)
      ·
        have c7 := of_decide_eq_true c7
        refine EL.region (.p 0 (.x 1 [] (.p 2 (.p 3 (.nil))))) (by kernel_rfl) ?_
        refine EPL.p rfl rfl (q_move (v := .pointer _) rfl) ?_
        refine EPL.cl rfl rfl Tryz.func66 rfl rfl (Wide_spec g (getT s bad 1).1 (getT s bad 1).2) rfl ?_
        rintro _ _ ⟨rfl, rfl⟩
        refine ⟨HeldL.nil, ?_⟩
        refine EPL.p rfl rfl (q_assign (v := .int _ _) rfl) ?_
        refine EPL.p rfl rfl (q_assign (v := .int _ _) rfl) ?_
        refine EPL.nil ?_
        refine EL.go ?_
        refine EL.seq ?_
        refine EL.seq ?_
        refine EL.region (.p 0 (.p 1 (.p 2 (.p 3 (.p 4 (.p 5 (.p 6 (.p 7 (.nil))))))))) (by kernel_rfl) ?_
        refine EPL.p rfl rfl (q_move (v := .int _ _) rfl) ?_
        refine EPL.p rfl rfl (q_move (v := .int _ _) rfl) ?_
        refine EPL.p rfl rfl (q_lss rfl rfl) ?_
        refine EPL.p rfl rfl (q_move (v := .bool _) rfl) ?_
        refine EPL.bool 25 rfl (fun c8 => ?_) (fun c8 => ?_)
        ·
          have c8 := of_decide_eq_true c8
          refine EPL.pno rfl rfl ?_
          refine EPL.pno rfl rfl ?_
          refine EPL.pno rfl rfl ?_
          refine EPL.p rfl rfl (q_pickT (v := .bool _) rfl rfl) ?_
          refine EPL.nil ?_
          refine EL.go ?_
          refine EL.yes rfl ?_
          refine EL.seq ?_
          refine EL.region (.p 0 (.x 1 [] (.nil))) (by kernel_rfl) ?_
          refine EPL.p rfl rfl (q_move (v := .pointer _) rfl) ?_
          refine EPL.cl rfl rfl Tryz.func56 rfl rfl (Blind_spec g ((wideR (getT s bad 1).1 (getT s bad 1).2).2).1 ((wideR (getT s bad 1).1 (getT s bad 1).2).2).2) rfl ?_
          rintro _ _ ⟨rfl, rfl⟩
          refine ⟨HeldL.nil, ?_⟩
          refine EPL.nil ?_
          refine EL.go ?_
          refine EL.seq ?_
          refine EL.region (.p 0 (.nil)) (by kernel_rfl) ?_
          refine EPL.p rfl rfl (q_assign (v := .int _ _) rfl) ?_
          refine EPL.nil ?_
          refine EL.go ?_
          refine EL.ret ?_
          exact end_ret (fun _ => rfl) (fun _ => by unfold countR cnt2; rw [if_neg c1, if_neg c4, if_pos c7, if_pos (by dsimp only; omega)]; exact ⟨rfl, rfl⟩)
        ·
          have c8 := of_decide_eq_false c8
          refine EPL.p rfl rfl (q_move (v := .int _ _) rfl) ?_
          refine EPL.p rfl rfl (q_move (v := .int _ _) rfl) ?_
          refine EPL.p rfl rfl (q_gtr rfl rfl) ?_
          refine EPL.p rfl rfl (q_pickF (v := .bool _) rfl rfl) ?_
          refine EPL.nil ?_
          refine EL.go ?_
          refine EL.cond rfl (fun c9 => ?_) (fun c9 => ?_)
          ·
            have c9 := of_decide_eq_true c9
            refine EL.seq ?_
            refine EL.region (.p 0 (.x 1 [] (.nil))) (by kernel_rfl) ?_
            refine EPL.p rfl rfl (q_move (v := .pointer _) rfl) ?_
            refine EPL.cl rfl rfl Tryz.func56 rfl rfl (Blind_spec g ((wideR (getT s bad 1).1 (getT s bad 1).2).2).1 ((wideR (getT s bad 1).1 (getT s bad 1).2).2).2) rfl ?_
            rintro _ _ ⟨rfl, rfl⟩
            refine ⟨HeldL.nil, ?_⟩
            refine EPL.nil ?_
            refine EL.go ?_
            refine EL.seq ?_
            refine EL.region (.p 0 (.nil)) (by kernel_rfl) ?_
            refine EPL.p rfl rfl (q_assign (v := .int _ _) rfl) ?_
            refine EPL.nil ?_
            refine EL.go ?_
            refine EL.ret ?_
            exact end_ret (fun _ => rfl) (fun _ => by unfold countR cnt2; rw [if_neg c1, if_neg c4, if_pos c7, if_pos (by dsimp only; omega)]; exact ⟨rfl, rfl⟩)
          ·
            have c9 := of_decide_eq_false c9
            refine EL.skip ?_
            refine EL.go ?_
            refine EL.seq ?_
            refine EL.region (.p 0 (.p 1 (.nil))) (by kernel_rfl) ?_
            refine EPL.p rfl rfl (q_move (v := .int _ _) rfl) ?_
            refine EPL.p rfl rfl (q_assign (v := .int _ _) rfl) ?_
            refine EPL.nil ?_
            refine EL.go ?_
            refine EL.ret ?_
            exact end_ret (fun _ => rfl) (fun _ => by unfold countR cnt2; rw [if_neg c1, if_neg c4, if_pos c7, if_neg (by dsimp only; omega)]; exact ⟨rfl, rfl⟩)
      ·
        have c7 := of_decide_eq_false c7
        refine EL.skip ?_
        refine EL.go ?_
        refine EL.seq ?_
        refine EL.seq ?_
        refine EL.region (.p 0 (.p 1 (.p 2 (.p 3 (.p 4 (.p 5 (.p 6 (.p 7 (.nil))))))))) (by kernel_rfl) ?_
        refine EPL.p rfl rfl (q_move (v := .int _ _) rfl) ?_
        refine EPL.p rfl rfl (q_move (v := .int _ _) rfl) ?_
        refine EPL.p rfl rfl (q_lss rfl rfl) ?_
        refine EPL.p rfl rfl (q_move (v := .bool _) rfl) ?_
        refine EPL.bool 25 rfl (fun c10 => ?_) (fun c10 => ?_)
        ·
          have c10 := of_decide_eq_true c10
          refine EPL.pno rfl rfl ?_
          refine EPL.pno rfl rfl ?_
          refine EPL.pno rfl rfl ?_
          refine EPL.p rfl rfl (q_pickT (v := .bool _) rfl rfl) ?_
          refine EPL.nil ?_
          refine EL.go ?_
          refine EL.yes rfl ?_
          refine EL.seq ?_
          refine EL.region (.p 0 (.x 1 [] (.nil))) (by kernel_rfl) ?_
          refine EPL.p rfl rfl (q_move (v := .pointer _) rfl) ?_
          refine EPL.cl rfl rfl Tryz.func56 rfl rfl (Blind_spec g (getT s bad 1).1 (getT s bad 1).2) rfl ?_
          rintro _ _ ⟨rfl, rfl⟩
          refine ⟨HeldL.nil, ?_⟩
          refine EPL.nil ?_
          refine EL.go ?_
          refine EL.seq ?_
          refine EL.region (.p 0 (.nil)) (by kernel_rfl) ?_
          refine EPL.p rfl rfl (q_assign (v := .int _ _) rfl) ?_
          refine EPL.nil ?_
          refine EL.go ?_
          refine EL.ret ?_
          exact end_ret (fun _ => rfl) (fun _ => by unfold countR cnt2; rw [if_neg c1, if_neg c4, if_neg c7, if_pos (by dsimp only; omega)]; exact ⟨rfl, rfl⟩)
        ·
          have c10 := of_decide_eq_false c10
          refine EPL.p rfl rfl (q_move (v := .int _ _) rfl) ?_
          refine EPL.p rfl rfl (q_move (v := .int _ _) rfl) ?_
          refine EPL.p rfl rfl (q_gtr rfl rfl) ?_
          refine EPL.p rfl rfl (q_pickF (v := .bool _) rfl rfl) ?_
          refine EPL.nil ?_
          refine EL.go ?_
          refine EL.cond rfl (fun c11 => ?_) (fun c11 => ?_)
          ·
            have c11 := of_decide_eq_true c11
            refine EL.seq ?_
            refine EL.region (.p 0 (.x 1 [] (.nil))) (by kernel_rfl) ?_
            refine EPL.p rfl rfl (q_move (v := .pointer _) rfl) ?_
            refine EPL.cl rfl rfl Tryz.func56 rfl rfl (Blind_spec g (getT s bad 1).1 (getT s bad 1).2) rfl ?_
            rintro _ _ ⟨rfl, rfl⟩
            refine ⟨HeldL.nil, ?_⟩
            refine EPL.nil ?_
            refine EL.go ?_
            refine EL.seq ?_
            refine EL.region (.p 0 (.nil)) (by kernel_rfl) ?_
            refine EPL.p rfl rfl (q_assign (v := .int _ _) rfl) ?_
            refine EPL.nil ?_
            refine EL.go ?_
            refine EL.ret ?_
            exact end_ret (fun _ => rfl) (fun _ => by unfold countR cnt2; rw [if_neg c1, if_neg c4, if_neg c7, if_pos (by dsimp only; omega)]; exact ⟨rfl, rfl⟩)
          ·
            have c11 := of_decide_eq_false c11
            refine EL.skip ?_
            refine EL.go ?_
            refine EL.seq ?_
            refine EL.region (.p 0 (.p 1 (.nil))) (by kernel_rfl) ?_
            refine EPL.p rfl rfl (q_move (v := .int _ _) rfl) ?_
            refine EPL.p rfl rfl (q_assign (v := .int _ _) rfl) ?_
            refine EPL.nil ?_
            refine EL.go ?_
            refine EL.ret ?_
            exact end_ret (fun _ => rfl) (fun _ => by unfold countR cnt2; rw [if_neg c1, if_neg c4, if_neg c7, if_neg (by dsimp only; omega)]; exact ⟨rfl, rfl⟩)

end Go.Proofs.YtedkoebbijpnfaaGreatDoor

namespace Go.Proofs.YtedkoebbijpnfaaGreatDoor
open Go Go.Proofs.YtedkoebbijpnfaaGreatDoor.TH
set_option maxHeartbeats 1000000


theorem wide_put (n : Int) (more : List UInt8) (h : -9223372036854775808 ≤ n ∧ n < 9223372036854775808) : wideR ([] ++ leB (putK 8) n ++ more) false = if n < 0 then (0, [], true) else (n, more, false) := by
  have hk : putK 8 = 8 := by decide
  have hr : rawR ([] ++ leB (putK 8) n ++ more) false 8 = (leB 8 n, more, false) := by
    unfold rawR
    have hl : (leB 8 n).length = 8 := leB_length 8 n
    rw [hk, List.nil_append, if_pos (by simp [hl]; omega)]
    have e : (8 : Int).toNat = (leB 8 n).length := by rw [hl]; rfl
    rw [e, List.take_left, List.drop_left]
  unfold wideR
  rw [hr]
  dsimp only
  have hn := leN_leB n 8
  have e2 : (2 : Int) ^ (8 * 8) = 18446744073709551616 := by decide
  rw [e2] at hn
  generalize leN (leB 8 n) = z at hn
  by_cases h0 : n < 0
  · have h1 : 9223372036854775808 ≤ z := by omega
    simp only [h0, h1, if_true]
  · have h1 : ¬ 9223372036854775808 ≤ z := by omega
    have h2 : (z : Int) = n := by omega
    simp only [h0, h1, if_false, h2]


end Go.Proofs.YtedkoebbijpnfaaGreatDoor

namespace Go.Proofs.YtedkoebbijpnfaaGreatDoor
open Go Go.Proofs.YtedkoebbijpnfaaGreatDoor.TH
set_option maxHeartbeats 1000000

theorem Number_spec (size n : Int) : CallL Tryz.prog 24 [.int .i64 size, .int .i64 n] [] (fun r Hs' => r = str (leB (putK size) n) ∧ Hs' = []) := by
  refine CallL.enter Tryz.func24 Tryz.ntmps24 rfl rfl rfl ?_
  refine EL.seq ?_
  refine EL.region (.p 0 (.nil)) (by kernel_rfl) ?_
  refine EPL.p rfl rfl (q_assign (v := .string _) rfl) ?_
  refine EPL.nil ?_
  refine EL.go ?_
  refine EL.seq ?_
  refine EL.region (.p 0 (.p 1 (.p 2 (.nil)))) (by kernel_rfl) ?_
  refine EPL.p rfl rfl (q_move (v := .int _ _) rfl) ?_
  refine EPL.p rfl rfl (q_conv Tryz.underlying3 Tryz.underlying85 rfl) ?_
  refine EPL.p rfl rfl (q_assign (v := .int _ _) rfl) ?_
  refine EPL.nil ?_
  refine EL.go ?_
  refine EL.seq ?_
  refine EL.region (.p 0 (.nil)) (by kernel_rfl) ?_
  refine EPL.p rfl rfl (q_assign (v := .string _) rfl) ?_
  refine EPL.nil ?_
  refine EL.go ?_
  refine EL.seq ?_
  refine EL.seq ?_
  refine EL.region (.p 0 (.nil)) (by kernel_rfl) ?_
  refine EPL.p rfl rfl (q_assign (v := .int _ _) rfl) ?_
  refine EPL.nil ?_
  refine EL.go ?_
  refine EL.block ?_
  have hK := putK_eq size
  have hK8 := putK_le size
  refine EL.loop [5, 6, 7, 10, 11, 12, 13, 14, 15, 16, 17, 18, 19, 20, 21, 22, 23, 24, 25] (fun i : Nat => [(5, .int .u64 (restU n i)), (6, str (leB i n)), (7, .int .i64 i)]) (fun m i Hs' => m + i = putK size ∧ Hs' = []) (putK size) 0 ⟨rfl, rfl⟩ ⟨congrArg (Value.int .u64) (restU_0 n).symm, rfl, rfl, trivial⟩ ?_
  rintro m i _ j ⟨hm, rfl⟩
  refine EL.seq ?_
  refine EL.seq ?_
  refine EL.region (.p 0 (.p 1 (.p 2 (.p 3 (.p 4 (.nil)))))) (by kernel_rfl) ?_
  refine EPL.p rfl rfl (q_move (v := .int _ _) rfl) ?_
  refine EPL.p rfl rfl (q_move (v := .int _ _) rfl) ?_
  refine EPL.p rfl rfl (q_max rfl rfl) ?_
  refine EPL.p rfl rfl (q_min rfl rfl) ?_
  refine EPL.p rfl rfl (q_lss rfl rfl) ?_
  refine EPL.nil ?_
  refine EL.go ?_
  refine EL.cond rfl (fun c1 => ?_) (fun c1 => ?_)
  ·
    have c1 := of_decide_eq_true c1
    refine EL.skip ?_
    refine EL.go ?_
    refine EL.seq ?_
    refine EL.block ?_
    refine EL.seq ?_
    refine EL.region (.p 0 (.p 1 (.p 2 (.p 3 (.x 4 [] (.l 5 (.p 6 (.p 7 (.nil))))))))) (by kernel_rfl) ?_
    refine EPL.p rfl rfl (q_move (v := .string _) rfl) ?_
    refine EPL.p rfl rfl (q_move (v := .int _ _) rfl) ?_
    refine EPL.p rfl rfl (q_rem rfl rfl (by first | decide | omega)) ?_
    refine EPL.p rfl rfl (q_conv Tryz.underlying85 Tryz.underlying5 rfl) ?_
    refine EPL.bs rfl rfl Tryz.underlying71 el5 rfl rfl (fill1 (u := .int _ _) rfl rfl) (fun _ => HeldL.nil) (fun b2 => ?_)
    refine EPL.btsP (l := [byteAt n i]) rfl rfl Tryz.underlying71 Tryz.underlying5 Tryz.underlying9 rfl rfl ⟨Nat.le_refl _, Nat.le_refl _⟩ (by unfold maxLen; decide) (congrArg (fun z => [Value.int .u8 z]) (restU_byte n (by omega))) okF.z ?_
    refine EPL.p rfl rfl (q_strcat rfl rfl (by rw [leB_length]; simp; omega)) ?_
    refine EPL.p rfl rfl (q_assign (v := .string _) rfl) ?_
    refine EPL.nil ?_
    refine EL.go ?_
    refine EL.region (.p 0 (.p 1 (.p 2 (.nil)))) (by kernel_rfl) ?_
    refine EPL.p rfl rfl (q_move (v := .int _ _) rfl) ?_
    refine EPL.p rfl rfl (q_quo rfl rfl (by first | decide | omega)) ?_
    refine EPL.p rfl rfl (q_assign (v := .int _ _) rfl) ?_
    refine EPL.nil ?_
    refine EL.go ?_
    refine EL.region (.p 0 (.p 1 (.p 2 (.nil)))) (by kernel_rfl) ?_
    refine EPL.p rfl rfl (q_move (v := .int _ _) rfl) ?_
    refine EPL.p rfl rfl (q_add rfl rfl) ?_
    refine EPL.p rfl rfl (q_assign (v := .int _ _) rfl) ?_
    refine EPL.nil ?_
    refine RoundQ.mkP (m - 1) (i + 1) [] (by omega) ⟨by omega, rfl⟩ (by repeat first | refine Off.upd rfl ?_ | exact Off.mix | refine Off.upds rfl ?_ | refine Off.mixs rfl ?_ | exact Off.refl) ⟨congrArg (Value.int .u64) (restU_succ n i), congrArg (fun l => str l) (leB_succ i n).symm, congrArg (Value.int .i64) (wrap_i64_in (by omega)), trivial⟩
  ·
    have c1 := of_decide_eq_false c1
    obtain rfl : i = putK size := by omega
    refine EL.exit ?_
    refine EL.go ?_
    refine EL.seq ?_
    refine EL.region (.p 0 (.p 1 (.nil))) (by kernel_rfl) ?_
    refine EPL.p rfl rfl (q_move (v := .string _) rfl) ?_
    refine EPL.p rfl rfl (q_assign (v := .string _) rfl) ?_
    refine EPL.nil ?_
    refine EL.go ?_
    refine EL.ret ?_
    exact end_ret (fun _ => rfl) (fun _ => ⟨rfl, rfl⟩)


def refCnt (n : Int) : List UInt8 := if n < 0 then [0] else if n < 253 then leB (putK 1) n else if n < 65536 then [253] ++ leB (putK 2) n else if n < 4294967296 then [254] ++ leB (putK 4) n else [255] ++ leB (putK 8) n

theorem RCount_spec (n : Int) : CallL Tryz.prog 25 [.int .i64 n] [] (fun r Hs' => r = str (refCnt n) ∧ Hs' = []) := by
  refine CallL.enter Tryz.func25 Tryz.ntmps25 rfl rfl rfl ?_
  refine EL.seq ?_
  refine EL.region (.p 0 (.nil)) (by kernel_rfl) ?_
  refine EPL.p rfl rfl (q_assign (v := .string _) rfl) ?_
  refine EPL.nil ?_
  refine EL.go ?_
  refine EL.seq ?_
  refine EL.seq ?_
  refine EL.region (.p 0 (.p 1 (.nil))) (by kernel_rfl) ?_
  refine EPL.p rfl rfl (q_move (v := .int _ _) rfl) ?_
  refine EPL.p rfl rfl (q_lss rfl rfl) ?_
  refine EPL.nil ?_
  refine EL.go ?_
  refine EL.cond rfl (fun c1 => ?_) (fun c1 => ?_)
  ·
    have c1 := of_decide_eq_true c1
    refine EL.seq ?_
    refine EL.region (.p 0 (.nil)) (by kernel_rfl) ?_
    refine EPL.p rfl rfl (q_assign (v := .string _) rfl) ?_
    refine EPL.nil ?_
    refine EL.go ?_
    refine EL.ret ?_
    exact end_ret (fun _ => rfl) (fun _ => ⟨by unfold refCnt; rw [if_pos c1]; rfl, rfl⟩)
  ·
    have c1 := of_decide_eq_false c1
    refine EL.skip ?_
    refine EL.go ?_
    refine EL.seq ?_
    refine EL.seq ?_
    refine EL.region (.p 0 (.p 1 (.nil))) (by kernel_rfl) ?_
    refine EPL.p rfl rfl (q_move (v := .int _ _) rfl) ?_
    refine EPL.p rfl rfl (q_lss rfl rfl) ?_
    refine EPL.nil ?_
    refine EL.go ?_
    refine EL.cond rfl (fun c2 => ?_) (fun c2 => ?_)
    ·
      have c2 := of_decide_eq_true c2
      refine EL.seq ?_
      refine EL.region (.p 0 (.x 1 [] (.p 2 (.nil)))) (by kernel_rfl) ?_
      refine EPL.p rfl rfl (q_move (v := .int _ _) rfl) ?_
      refine EPL.cl rfl rfl Tryz.func24 rfl rfl (Number_spec 1 n) rfl ?_
      rintro _ _ ⟨rfl, rfl⟩
      refine ⟨HeldL.nil, ?_⟩
      refine EPL.p rfl rfl (q_assign (v := .string _) rfl) ?_
      refine EPL.nil ?_
      refine EL.go ?_
      refine EL.ret ?_
      exact end_ret (fun _ => rfl) (fun _ => ⟨by unfold refCnt; rw [if_neg c1, if_pos c2]; rfl, rfl⟩)
    ·
      have c2 := of_decide_eq_false c2
      refine EL.skip ?_
      refine EL.go ?_
      refine EL.seq ?_
      refine EL.seq ?_
      refine EL.region (.p 0 (.p 1 (.nil))) (by kernel_rfl) ?_
      refine EPL.p rfl rfl (q_move (v := .int _ _) rfl) ?_
      refine EPL.p rfl rfl (q_lss rfl rfl) ?_
      refine EPL.nil ?_
      refine EL.go ?_
      refine EL.cond rfl (fun c3 => ?_) (fun c3 => ?_)
      ·
        have c3 := of_decide_eq_true c3
        refine EL.seq ?_
        refine EL.region (.p 0 (.x 1 [] (.p 2 (.p 3 (.nil))))) (by kernel_rfl) ?_
        refine EPL.p rfl rfl (q_move (v := .int _ _) rfl) ?_
        refine EPL.cl rfl rfl Tryz.func24 rfl rfl (Number_spec 2 n) rfl ?_
        rintro _ _ ⟨rfl, rfl⟩
        refine ⟨HeldL.nil, ?_⟩
        refine EPL.p rfl rfl (q_strcat rfl rfl (by rw [leB_length]; decide)) ?_
        refine EPL.p rfl rfl (q_assign (v := .string _) rfl) ?_
        refine EPL.nil ?_
        refine EL.go ?_
        refine EL.ret ?_
        exact end_ret (fun _ => rfl) (fun _ => ⟨by unfold refCnt; rw [if_neg c1, if_neg c2, if_pos c3]; rfl, rfl⟩)
      ·
        have c3 := of_decide_eq_false c3
        refine EL.skip ?_
        refine EL.go ?_
        refine EL.seq ?_
        refine EL.seq ?_
        refine EL.region (.p 0 (.p 1 (.nil))) (by kernel_rfl) ?_
        refine EPL.p rfl rfl (q_move (v := .int _ _) rfl) ?_
        refine EPL.p rfl rfl (q_lss rfl rfl) ?_
        refine EPL.nil ?_
        refine EL.go ?_
        refine EL.cond rfl (fun c4 => ?_) (fun c4 => ?_)
        ·
          have c4 := of_decide_eq_true c4
          refine EL.seq ?_
          refine EL.region (.p 0 (.x 1 [] (.p 2 (.p 3 (.nil))))) (by kernel_rfl) ?_
          refine EPL.p rfl rfl (q_move (v := .int _ _) rfl) ?_
          refine EPL.cl rfl rfl Tryz.func24 rfl rfl (Number_spec 4 n) rfl ?_
          rintro _ _ ⟨rfl, rfl⟩
          refine ⟨HeldL.nil, ?_⟩
          refine EPL.p rfl rfl (q_strcat rfl rfl (by rw [leB_length]; decide)) ?_
          refine EPL.p rfl rfl (q_assign (v := .string _) rfl) ?_
          refine EPL.nil ?_
          refine EL.go ?_
          refine EL.ret ?_
          exact end_ret (fun _ => rfl) (fun _ => ⟨by unfold refCnt; rw [if_neg c1, if_neg c2, if_neg c3, if_pos c4]; rfl, rfl⟩)
        ·
          have c4 := of_decide_eq_false c4
          refine EL.skip ?_
          refine EL.go ?_
          refine EL.seq ?_
          refine EL.region (.p 0 (.x 1 [] (.p 2 (.p 3 (.nil))))) (by kernel_rfl) ?_
          refine EPL.p rfl rfl (q_move (v := .int _ _) rfl) ?_
          refine EPL.cl rfl rfl Tryz.func24 rfl rfl (Number_spec 8 n) rfl ?_
          rintro _ _ ⟨rfl, rfl⟩
          refine ⟨HeldL.nil, ?_⟩
          refine EPL.p rfl rfl (q_strcat rfl rfl (by rw [leB_length]; decide)) ?_
          refine EPL.p rfl rfl (q_assign (v := .string _) rfl) ?_
          refine EPL.nil ?_
          refine EL.go ?_
          refine EL.ret ?_
          exact end_ret (fun _ => rfl) (fun _ => ⟨by unfold refCnt; rw [if_neg c1, if_neg c2, if_neg c3, if_neg c4]; rfl, rfl⟩)

end Go.Proofs.YtedkoebbijpnfaaGreatDoor

namespace Go.Proofs.YtedkoebbijpnfaaGreatDoor
open Go Go.Proofs.YtedkoebbijpnfaaGreatDoor.TH
set_option maxHeartbeats 1000000

def cSize (b : UInt8) : Nat := if b = 253 then 2 else if b = 254 then 4 else if b = 255 then 8 else 0
/-- What the document answers of a count with which bytes begin: so many bytes are its. -/
def cntTry (s : List UInt8) (most : Int) (n : Int) (k : Nat) : Int × Int := if most < n then (0, 0) else if refCnt n ≠ s.take k then (0, 0) else (n, k)
def countedR (s : List UInt8) (most : Int) : Int × Int := match s with
  | [] => (0, 0)
  | b :: t =>
    if cSize b = 0 then cntTry s most b.toNat 1
    else if s.length < 1 + cSize b then (0, 0)
    else if 9223372036854775808 ≤ leN (t.take (cSize b)) then (0, 0)
    else cntTry s most (leN (t.take (cSize b))) (1 + cSize b)
theorem refCnt_len (n : Int) : (refCnt n).length ≤ 20 := by
  unfold refCnt
  have := putK_le 1; have := putK_le 2; have := putK_le 4; have := putK_le 8
  repeat' split
  all_goals simp [leB_length] <;> omega
theorem u8_eq {b : UInt8} {k : Nat} (hk : k < 256) : ((b.toNat : Int) = (k : Nat)) ↔ b = UInt8.ofNat k := by
  constructor
  · intro h
    have h2 : b.toNat = k := by omega
    rw [← h2]; exact (UInt8.ofNat_toNat).symm
  · intro h; subst h; rw [UInt8.toNat_ofNat', Nat.mod_eq_of_lt hk]
theorem cSize_le (b : UInt8) : cSize b ≤ 8 := by unfold cSize; repeat' split
                                                 all_goals omega


theorem cut_eq (b : UInt8) (t : List UInt8) {k : Nat} (hk : k ≤ 8) : ((b :: t).take (IntKind.i64.wrap (1 + (k : Int))).toNat).drop (1 : Int).toNat = t.take k := by
  rw [wrap_i64_in (by omega)]
  have e : (1 + (k : Int)).toNat = k + 1 := by omega
  rw [e]; rfl
theorem take_eq (b : UInt8) (t : List UInt8) {k : Nat} (hk : k ≤ 8) : (b :: t).take (IntKind.i64.wrap (1 + (k : Int))).toNat = (b :: t).take (1 + k) := by
  rw [wrap_i64_in (by omega)]
  have e : (1 + (k : Int)).toNat = 1 + k := by omega
  rw [e]


end Go.Proofs.YtedkoebbijpnfaaGreatDoor

/- The plain law of counts: what an eye reads is what the document says. -/
namespace Go.Proofs.YtedkoebbijpnfaaGreatDoor
open Go Go.Proofs.YtedkoebbijpnfaaGreatDoor.TH

theorem byteAt_leN {l : List UInt8} {i : Nat} {x : UInt8} (h : l[i]? = some x) : byteAt (leN l) i = x := by
  obtain ⟨hi, hx⟩ := List.getElem?_eq_some_iff.1 h
  have e1 : leN l = leN (l.take i) + 256 ^ i * leN (l.drop i) := by
    have := leN_append (l.take i) (l.drop i)
    rw [List.take_append_drop, List.length_take, Nat.min_eq_left (by omega)] at this
    exact this
  have e2 := leN_drop h
  have h1 := leN_take_lt l i
  have hx8 := x.toNat_lt
  have e3 : leN l / 256 ^ i % 256 = x.toNat := by
    rw [e1, Nat.add_mul_div_left _ _ (Nat.pow_pos (by decide)), Nat.div_eq_of_lt h1, e2]
    omega
  unfold byteAt
  have e4 : ((leN l : Int) / 2 ^ (8 * i)) % 256 = ((leN l / 256 ^ i % 256 : Nat) : Int) := by
    rw [Int.natCast_emod, Int.natCast_ediv, pow256, Int.natCast_pow]; rfl
  rw [e4, e3]
  simp

theorem leB_leN (l : List UInt8) : leB l.length (leN l) = l := by
  apply List.ext_getElem?
  intro i
  unfold leB
  by_cases hi : i < l.length
  · have h : l[i]? = some l[i] := List.getElem?_eq_getElem hi
    simp only [List.getElem?_map, List.getElem?_range hi, Option.map_some]
    rw [byteAt_leN h, h]
  · rw [List.getElem?_eq_none (by simp; omega), List.getElem?_eq_none (by omega)]

theorem putK1 : putK 1 = 1 := by decide
theorem putK2 : putK 2 = 2 := by decide
theorem putK4 : putK 4 = 4 := by decide
theorem putK8 : putK 8 = 8 := by decide
theorem leN_one (b : UInt8) : leN [b] = b.toNat := by simp [leN]
theorem leB_one (b : UInt8) : leB (putK 1) b.toNat = [b] := by
  have := leB_leN [b]
  rw [leN_one] at this
  exact this

theorem rawR_ok {s : List UInt8} {n : Nat} (h : n ≤ s.length) : rawR s false n = (s.take n, s.drop n, false) := by
  unfold rawR
  rw [if_pos (by simp; omega)]; simp
theorem rawR_no {s : List UInt8} {n : Nat} (h : s.length < n) : rawR s false n = ([], [], true) := by
  unfold rawR
  rw [if_neg (by simp; omega)]
theorem rawR_bad {s : List UInt8} {n : Int} : rawR s true n = ([], [], true) := by
  unfold rawR
  rw [if_neg (by simp)]

theorem g1 : min (max 1 1) 7 = ((1 : Nat) : Int) := by decide
theorem g2 : min (max 2 1) 7 = ((2 : Nat) : Int) := by decide
theorem g4 : min (max 4 1) 7 = ((4 : Nat) : Int) := by decide
theorem get1 (b : UInt8) (t : List UInt8) : getR (b :: t) false 1 = b.toNat ∧ getT (b :: t) false 1 = (t, false) := by
  unfold getR getT
  rw [g1, rawR_ok (by simp)]
  simp [leN_one]
theorem get1_nil : getR [] false 1 = 0 ∧ getT [] false 1 = ([], true) := by
  unfold getR getT
  rw [g1, rawR_no (by simp)]
  simp [leN]
theorem get_ok {t : List UInt8} {k : Nat} {z : Int} (hz : min (max z 1) 7 = (k : Int)) (h : k ≤ t.length) : getR t false z = leN (t.take k) ∧ getT t false z = (t.drop k, false) := by
  unfold getR getT
  rw [hz, rawR_ok h]; exact ⟨rfl, rfl⟩
theorem get_no {t : List UInt8} {k : Nat} {z : Int} (hz : min (max z 1) 7 = (k : Int)) (h : t.length < k) : getR t false z = 0 ∧ getT t false z = ([], true) := by
  unfold getR getT
  rw [hz, rawR_no h]; simp [leN]
theorem wide_ok {t : List UInt8} (h : 8 ≤ t.length) (h2 : leN (t.take 8) < 9223372036854775808) : wideR t false = (((leN (t.take 8) : Nat) : Int), t.drop 8, false) := by
  unfold wideR
  have : rawR t false 8 = (t.take 8, t.drop 8, false) := rawR_ok (n := 8) h
  rw [this]; dsimp only; rw [if_neg (by omega)]
theorem wide_no {t : List UInt8} (h : t.length < 8 ∨ 9223372036854775808 ≤ leN (t.take 8)) : (wideR t false).1 = 0 := by
  unfold wideR
  by_cases h8 : t.length < 8
  · have : rawR t false 8 = ([], [], true) := rawR_no (n := 8) h8
    rw [this]; dsimp only; rw [if_neg (by simp [leN])]; simp [leN]
  · have : rawR t false 8 = (t.take 8, t.drop 8, false) := rawR_ok (n := 8) (by omega)
    rw [this]; dsimp only; rw [if_pos (by omega)]

theorem b253 {b : UInt8} : (b.toNat : Int) = 253 ↔ b = 253 := u8_eq (k := 253) (by decide)
theorem b254 {b : UInt8} : (b.toNat : Int) = 254 ↔ b = 254 := u8_eq (k := 254) (by decide)
theorem b255 {b : UInt8} : (b.toNat : Int) = 255 ↔ b = 255 := u8_eq (k := 255) (by decide)

theorem countR_nil (most : Int) : countR [] false most = (0, [], true) := by
  have e : cnt2 [] false = (0, 0, [], true) := by
    unfold cnt2
    rw [get1_nil.1, get1_nil.2]; rfl
  unfold countR
  rw [e]
  dsimp only
  split <;> rfl
/-- A count of one byte. -/
theorem countR_low {b : UInt8} {t : List UInt8} {most : Int} (h : cSize b = 0) : countR (b :: t) false most = if most < b.toNat then (0, [], true) else ((b.toNat : Int), t, false) := by
  have hb : b ≠ 253 ∧ b ≠ 254 ∧ b ≠ 255 := by
    unfold cSize at h
    refine ⟨?_, ?_, ?_⟩ <;> (intro e; subst e; simp at h)
  have e : cnt2 (b :: t) false = ((b.toNat : Int), 0, t, false) := by
    unfold cnt2
    rw [(get1 b t).1, (get1 b t).2, if_neg (fun e => hb.1 (b253.1 e)), if_neg (fun e => hb.2.1 (b254.1 e)), if_neg (fun e => hb.2.2 (b255.1 e))]
  unfold countR
  rw [e]
  dsimp only
  by_cases hm : most < b.toNat
  · rw [if_pos hm, if_pos (.inr hm)]
  · rw [if_neg hm, if_neg (by omega)]
def cLeast (b : UInt8) : Int := if b = 253 then 253 else if b = 254 then 65536 else 4294967296
/-- A count of more bytes, that stands there. -/
theorem countR_high {b : UInt8} {t : List UInt8} {most : Int} (h : cSize b ≠ 0) (hl : cSize b ≤ t.length) (h2 : leN (t.take (cSize b)) < 9223372036854775808) :
    countR (b :: t) false most = if ((leN (t.take (cSize b)) : Nat) : Int) < cLeast b ∨ most < (leN (t.take (cSize b)) : Nat) then (0, [], true) else (((leN (t.take (cSize b)) : Nat) : Int), t.drop (cSize b), false) := by
  have e : cnt2 (b :: t) false = (((leN (t.take (cSize b)) : Nat) : Int), cLeast b, t.drop (cSize b), false) := by
    unfold cnt2
    rw [(get1 b t).1, (get1 b t).2]
    by_cases h3 : b = 253
    · subst h3
      have hk : cSize 253 = 2 := rfl
      rw [hk] at hl
      rw [if_pos (b253.2 rfl), (get_ok g2 hl).1, (get_ok g2 hl).2]; rfl
    · by_cases h4 : b = 254
      · subst h4
        have hk : cSize 254 = 4 := rfl
        rw [hk] at hl
        rw [if_neg (fun e => absurd (b253.1 e) (by decide)), if_pos (b254.2 rfl), (get_ok g4 hl).1, (get_ok g4 hl).2]; rfl
      · by_cases h5 : b = 255
        · subst h5
          have hk : cSize 255 = 8 := rfl
          rw [hk] at hl h2
          rw [if_neg (fun e => absurd (b253.1 e) (by decide)), if_neg (fun e => absurd (b254.1 e) (by decide)), if_pos (b255.2 rfl), wide_ok hl h2]; rfl
        · exact absurd (by unfold cSize; rw [if_neg h3, if_neg h4, if_neg h5]) h
  unfold countR
  rw [e]
theorem cLeast_pos (b : UInt8) : 0 < cLeast b := by unfold cLeast; repeat' split
                                                    all_goals decide
/-- A count that doesn't stand there. -/
theorem countR_none {b : UInt8} {t : List UInt8} {most : Int} (h : cSize b ≠ 0) (hl : t.length < cSize b ∨ 9223372036854775808 ≤ leN (t.take (cSize b))) : countR (b :: t) false most = (0, [], true) := by
  have e : (cnt2 (b :: t) false).1 < (cnt2 (b :: t) false).2.1 := by
    unfold cnt2
    rw [(get1 b t).1, (get1 b t).2]
    by_cases h3 : b = 253
    · subst h3
      have hk : cSize 253 = 2 := rfl
      rw [hk] at hl
      have h4 := leN_take_lt t 2
      have h5 : (256 : Nat) ^ 2 = 65536 := by decide
      rw [if_pos (b253.2 rfl)]; dsimp only; rw [(get_no g2 (by omega)).1]; decide
    · by_cases h4 : b = 254
      · subst h4
        have hk : cSize 254 = 4 := rfl
        rw [hk] at hl
        have h6 := leN_take_lt t 4
        have h5 : (256 : Nat) ^ 4 = 4294967296 := by decide
        rw [if_neg (fun e => absurd (b253.1 e) (by decide)), if_pos (b254.2 rfl)]; dsimp only; rw [(get_no g4 (by omega)).1]; decide
      · by_cases h5 : b = 255
        · subst h5
          have hk : cSize 255 = 8 := rfl
          rw [hk] at hl
          rw [if_neg (fun e => absurd (b253.1 e) (by decide)), if_neg (fun e => absurd (b254.1 e) (by decide)), if_pos (b255.2 rfl)]; dsimp only; rw [wide_no hl]; decide
        · exact absurd (by unfold cSize; rw [if_neg h3, if_neg h4, if_neg h5]) h
  unfold countR
  rw [if_pos (.inl e)]

/-- The shortest bytes that tell a number. -/
theorem refCnt_iff {b : UInt8} {t : List UInt8} (h : cSize b ≠ 0) (hl : cSize b ≤ t.length) : refCnt (leN (t.take (cSize b))) = (b :: t).take (1 + cSize b) ↔ cLeast b ≤ (leN (t.take (cSize b)) : Nat) := by
  have hlen : (t.take (cSize b)).length = cSize b := by simp; omega
  have hlt := leN_lt (t.take (cSize b))
  have hback := leB_leN (t.take (cSize b))
  rw [hlen] at hlt hback
  have ht : (b :: t).take (1 + cSize b) = b :: t.take (cSize b) := by rw [Nat.add_comm]; rfl
  rw [ht]
  have hl3 : (b :: t.take (cSize b)).length = 1 + cSize b := by rw [List.length_cons, hlen]; omega
  generalize hw : t.take (cSize b) = w at *
  generalize hn : leN w = n at *
  have h0 : ¬ ((n : Int) < 0) := by omega
  unfold refCnt
  rw [if_neg h0]
  by_cases h3 : b = 253
  · subst h3
    have hk : cSize 253 = 2 := rfl
    have hc : cLeast 253 = 253 := rfl
    rw [hk] at hlt hback hl3
    have h5 : (256 : Nat) ^ 2 = 65536 := by decide
    rw [hc]
    by_cases h6 : (n : Int) < 253
    · rw [if_pos h6]
      refine ⟨fun e => ?_, fun e => by omega⟩
      have := congrArg List.length e
      rw [leB_length, hl3, putK1] at this
      omega
    · rw [if_neg h6, if_pos (by omega), putK2, hback]
      exact ⟨fun _ => by omega, fun _ => rfl⟩
  · by_cases h4 : b = 254
    · subst h4
      have hk : cSize 254 = 4 := rfl
      have hc : cLeast 254 = 65536 := rfl
      rw [hk] at hlt hback hl3
      have h5 : (256 : Nat) ^ 4 = 4294967296 := by decide
      rw [hc]
      by_cases h6 : (n : Int) < 65536
      · refine ⟨fun e => ?_, fun e => by omega⟩
        have := congrArg List.length e
        rw [hl3] at this
        by_cases h7 : (n : Int) < 253
        · rw [if_pos h7, leB_length, putK1] at this; omega
        · rw [if_neg h7, if_pos h6, List.length_append, leB_length, putK2] at this
          simp at this
      · rw [if_neg (by omega), if_neg h6, if_pos (by omega), putK4, hback]
        exact ⟨fun _ => by omega, fun _ => rfl⟩
    · by_cases h5 : b = 255
      · subst h5
        have hk : cSize 255 = 8 := rfl
        have hc : cLeast 255 = 4294967296 := rfl
        rw [hk] at hlt hback hl3
        rw [hc]
        by_cases h6 : (n : Int) < 4294967296
        · refine ⟨fun e => ?_, fun e => by omega⟩
          have := congrArg List.length e
          rw [hl3] at this
          by_cases h7 : (n : Int) < 253
          · rw [if_pos h7, leB_length, putK1] at this; omega
          · by_cases h8 : (n : Int) < 65536
            · rw [if_neg h7, if_pos h8, List.length_append, leB_length, putK2] at this
              simp at this
            · rw [if_neg h7, if_neg h8, if_pos h6, List.length_append, leB_length, putK4] at this
              simp at this
        · rw [if_neg (by omega), if_neg (by omega), if_neg h6, putK8, hback]
          exact ⟨fun _ => by omega, fun _ => rfl⟩
      · exact absurd (by unfold cSize; rw [if_neg h3, if_neg h4, if_neg h5]) h

theorem refCnt_low {b : UInt8} {t : List UInt8} (h : cSize b = 0) : refCnt b.toNat = (b :: t).take 1 := by
  have hb : b ≠ 253 ∧ b ≠ 254 ∧ b ≠ 255 := by
    unfold cSize at h
    refine ⟨?_, ?_, ?_⟩ <;> (intro e; subst e; simp at h)
  have h1 : (b.toNat : Int) ≠ 253 := fun e => hb.1 (b253.1 e)
  have h2 : (b.toNat : Int) ≠ 254 := fun e => hb.2.1 (b254.1 e)
  have h3 : (b.toNat : Int) ≠ 255 := fun e => hb.2.2 (b255.1 e)
  have h4 := b.toNat_lt
  unfold refCnt
  rw [if_neg (by omega), if_pos (by omega), leB_one]
  simp

/-- An eye's answer agrees with the document's. -/
def Agree (c : Int × List UInt8 × Bool) (r : Int × Int) (len : Int) : Prop := c.1 = r.1 ∧ c.2.2 = decide (r.2 = 0) ∧ (r.2 ≠ 0 → (c.2.1.length : Int) = len - r.2)
/-- What an eye reads is what the document says. -/
theorem counts_eq (s : List UInt8) (most : Int) : Agree (countR s false most) (countedR s most) s.length := by
  cases s with
  | nil => rw [countR_nil]; exact ⟨rfl, rfl, fun h => absurd rfl h⟩
  | cons b t =>
    simp only [countedR]
    by_cases h0 : cSize b = 0
    · rw [if_pos h0, countR_low h0]
      unfold cntTry
      by_cases hm : most < (b.toNat : Int)
      · rw [if_pos hm, if_pos hm]; exact ⟨rfl, rfl, fun h => absurd rfl h⟩
      · rw [if_neg hm, if_neg hm, if_neg (fun e => e (refCnt_low h0))]
        exact ⟨rfl, rfl, fun _ => by simp⟩
    · rw [if_neg h0]
      by_cases hl : (b :: t).length < 1 + cSize b
      · rw [if_pos hl, countR_none h0 (.inl (by simp at hl; omega))]
        exact ⟨rfl, rfl, fun h => absurd rfl h⟩
      · rw [if_neg hl]
        have hl2 : cSize b ≤ t.length := by simp at hl; omega
        by_cases hg : 9223372036854775808 ≤ leN (t.take (cSize b))
        · rw [if_pos hg, countR_none h0 (.inr hg)]
          exact ⟨rfl, rfl, fun h => absurd rfl h⟩
        · rw [if_neg hg, countR_high h0 hl2 (by omega)]
          unfold cntTry
          have hi := refCnt_iff h0 hl2
          by_cases hm : most < ((leN (t.take (cSize b)) : Nat) : Int)
          · rw [if_pos (.inr hm), if_pos hm]; exact ⟨rfl, rfl, fun h => absurd rfl h⟩
          · rw [if_neg hm]
            by_cases hc : cLeast b ≤ ((leN (t.take (cSize b)) : Nat) : Int)
            · rw [if_neg (by omega), if_neg (fun e => e (hi.2 hc))]
              refine ⟨rfl, ?_, fun _ => ?_⟩
              · exact (decide_eq_false (by omega)).symm
              · dsimp only; simp only [List.length_drop, List.length_cons]; omega
            · rw [if_pos (by omega), if_pos (fun e => hc (hi.1 e))]
              exact ⟨rfl, rfl, fun h => absurd rfl h⟩

theorem leN_leB_small {n : Int} {k : Nat} (h0 : 0 ≤ n) (h : n < 2 ^ (8 * k)) : (leN (leB k n) : Int) = n := by rw [leN_leB, Int.emod_eq_of_lt h0 h]

/-- A count that is put is read again. -/
theorem count_put (n : Int) (h : n < 9223372036854775808) : countR (cntB n) false (max n 0) = (max n 0, [], false) := by
  unfold cntB
  by_cases h1 : n ≤ 252
  · rw [if_pos h1]
    obtain ⟨m, hm⟩ : ∃ m : Nat, max n 0 = (m : Int) := ⟨(max n 0).toNat, by omega⟩
    have hb : ((UInt8.ofNat m).toNat : Int) = m := by rw [UInt8.toNat_ofNat', Nat.mod_eq_of_lt (by omega)]
    have e : leB (putK 1) (max n 0) = [UInt8.ofNat m] := by rw [hm, ← hb]; exact leB_one _
    rw [e, countR_low, hb, hm, if_neg (by omega)]
    unfold cSize
    have hn : ∀ k : Nat, 252 < k → k < 256 → ¬ UInt8.ofNat m = UInt8.ofNat k := fun k hk hk2 hh => by
      have := congrArg UInt8.toNat hh
      rw [UInt8.toNat_ofNat', UInt8.toNat_ofNat', Nat.mod_eq_of_lt (by omega), Nat.mod_eq_of_lt hk2] at this
      omega
    rw [if_neg (show ¬ UInt8.ofNat m = 253 from hn 253 (by decide) (by decide)), if_neg (show ¬ UInt8.ofNat m = 254 from hn 254 (by decide) (by decide)), if_neg (show ¬ UInt8.ofNat m = 255 from hn 255 (by decide) (by decide))]
  · have hmax : max n 0 = n := by omega
    rw [if_neg h1, hmax]
    have key : ∀ (b : UInt8) (k : Nat), cSize b = k → k ≠ 0 → n < 2 ^ (8 * k) → cLeast b ≤ n → countR ([b] ++ leB k n) false n = (n, [], false) := by
      intro b k hk hk0 hn hc
      have ht : (leB k n).take k = leB k n := List.take_of_length_le (by rw [leB_length]; exact Nat.le_refl _)
      have hd : (leB k n).drop k = [] := List.drop_of_length_le (by rw [leB_length]; exact Nat.le_refl _)
      have hv := leN_leB_small (k := k) (by omega) hn
      show countR (b :: leB k n) false n = _
      rw [countR_high (by rw [hk]; exact hk0) (by rw [hk, leB_length]; exact Nat.le_refl _) (by rw [hk, ht]; omega), hk, ht, hd, hv, if_neg (by omega)]
    by_cases h2 : n ≤ 65535
    · rw [if_pos h2]
      exact key 253 2 rfl (by decide) (by have : (2 : Int) ^ (8 * 2) = 65536 := by decide
                                          omega) (by have : cLeast 253 = 253 := rfl
                                                     omega)
    · rw [if_neg h2]
      by_cases h3 : n ≤ 4294967295
      · rw [if_pos h3]
        exact key 254 4 rfl (by decide) (by have : (2 : Int) ^ (8 * 4) = 4294967296 := by decide
                                            omega) (by have : cLeast 254 = 65536 := rfl
                                                       omega)
      · rw [if_neg h3]
        exact key 255 8 rfl (by decide) (by have : (2 : Int) ^ (8 * 8) = 18446744073709551616 := by decide
                                            omega) (by have : cLeast 255 = 4294967296 := rfl
                                                       omega)
end Go.Proofs.YtedkoebbijpnfaaGreatDoor

namespace Go.Proofs.YtedkoebbijpnfaaGreatDoor
open Go Go.Proofs.YtedkoebbijpnfaaGreatDoor.TH
set_option maxHeartbeats 1000000

abbrev hashV (h : List UInt8) : Value := .agg (h.map bV).toArray
abbrev HashB (h : List UInt8) : Obj := .cells (h.map bV).toArray 24 (0, 0)

theorem RName_spec (h : List UInt8) (hh : h.length = 32) : CallL Tryz.prog 26 [hashV h] [] (fun r Hs' => r = str h ∧ Hs' = []) := by
  refine CallL.enter Tryz.func26 Tryz.ntmps26 rfl rfl rfl ?_
  refine EL.seq ?_
  refine EL.region (.x 0 [] (.p 1 (.nil))) (by kernel_rfl) ?_
  refine EPL.box (c := (h.map bV).toArray) rfl rfl rfl (fun _ => HeldL.nil) (fun b1 => ?_)
  refine EPL.p rfl rfl (q_assign (v := .string _) rfl) ?_
  refine EPL.nil ?_
  refine EL.go ?_
  refine EL.seq ?_
  refine EL.region (.p 0 (.nil)) (by kernel_rfl) ?_
  refine EPL.p rfl rfl (q_assign (v := .string _) rfl) ?_
  refine EPL.nil ?_
  refine EL.go ?_
  refine EL.seq ?_
  refine EL.seq ?_
  refine EL.region (.p 0 (.nil)) (by kernel_rfl) ?_
  refine EPL.p rfl rfl (q_assign (v := .int _ _) rfl) ?_
  refine EPL.nil ?_
  refine EL.go ?_
  refine EL.block ?_
  refine EL.loop [3, 4, 5, 6, 7, 8, 9, 10, 11, 12, 13, 14, 15] (fun i : Nat => [(3, str (h.take i)), (4, .int .i64 i)]) (fun m i Hs' => m + i = 32 ∧ Hs' = [sg b1 (HashB h)]) 32 0 ⟨by omega, rfl⟩ ⟨rfl, rfl, trivial⟩ ?_
  rintro m i _ j ⟨hm, rfl⟩
  refine EL.seq ?_
  refine EL.seq ?_
  refine EL.region (.p 0 (.p 1 (.nil))) (by kernel_rfl) ?_
  refine EPL.p rfl rfl (q_move (v := .int _ _) rfl) ?_
  refine EPL.p rfl rfl (q_lss rfl rfl) ?_
  refine EPL.nil ?_
  refine EL.go ?_
  refine EL.cond rfl (fun c2 => ?_) (fun c2 => ?_)
  ·
    have c2 := of_decide_eq_true c2
    obtain ⟨x, hx⟩ : ∃ x, h[i]? = some x := ⟨_, List.getElem?_eq_getElem (by omega)⟩
    refine EL.skip ?_
    refine EL.go ?_
    refine EL.seq ?_
    refine EL.block ?_
    refine EL.region (.p 0 (.p 1 (.p 2 (.l 3 (.x 4 [] (.l 5 (.p 6 (.p 7 (.nil))))))))) (by kernel_rfl) ?_
    refine EPL.p rfl rfl (q_move (v := .string _) rfl) ?_
    refine EPL.p rfl rfl (q_move (v := .int _ _) rfl) ?_
    refine EPL.p rfl rfl (q_idxArr Tryz.underlying24 sz5 rfl rfl (by omega) (by omega)) ?_
    refine EPL.ld1 (v := bV x) rfl rfl sc5 rfl (by simp [hx]) ?_
    refine EPL.bs rfl rfl Tryz.underlying71 el5 rfl rfl (fill1 (u := .int _ _) rfl rfl) (fun _ => HeldL.nil) (fun b3 => ?_)
    refine EPL.btsP (l := [x]) rfl rfl Tryz.underlying71 Tryz.underlying5 Tryz.underlying9 rfl rfl ⟨Nat.le_refl _, Nat.le_refl _⟩ (by unfold maxLen; decide) rfl okF.z ?_
    refine EPL.p rfl rfl (q_strcat rfl rfl (by simp; omega)) ?_
    refine EPL.p rfl rfl (q_assign (v := .string _) rfl) ?_
    refine EPL.nil ?_
    refine EL.go ?_
    refine EL.region (.p 0 (.p 1 (.p 2 (.nil)))) (by kernel_rfl) ?_
    refine EPL.p rfl rfl (q_move (v := .int _ _) rfl) ?_
    refine EPL.p rfl rfl (q_add rfl rfl) ?_
    refine EPL.p rfl rfl (q_assign (v := .int _ _) rfl) ?_
    refine EPL.nil ?_
    refine RoundQ.mkP (m - 1) (i + 1) [sg b1 (HashB h)] (by omega) ⟨by omega, rfl⟩ (by repeat first | refine Off.upd rfl ?_ | exact Off.mix | refine Off.upds rfl ?_ | refine Off.mixs rfl ?_ | exact Off.refl) ⟨congrArg (fun l => str l) (by obtain ⟨hi, hx2⟩ := List.getElem?_eq_some_iff.1 hx; rw [List.take_succ_eq_append_getElem hi, hx2]), congrArg (Value.int .i64) (wrap_i64_in (by omega)), trivial⟩
  ·
    have c2 := of_decide_eq_false c2
    obtain rfl : i = 32 := by omega
    have ht : h.take 32 = h := List.take_of_length_le (by omega)
    rw [ht] at *
    refine EL.exit ?_
    refine EL.go ?_
    refine EL.seq ?_
    refine EL.region (.p 0 (.p 1 (.nil))) (by kernel_rfl) ?_
    refine EPL.p rfl rfl (q_move (v := .string _) rfl) ?_
    refine EPL.p rfl rfl (q_assign (v := .string _) rfl) ?_
    refine EPL.nil ?_
    refine EL.go ?_
    refine EL.ret ?_
    exact end_retP [] (fun _ => rfl) (fun _ => ⟨rfl, rfl⟩)


/-- The name that is read. -/
def nameR (s : List UInt8) (bad : Bool) : List UInt8 := if (rawR s bad 32).1.length = 32 then (rawR s bad 32).1 else List.replicate 32 0
theorem z44_eq : z24 = (List.replicate 32 (0 : UInt8)).map bV := rfl
theorem rawR_32 (s : List UInt8) (bad : Bool) : (rawR s bad 32).1.length = 32 ∨ (rawR s bad 32).1 = [] := by
  unfold rawR
  split
  · rename_i h
    simp at h
    left; simp; omega
  · right; rfl
theorem nameR_len (s : List UInt8) (bad : Bool) : (nameR s bad).length = 32 := by
  unfold nameR
  split
  · assumption
  · simp
theorem name_copy (s : List UInt8) (bad : Bool) : setL z24.toArray 0 (((rawR s bad 32).1.take (min (rawR s bad 32).1.length 32)).map bV) = ((nameR s bad).map bV).toArray := by
  unfold nameR
  rcases rawR_32 s bad with h | h
  · rw [if_pos h, h, List.take_of_length_le (by rw [h]; decide), setL_all (by simp [h, z24])]
  · rw [h]; rfl

theorem EName_spec (g : Nat) (s : List UInt8) (bad : Bool) : CallL Tryz.prog 31 [ptr g] [sg g (EyeB s bad)] (fun r Hs' => r = hashV (nameR s bad) ∧ Hs' = [sg g (EyeB (rawR s bad 32).2.1 (rawR s bad 32).2.2)]) := by
  refine CallL.enter Tryz.func31 Tryz.ntmps31 rfl rfl rfl ?_
  refine EL.seq ?_
  refine EL.region (.x 0 [] (.nil)) (by kernel_rfl) ?_
  refine EPL.al rfl rfl el24 (fun _ => HeldL.nil) (fun b1 => ?_)
  refine EPL.nil ?_
  refine EL.go ?_
  refine EL.seq ?_
  refine EL.region (.x 0 [] (.nil)) (by kernel_rfl) ?_
  refine EPL.al rfl rfl el24 (fun _ => HeldL.nil) (fun b2 => ?_)
  refine EPL.nil ?_
  refine EL.go ?_
  refine EL.seq ?_
  refine EL.draw (.p 0 (.p 1 (.x 2 [] (.x 3 [] (.nil))))) [2, 3] [] fm (by kernel_rfl) ?_
  refine EPL.p rfl rfl (q_slArr Tryz.underlying24 sz5 (by decide) rfl) ?_
  refine EPL.p rfl rfl (q_move (v := .pointer _) rfl) ?_
  refine EPL.cl rfl rfl Tryz.func52 rfl rfl (Raw_spec' g s bad 32) rfl ?_
  rintro _ _ ⟨rfl, rfl⟩
  refine ⟨HeldL.nil, ?_⟩
  refine EPL.cp (c' := ((nameR s bad).map bV).toArray) rfl rfl Tryz.underlying71 sz5 rfl (by exact fun _ => CSrc.str) rfl okF.z (by simp [z24]; omega) (name_copy s bad) HeldL.nil ?_
  refine EPL.nil ?_
  refine EL.go ?_
  refine EL.seq ?_
  refine EL.region (.l 0 (.x 1 [] (.nil))) (by kernel_rfl) ?_
  refine EPL.ldAw rfl rfl ag24 rfl (by simp [nameR_len]) ?_
  refine EPL.stA (v := ((nameR s bad).map bV).toArray) rfl rfl sz24 rfl rfl (by simp [nameR_len]) (bvAll _) rfl HeldL.nil ?_
  refine EPL.nil ?_
  refine EL.go ?_
  refine EL.ret ?_
  exact end_retP (vs := [hashV (nameR s bad)]) [sg g (EyeB (rawR s bad 32).2.1 (rawR s bad 32).2.2)] (fun hd => resL_one (rv_cellA (e := 24) (fr := (0, 0)) ag24 rfl (TakeP.sub (H := sg b1 (HashB (nameR s bad))) hd b1 _ sg_self) (by simp [nameR_len]))) (fun _ => ⟨rfl, rfl⟩)

end Go.Proofs.YtedkoebbijpnfaaGreatDoor

namespace Go.Proofs.YtedkoebbijpnfaaGreatDoor
open Go Go.Proofs.YtedkoebbijpnfaaGreatDoor.TH
set_option maxHeartbeats 1000000

/-- Names, one behind the other. -/
abbrev OwnN (la : Option Addr) (lc : Nat) (hs : List (List UInt8)) (I : Hp) : Prop := OwnS 24 32 (.slice la hs.length lc) hs.length (hs.flatMap fun h => h.map bV) I
theorem join_take {hs : List (List UInt8)} {i : Nat} {x : List UInt8} (h : hs[i]? = some x) : (hs.take (i + 1)).flatten = (hs.take i).flatten ++ x := by
  obtain ⟨hi, hx⟩ := List.getElem?_eq_some_iff.1 h
  rw [List.take_succ_eq_append_getElem hi, hx]; simp
theorem flatten_le {hs : List (List UInt8)} (hw : ∀ h ∈ hs, h.length = 32) : hs.flatten.length = 32 * hs.length := by
  induction hs with
  | nil => rfl
  | cons h hs ih => simp only [List.flatten_cons, List.length_append, hw h List.mem_cons_self, ih fun x hx => hw x (List.mem_cons_of_mem _ hx), List.length_cons]; omega

theorem PNames_spec (p : Nat) (a la : Option Addr) (c lc : Nat) (out : List UInt8) (hs : List (List UInt8)) (H I : Hp) (hw : ∀ h ∈ hs, h.length = 32) (hO : OwnB a c out H) (hI : OwnN la lc hs I) (hb : out.length + 32 * hs.length ≤ 1099511627776) : CallL Tryz.prog 48 [ptr p, .slice la hs.length lc] [sg p (PenS a c out), H, I] (fun r Hs' => r = .tuple #[] ∧ ∃ a' c' H', Hs' = [sg p (PenS a' c' (out ++ hs.flatten)), H', I] ∧ OwnB a' c' (out ++ hs.flatten) H') := by
  refine CallL.enter Tryz.func48 Tryz.ntmps48 rfl rfl rfl ?_
  refine EL.seq ?_
  refine EL.region (.p 0 (.p 1 (.p 2 (.nil)))) (by kernel_rfl) ?_
  refine EPL.p rfl rfl (q_move (v := .slice _ _ _) rfl) ?_
  refine EPL.p rfl rfl (q_lenSl Tryz.underlying22 rfl) ?_
  refine EPL.p rfl rfl (q_move (v := .int _ _) rfl) ?_
  refine EPL.nil ?_
  refine EL.go ?_
  refine EL.block ?_
  refine EL.loop [5, 8, 9, 10, 11, 12, 13, 14, 15, 16, 17, 18, 19, 20, 21] (fun i : Nat => [(8, .int .i64 i)]) (fun m i Hs' => m + i = hs.length ∧ ∃ a' c' H', Hs' = [sg p (PenS a' c' (out ++ (hs.take i).flatten)), H', I] ∧ OwnB a' c' (out ++ (hs.take i).flatten) H') hs.length 0 ⟨by omega, a, c, H, by simp, by simpa using hO⟩ ⟨rfl, trivial⟩ ?_
  rintro m i _ j ⟨hm, a', c', H', rfl, hO'⟩
  refine EL.seq ?_
  refine EL.region (.p 0 (.nil)) (by kernel_rfl) ?_
  refine EPL.p rfl rfl (q_lss rfl rfl) ?_
  refine EPL.nil ?_
  refine EL.go ?_
  refine EL.seq ?_
  refine EL.cond rfl (fun c1 => ?_) (fun c1 => ?_)
  ·
    have c1 := of_decide_eq_true c1
    obtain ⟨x, hx⟩ : ∃ x, hs[i]? = some x := ⟨_, List.getElem?_eq_getElem (by omega)⟩
    have hx32 : x.length = 32 := hw x (List.mem_of_getElem? hx)
    obtain ⟨b, off, cap, cc, fr, he, hbI, hcs, hcc⟩ := hI.getA (fun h hh => by simp [hw h hh]) hx
    obtain ⟨rfl, rfl⟩ : la = some ⟨b, off, none⟩ ∧ lc = cap := by simpa using he
    have hlen : (out ++ (hs.take i).flatten).length + 32 ≤ 1099511627776 := by
      rw [List.length_append, flatten_le fun h hh => hw h (List.mem_of_mem_take hh)]; simp; omega
    refine EL.skip ?_
    refine EL.go ?_
    refine EL.seq ?_
    refine EL.block ?_
    refine EL.seq ?_
    refine EL.region (.p 0 (.l 1 (.x 2 [] (.x 3 [] (.nil))))) (by kernel_rfl) ?_
    refine EPL.p rfl rfl (q_idxSl Tryz.underlying22 sz24 rfl rfl (by omega) (by omega)) ?_
    refine EPL.ldAP (v := hashV x) rfl rfl ag24 rfl hbI (by simpa using hcs) (congrArg Value.agg (by simpa using hcc)) ?_
    refine EPL.al rfl rfl el24 (fun _ => HeldL.nil) (fun b2 => ?_)
    refine EPL.stA (v := (x.map bV).toArray) rfl rfl sz24 rfl rfl (by simp [hx32]) (bvAll _) rfl HeldL.nil ?_
    refine EPL.nil ?_
    refine EL.go ?_
    refine EL.draw (.p 0 (.p 1 (.p 2 (.p 3 (.l 4 (.p 5 (.x 6 [] (.p 7 (.p 8 (.x 9 [] (.nil))))))))))) [6, 9] [4] fm (by kernel_rfl) ?_
    refine EPL.p rfl rfl (q_move (v := .pointer _) rfl) ?_
    refine EPL.p rfl rfl (q_move (v := .pointer _) rfl) ?_
    refine EPL.p rfl rfl (q_nilCheck rfl) ?_
    refine EPL.p rfl rfl (q_fieldAddr (p := ⟨_, _, none⟩) Tryz.underlying73 rfl sz71 rfl rfl) ?_
    refine EPL.ld1 (v := .slice _ _ _) rfl rfl sc71 rfl rfl ?_
    refine EPL.p rfl rfl (q_slArr Tryz.underlying24 sz5 (by decide) rfl) ?_
    refine EPL.app rfl rfl Tryz.underlying71 (.inr ⟨_, Tryz.underlying71⟩) el5 rfl (by exact hO') rfl (by exact fun hd => Src.pick hd (by simp [hx32]) (by simp [Value.oneCell'])) (by unfold maxLen; omega) (by omega) (fun v' H3 hv' => ?_)
    obtain ⟨a3, c3, rfl, hO3⟩ := OwnB.app (news := x) hv'
    refine ⟨HeldL.nil, ?_⟩
    refine EPL.p rfl rfl (q_nilCheck rfl) ?_
    refine EPL.p rfl rfl (q_fieldAddr (p := ⟨_, _, none⟩) Tryz.underlying73 rfl sz71 rfl rfl) ?_
    refine EPL.st (v := .slice _ _ _) (c' := #[.slice _ _ _]) rfl rfl sz71 rfl rfl rfl (oneV rfl) (Nat.le_of_ble_eq_true rfl) rfl HeldL.nil ?_
    refine EPL.nil ?_
    refine EL.go ?_
    refine EL.region (.p 0 (.p 1 (.nil))) (by kernel_rfl) ?_
    refine EPL.p rfl rfl (q_add rfl rfl) ?_
    refine EPL.p rfl rfl (q_move (v := .int _ _) rfl) ?_
    refine EPL.nil ?_
    refine RoundQ.mkP (m - 1) (i + 1) [sg p (PenS a3 c3 (out ++ (hs.take i).flatten ++ x)), H3, I] (by omega) ⟨by omega, a3, c3, H3, by rw [join_take hx, List.append_assoc], by rw [join_take hx, ← List.append_assoc]; exact hO3⟩ (by repeat first | refine Off.upd rfl ?_ | exact Off.mix | refine Off.upds rfl ?_ | refine Off.mixs rfl ?_ | exact Off.refl) ⟨congrArg (Value.int .i64) (wrap_i64_in (by omega)), trivial⟩
  ·
    have c1 := of_decide_eq_false c1
    have ht : hs.take i = hs := List.take_of_length_le (by omega)
    rw [ht] at hO' ⊢
    refine EL.exit ?_
    exact end_normal (fun _ => rfl) (fun _ => ⟨rfl, a', c', H', rfl, hO'⟩)


structure Itm where
  kind : Int
  size : Int
  n : Int
  name : List UInt8
  text : List UInt8
def Itm.cells (x : Itm) : List Value := [.int .i64 x.kind, .int .i64 x.size, .int .i64 x.n] ++ (x.name.map bV ++ [str x.text])
def Itm.ok (x : Itm) : Prop := x.name.length = 32 ∧ (-9223372036854775808 ≤ x.n ∧ x.n < 9223372036854775808)
theorem Itm.len {x : Itm} (h : x.ok) : x.cells.length = 36 := by simp [Itm.cells, h.1]
theorem Itm.sz {x : Itm} (h : x.ok) : x.cells.toArray.size = 36 := by simp [Itm.len h]
theorem Itm.c0 (x : Itm) : x.cells.toArray[0]? = some (.int .i64 x.kind) := rfl
theorem Itm.c1 (x : Itm) : x.cells.toArray[1]? = some (.int .i64 x.size) := rfl
theorem Itm.c2 (x : Itm) : x.cells.toArray[2]? = some (.int .i64 x.n) := rfl
theorem Itm.c35 {x : Itm} (h : x.ok) : x.cells.toArray[35]? = some (str x.text) := by
  have h1 := h.1
  simp only [Itm.cells, List.getElem?_toArray]
  rw [List.getElem?_append_right (by simp), List.getElem?_append_right (by simp [h1])]
  simp [h1]
theorem Itm.c3 {x : Itm} (h : x.ok) : x.cells.toArray.extract 3 (3 + 32) = (x.name.map bV).toArray := by
  have h1 := h.1
  refine extract_of ?_
  show ((x.name.map bV ++ [str x.text]).take 32) = _
  rw [List.take_append_of_le_length (by simp [h1]), List.take_of_length_le (by simp [h1])]
theorem Itm.one (x : Itm) : ∀ u ∈ x.cells.toArray.toList, u.oneCell' = true := by
  intro u hu
  simp only [Itm.cells, List.mem_append, List.mem_cons, List.mem_map, List.not_mem_nil, or_false] at hu
  rcases hu with (rfl | rfl | rfl) | (⟨x, _, rfl⟩ | rfl) <;> rfl
/-- Items, one behind the other. -/
abbrev OwnI (la : Option Addr) (lc : Nat) (l : List Itm) (I : Hp) : Prop := RdS 36 (.slice la l.length lc) l.length (l.flatMap Itm.cells) I
def textLen (l : List Itm) : Nat := (l.map fun x => x.text.length).sum
def greatR (l : List Itm) : Bool := decide (4096 < textLen l) || decide (40 < l.length)
theorem textLen_take {l : List Itm} {i : Nat} {x : Itm} (h : l[i]? = some x) : textLen (l.take (i + 1)) = textLen (l.take i) + x.text.length := by
  obtain ⟨hi, hx⟩ := List.getElem?_eq_some_iff.1 h
  rw [List.take_succ_eq_append_getElem hi, hx]; simp [textLen]
theorem textLen_le (l : List Itm) (i : Nat) : textLen (l.take i) ≤ textLen l := by
  have h : textLen l = textLen (l.take i) + textLen (l.drop i) := by
    conv => lhs; rw [← List.take_append_drop i l]
    simp [textLen, -List.take_append_drop]
  omega


end Go.Proofs.YtedkoebbijpnfaaGreatDoor

namespace Go.Proofs.YtedkoebbijpnfaaGreatDoor
open Go Go.Shelf
def sh105_ren : Go.Shelf.Ren := ⟨fun | 105 => 44 | 212 => 59 | 99 => 60 | 165 => 61 | 166 => 62 | 170 => 63 | 169 => 64 | 263 => 71 | 264 => 72 | 206 => 73 | 240 => 74 | 241 => 75 | 276 => 84 | 277 => 85 | n => n, fun | 9 => 9 | 3 => 3 | 4 => 4 | 20 => 20 | 0 => 0 | 46 => 68 | 109 => 89 | 5 => 5 | 72 => 94 | 76 => 97 | 51 => 101 | 146 => 106 | 53 => 85 | 148 => 108 | 70 => 92 | 37 => 71 | 75 => 96 | 127 => 110 | 164 => 118 | 80 => 78 | n => n, fun | n => n⟩
theorem sh105 : Go.Proofs.Lays.n105 Tryz.prog sh105_ren := {
  mixed := by kernel_rfl
  f99 := Tryz.func60.trans (congrArg some (by kernel_rfl))
  f105 := Tryz.func44.trans (congrArg some (by kernel_rfl))
  f165 := Tryz.func61.trans (congrArg some (by kernel_rfl))
  f166 := Tryz.func62.trans (congrArg some (by kernel_rfl))
  f169 := Tryz.func64.trans (congrArg some (by kernel_rfl))
  f170 := Tryz.func63.trans (congrArg some (by kernel_rfl))
  f206 := Tryz.func73.trans (congrArg some (by kernel_rfl))
  f212 := Tryz.func59.trans (congrArg some (by kernel_rfl))
  f240 := Tryz.func74.trans (congrArg some (by kernel_rfl))
  f241 := Tryz.func75.trans (congrArg some (by kernel_rfl))
  f263 := Tryz.func71.trans (congrArg some (by kernel_rfl))
  f264 := Tryz.func72.trans (congrArg some (by kernel_rfl))
  f276 := Tryz.func84.trans (congrArg some (by kernel_rfl))
  f277 := Tryz.func85.trans (congrArg some (by kernel_rfl))
  t0 := Tryz.underlying0
  a0 := Tryz.isAgg0
  z0 := Tryz.sizeOf0
  v0 := Tryz.zeroValue0
  t3 := Tryz.underlying3
  a3 := Tryz.isAgg3
  z3 := Tryz.sizeOf3
  v3 := Tryz.zeroValue3
  t4 := Tryz.underlying4
  a4 := Tryz.isAgg4
  z4 := Tryz.sizeOf4
  v4 := Tryz.zeroValue4
  t5 := Tryz.underlying5
  a5 := Tryz.isAgg5
  z5 := Tryz.sizeOf5
  v5 := Tryz.zeroValue5
  t9 := Tryz.underlying9
  a9 := Tryz.isAgg9
  z9 := Tryz.sizeOf9
  v9 := Tryz.zeroValue9
  t20 := Tryz.underlying20
  a20 := Tryz.isAgg20
  z20 := Tryz.sizeOf20
  v20 := Tryz.zeroValue20
  t37 := Tryz.underlying71
  a37 := Tryz.isAgg71
  z37 := Tryz.sizeOf71
  v37 := Tryz.zeroValue71
  t46 := Tryz.underlying68
  a46 := Tryz.isAgg68
  z46 := Tryz.sizeOf68
  v46 := Tryz.zeroValue68
  t51 := Tryz.underlying101
  a51 := Tryz.isAgg101
  z51 := Tryz.sizeOf101
  v51 := Tryz.zeroValue101
  t53 := Tryz.underlying85
  a53 := Tryz.isAgg85
  z53 := Tryz.sizeOf85
  v53 := Tryz.zeroValue85
  t70 := Tryz.underlying92
  a70 := Tryz.isAgg92
  z70 := Tryz.sizeOf92
  v70 := Tryz.zeroValue92
  t72 := Tryz.underlying94
  a72 := Tryz.isAgg94
  z72 := Tryz.sizeOf94
  v72 := Tryz.zeroValue94
  t75 := Tryz.underlying96
  a75 := Tryz.isAgg96
  z75 := Tryz.sizeOf96
  v75 := Tryz.zeroValue96
  t76 := Tryz.underlying97
  a76 := Tryz.isAgg97
  z76 := Tryz.sizeOf97
  v76 := Tryz.zeroValue97
  t109 := Tryz.underlying89
  a109 := Tryz.isAgg89
  z109 := Tryz.sizeOf89
  v109 := Tryz.zeroValue89
  t127 := Tryz.underlying110
  a127 := Tryz.isAgg110
  z127 := Tryz.sizeOf110
  v127 := Tryz.zeroValue110
  t146 := Tryz.underlying106
  a146 := Tryz.isAgg106
  z146 := Tryz.sizeOf106
  v146 := Tryz.zeroValue106
  t148 := Tryz.underlying108
  a148 := Tryz.isAgg108
  z148 := Tryz.sizeOf108
  v148 := Tryz.zeroValue108
  t164 := Tryz.underlying118
  a164 := Tryz.isAgg118
  z164 := Tryz.sizeOf118
  v164 := Tryz.zeroValue118 }
def shX_ren : Go.Shelf.Ren := ⟨fun | 105 => 44 | 212 => 59 | 99 => 60 | 165 => 61 | 166 => 62 | 170 => 63 | 169 => 64 | 263 => 71 | 264 => 72 | 206 => 73 | 240 => 74 | 241 => 75 | 276 => 84 | 277 => 85 | n => n, fun | 9 => 9 | 3 => 3 | 4 => 4 | 20 => 20 | 0 => 0 | 46 => 68 | 109 => 89 | 5 => 5 | 72 => 94 | 76 => 97 | 51 => 101 | 146 => 106 | 53 => 85 | 148 => 108 | 70 => 92 | 37 => 71 | 75 => 96 | 127 => 110 | 164 => 118 | 80 => 78 | n => n, fun | n => n⟩
theorem shX : Go.Proofs.Builder.Extra Tryz.prog shX_ren := {
  sizeBuilder := by kernel_rfl
  liesBuilder := by kernel_rfl
  t5 := Tryz.underlying5
  a5 := Tryz.isAgg5
  z5 := Tryz.sizeOf5
  v5 := Tryz.zeroValue5
  infoByte := by kernel_rfl
  cellsByte := by kernel_rfl
  sizeByte := by kernel_rfl
  neB5 := by decide }
def sh160_ren : Go.Shelf.Ren := ⟨fun | 160 => 70 | 232 => 78 | 231 => 77 | 227 => 79 | 234 => 81 | 233 => 80 | 236 => 83 | 235 => 82 | 228 => 89 | 271 => 92 | 151 => 91 | 197 => 90 | 120 => 96 | 152 => 95 | 260 => 94 | 137 => 98 | 119 => 99 | 224 => 100 | 225 => 101 | 217 => 103 | 266 => 104 | n => n, fun | 9 => 9 | 4 => 4 | 3 => 3 | 5 => 5 | 117 => 114 | 116 => 113 | 0 => 0 | 124 => 117 | 21 => 21 | 105 => 125 | 46 => 68 | 119 => 133 | 139 => 136 | 138 => 135 | n => n, fun | 3 => 4 | 4 => 5 | n => n⟩
theorem sh160 : Go.Proofs.Lays.n160 Tryz.prog sh160_ren := {
  mixed := by kernel_rfl
  f119 := Tryz.func99.trans (congrArg some (by kernel_rfl))
  f120 := Tryz.func96.trans (congrArg some (by kernel_rfl))
  f137 := Tryz.func98.trans (congrArg some (by kernel_rfl))
  f151 := Tryz.func91.trans (congrArg some (by kernel_rfl))
  f152 := Tryz.func95.trans (congrArg some (by kernel_rfl))
  f160 := Tryz.func70.trans (congrArg some (by kernel_rfl))
  f197 := Tryz.func90.trans (congrArg some (by kernel_rfl))
  f217 := Tryz.func103.trans (congrArg some (by kernel_rfl))
  f224 := Tryz.func100.trans (congrArg some (by kernel_rfl))
  f225 := Tryz.func101.trans (congrArg some (by kernel_rfl))
  f227 := Tryz.func79.trans (congrArg some (by kernel_rfl))
  f228 := Tryz.func89.trans (congrArg some (by kernel_rfl))
  f231 := Tryz.func77.trans (congrArg some (by kernel_rfl))
  f232 := Tryz.func78.trans (congrArg some (by kernel_rfl))
  f233 := Tryz.func80.trans (congrArg some (by kernel_rfl))
  f234 := Tryz.func81.trans (congrArg some (by kernel_rfl))
  f235 := Tryz.func82.trans (congrArg some (by kernel_rfl))
  f236 := Tryz.func83.trans (congrArg some (by kernel_rfl))
  f260 := Tryz.func94.trans (congrArg some (by kernel_rfl))
  f266 := Tryz.func104.trans (congrArg some (by kernel_rfl))
  f271 := Tryz.func92.trans (congrArg some (by kernel_rfl))
  t0 := Tryz.underlying0
  a0 := Tryz.isAgg0
  z0 := Tryz.sizeOf0
  v0 := Tryz.zeroValue0
  t3 := Tryz.underlying3
  a3 := Tryz.isAgg3
  z3 := Tryz.sizeOf3
  v3 := Tryz.zeroValue3
  t4 := Tryz.underlying4
  a4 := Tryz.isAgg4
  z4 := Tryz.sizeOf4
  v4 := Tryz.zeroValue4
  t5 := Tryz.underlying5
  a5 := Tryz.isAgg5
  z5 := Tryz.sizeOf5
  v5 := Tryz.zeroValue5
  t9 := Tryz.underlying9
  a9 := Tryz.isAgg9
  z9 := Tryz.sizeOf9
  v9 := Tryz.zeroValue9
  t21 := Tryz.underlying21
  a21 := Tryz.isAgg21
  z21 := Tryz.sizeOf21
  v21 := Tryz.zeroValue21
  t46 := Tryz.underlying68
  a46 := Tryz.isAgg68
  z46 := Tryz.sizeOf68
  v46 := Tryz.zeroValue68
  t105 := Tryz.underlying125
  a105 := Tryz.isAgg125
  z105 := Tryz.sizeOf125
  v105 := Tryz.zeroValue125
  t116 := Tryz.underlying113
  a116 := Tryz.isAgg113
  z116 := Tryz.sizeOf113
  t117 := Tryz.underlying114
  a117 := Tryz.isAgg114
  z117 := Tryz.sizeOf114
  v117 := Tryz.zeroValue114
  t119 := Tryz.underlying133
  a119 := Tryz.isAgg133
  z119 := Tryz.sizeOf133
  t124 := Tryz.underlying117
  a124 := Tryz.isAgg117
  z124 := Tryz.sizeOf117
  v124 := Tryz.zeroValue117
  t138 := Tryz.underlying135
  a138 := Tryz.isAgg135
  z138 := Tryz.sizeOf135
  v138 := Tryz.zeroValue135
  t139 := Tryz.underlying136
  a139 := Tryz.isAgg136
  z139 := Tryz.sizeOf136
  v139 := Tryz.zeroValue136
  g3 := by kernel_rfl
  g4 := by kernel_rfl }
end Go.Proofs.YtedkoebbijpnfaaGreatDoor

/- What is read of bytes, and what is written: a reader and a writer that fit. Plain. -/
namespace Go.Proofs.YtedkoebbijpnfaaGreatDoor
open Go Go.Proofs.YtedkoebbijpnfaaGreatDoor.TH

/-- What an eye has left, and whether something was missed. -/
abbrev Ey := List UInt8 × Bool
abbrev Ey.no : Ey := ([], true)

/-- A reader and a writer that fit. -/
structure Fits {α : Type} (f : Ey → α × Ey) (enc : α → List UInt8) (good : α → Prop) : Prop where
  bad : (f Ey.no).2 = Ey.no
  out : ∀ s, (f (s, false)).2 = Ey.no ∨ ∃ r, (f (s, false)).2 = (r, false) ∧ s = enc (f (s, false)).1 ++ r ∧ good (f (s, false)).1
  inn : ∀ x r, good x → f (enc x ++ r, false) = (x, (r, false))

def eGet (k : Nat) (e : Ey) : Int × Ey := (getR e.1 e.2 k, getT e.1 e.2 k)
def eName (e : Ey) : List UInt8 × Ey := (nameR e.1 e.2, (rawR e.1 e.2 32).2)
def eCount (most : Int) (e : Ey) : Int × Ey := countR e.1 e.2 most

theorem Fits.get {k : Nat} (h1 : 1 ≤ k) (h7 : k ≤ 7) : Fits (eGet k) (leB k) (fun n => 0 ≤ n ∧ n < 2 ^ (8 * k)) := by
  have hk : min (max (k : Int) 1) 7 = (k : Int) := by omega
  refine ⟨?_, fun s => ?_, fun x r hx => ?_⟩
  · show getT [] true k = _
    unfold getT; rw [rawR_bad]
  · rcases Nat.lt_or_ge s.length k with h | h
    · exact .inl (get_no hk h).2
    · refine .inr ⟨s.drop k, (get_ok hk h).2, ?_, ?_⟩
      · show s = leB k (getR s false k) ++ _
        rw [(get_ok hk h).1]
        have e : leB k (leN (s.take k)) = s.take k := by
          have := leB_leN (s.take k)
          rwa [List.length_take, Nat.min_eq_left h] at this
        rw [e, List.take_append_drop]
      · show 0 ≤ getR s false k ∧ getR s false k < _
        rw [(get_ok hk h).1]
        have h3 := leN_take_lt s k
        rw [pow256] at h3
        refine ⟨by omega, ?_⟩
        have : ((leN (s.take k) : Nat) : Int) < ((2 ^ (8 * k) : Nat) : Int) := by omega
        simpa using this
  · have hl : k ≤ (leB k x ++ r).length := by rw [List.length_append, leB_length]; omega
    have ht : (leB k x ++ r).take k = leB k x := by have := List.take_left (l₁ := leB k x) (l₂ := r); rwa [leB_length] at this
    have hd : (leB k x ++ r).drop k = r := by have := List.drop_left (l₁ := leB k x) (l₂ := r); rwa [leB_length] at this
    have h := get_ok hk hl
    rw [ht, hd, leN_leB_small hx.1 hx.2] at h
    show (getR _ _ _, getT _ _ _) = _
    rw [h.1, h.2]

theorem Fits.name : Fits eName (fun h => h) (fun h => h.length = 32) := by
  refine ⟨?_, fun s => ?_, fun x r hx => ?_⟩
  · show (rawR [] true 32).2 = _
    rw [rawR_bad]
  · rcases Nat.lt_or_ge s.length 32 with h | h
    · left
      have := rawR_no (n := 32) h
      show (rawR s false 32).2 = _
      rw [show ((32 : Int)) = ((32 : Nat) : Int) from rfl, this]
    · have h2 := rawR_ok (n := 32) h
      have h3 : (s.take 32).length = 32 := by rw [List.length_take]; omega
      have hn : nameR s false = s.take 32 := by unfold nameR; rw [show ((32 : Int)) = ((32 : Nat) : Int) from rfl, h2]; exact if_pos h3
      refine .inr ⟨s.drop 32, ?_, ?_, ?_⟩
      · show (rawR s false 32).2 = _
        rw [show ((32 : Int)) = ((32 : Nat) : Int) from rfl, h2]
      · show s = nameR s false ++ _
        rw [hn, List.take_append_drop]
      · show (nameR s false).length = 32
        rw [hn, h3]
  · have hl : 32 ≤ (x ++ r).length := by rw [List.length_append]; omega
    have h2 := rawR_ok (n := 32) hl
    rw [← hx, List.take_left, List.drop_left, hx] at h2
    show (nameR _ _, (rawR _ _ _).2) = _
    unfold nameR
    dsimp only
    rw [show ((32 : Int)) = ((32 : Nat) : Int) from rfl, h2, if_pos hx]

theorem countR_app (n most : Int) (r : List UInt8) (h0 : 0 ≤ n) (h : n < 9223372036854775808) (hm : n ≤ most) : countR (refCnt n ++ r) false most = (n, r, false) := by
  have key : ∀ (b : UInt8) (k : Nat), cSize b = k → k ≠ 0 → n < 2 ^ (8 * k) → cLeast b ≤ n → countR ([b] ++ leB k n ++ r) false most = (n, r, false) := by
    intro b k hk hk0 hn hc
    have ht : (leB k n ++ r).take k = leB k n := by have := List.take_left (l₁ := leB k n) (l₂ := r); rwa [leB_length] at this
    have hd : (leB k n ++ r).drop k = r := by have := List.drop_left (l₁ := leB k n) (l₂ := r); rwa [leB_length] at this
    have hv := leN_leB_small (k := k) h0 hn
    show countR (b :: (leB k n ++ r)) false _ = _
    rw [countR_high (by rw [hk]; exact hk0) (by rw [hk, List.length_append, leB_length]; omega) (by rw [hk, ht]; omega), hk, ht, hd, hv, if_neg (by omega)]
  unfold refCnt
  rw [if_neg (by omega)]
  by_cases h1 : n < 253
  · rw [if_pos h1]
    obtain ⟨m, rfl⟩ : ∃ m : Nat, n = (m : Int) := ⟨n.toNat, by omega⟩
    have hb : ((UInt8.ofNat m).toNat : Int) = m := by rw [UInt8.toNat_ofNat', Nat.mod_eq_of_lt (by omega)]
    have e : leB (putK 1) (m : Int) = [UInt8.ofNat m] := by rw [← hb]; exact leB_one _
    have hn : ∀ k : Nat, 252 < k → k < 256 → ¬ UInt8.ofNat m = UInt8.ofNat k := fun k hk hk2 hh => by
      have := congrArg UInt8.toNat hh
      rw [UInt8.toNat_ofNat', UInt8.toNat_ofNat', Nat.mod_eq_of_lt (by omega), Nat.mod_eq_of_lt hk2] at this
      omega
    have hc : cSize (UInt8.ofNat m) = 0 := by
      unfold cSize
      rw [if_neg (show ¬ UInt8.ofNat m = 253 from hn 253 (by decide) (by decide)), if_neg (show ¬ UInt8.ofNat m = 254 from hn 254 (by decide) (by decide)), if_neg (show ¬ UInt8.ofNat m = 255 from hn 255 (by decide) (by decide))]
    rw [e]
    show countR (UInt8.ofNat m :: r) false _ = _
    rw [countR_low hc, hb, if_neg (by omega)]
  · rw [if_neg h1]
    by_cases h2 : n < 65536
    · rw [if_pos h2]
      exact key 253 2 rfl (by decide) (by have : (2 : Int) ^ (8 * 2) = 65536 := by decide
                                          omega) (by have : cLeast 253 = 253 := rfl
                                                     omega)
    · rw [if_neg h2]
      by_cases h3 : n < 4294967296
      · rw [if_pos h3]
        exact key 254 4 rfl (by decide) (by have : (2 : Int) ^ (8 * 4) = 4294967296 := by decide
                                            omega) (by have : cLeast 254 = 65536 := rfl
                                                       omega)
      · rw [if_neg h3]
        exact key 255 8 rfl (by decide) (by have : (2 : Int) ^ (8 * 8) = 18446744073709551616 := by decide
                                            omega) (by have : cLeast 255 = 4294967296 := rfl
                                                       omega)

theorem Fits.count {most : Int} (h0 : 0 ≤ most) (hm : most < 9223372036854775808) : Fits (eCount most) refCnt (fun n => 0 ≤ n ∧ n ≤ most) := by
  refine ⟨?_, fun s => ?_, fun x r hx => ?_⟩
  · show (countR [] true most).2 = _
    have e : cnt2 [] true = (0, 0, [], true) := by
      unfold cnt2 getR getT
      rw [show min (max 1 1) 7 = ((1 : Nat) : Int) from by decide, rawR_bad]
      rfl
    unfold countR
    rw [e]
    split <;> rfl
  · show (countR s false most).2 = _ ∨ ∃ r, (countR s false most).2 = _ ∧ s = refCnt (countR s false most).1 ++ r ∧ 0 ≤ (countR s false most).1 ∧ (countR s false most).1 ≤ most
    cases s with
    | nil => left; rw [countR_nil]
    | cons b t =>
      by_cases hc : cSize b = 0
      · rw [countR_low hc]
        by_cases hb : most < b.toNat
        · left; rw [if_pos hb]
        · right
          rw [if_neg hb]
          refine ⟨t, rfl, ?_, by show (0 : Int) ≤ _; omega, by show (b.toNat : Int) ≤ _; omega⟩
          show b :: t = refCnt b.toNat ++ t
          rw [refCnt_low (t := t) hc]; rfl
      · by_cases hl : t.length < cSize b ∨ 9223372036854775808 ≤ leN (t.take (cSize b))
        · left; rw [countR_none hc hl]
        · have hl1 : cSize b ≤ t.length := by omega
          rw [countR_high hc hl1 (by omega)]
          by_cases hlt : ((leN (t.take (cSize b)) : Nat) : Int) < cLeast b ∨ most < (leN (t.take (cSize b)) : Nat)
          · left; rw [if_pos hlt]
          · right
            rw [if_neg hlt]
            refine ⟨t.drop (cSize b), rfl, ?_, by show (0 : Int) ≤ _; omega, by show ((leN (t.take (cSize b)) : Nat) : Int) ≤ _; omega⟩
            show b :: t = refCnt (leN (t.take (cSize b))) ++ _
            rw [(refCnt_iff hc hl1).2 (by omega)]
            have e : (b :: t).take (1 + cSize b) = b :: t.take (cSize b) := by rw [Nat.add_comm]; rfl
            rw [e, List.cons_append, List.take_append_drop]
  · exact countR_app x most r hx.1 (by omega) hx.2

/-- One behind the other. -/
def eThen {α β : Type} (f : Ey → α × Ey) (g : Ey → β × Ey) (e : Ey) : (α × β) × Ey := (((f e).1, (g (f e).2).1), (g (f e).2).2)
theorem Fits.andThen {α β : Type} {f : Ey → α × Ey} {g : Ey → β × Ey} {ea : α → List UInt8} {eb : β → List UInt8} {ga : α → Prop} {gb : β → Prop} (hf : Fits f ea ga) (hg : Fits g eb gb) :
    Fits (eThen f g) (fun x => ea x.1 ++ eb x.2) (fun x => ga x.1 ∧ gb x.2) := by
  refine ⟨?_, fun s => ?_, fun x r hx => ?_⟩
  · show (g (f Ey.no).2).2 = _
    rw [hf.bad, hg.bad]
  · rcases hf.out s with h | ⟨r, h1, h2, h3⟩
    · left
      show (g (f (s, false)).2).2 = _
      rw [h, hg.bad]
    · rcases hg.out r with k | ⟨r2, k1, k2, k3⟩
      · left
        show (g (f (s, false)).2).2 = _
        rw [h1, k]
      · right
        refine ⟨r2, ?_, ?_, h3, ?_⟩
        · show (g (f (s, false)).2).2 = _
          rw [h1, k1]
        · show s = ea (f (s, false)).1 ++ eb (g (f (s, false)).2).1 ++ r2
          rw [h1, List.append_assoc, ← k2]; exact h2
        · show gb (g (f (s, false)).2).1
          rw [h1]; exact k3
  · have h1 := hf.inn x.1 (eb x.2 ++ r) hx.1
    have h2 := hg.inn x.2 r hx.2
    show (((f _).1, (g (f _).2).1), (g (f _).2).2) = _
    rw [List.append_assoc, h1, h2]

theorem Fits.map {α β : Type} {f : Ey → α × Ey} {ea : α → List UInt8} {ga : α → Prop} (hf : Fits f ea ga) (p : α → β) (q : β → α) (gb : β → Prop) (h1 : ∀ x, ga x → q (p x) = x ∧ gb (p x)) (h2 : ∀ y, gb y → p (q y) = y ∧ ga (q y)) :
    Fits (fun e => (p (f e).1, (f e).2)) (fun y => ea (q y)) gb := by
  refine ⟨hf.bad, fun s => ?_, fun y r hy => ?_⟩
  · rcases hf.out s with h | ⟨r, k1, k2, k3⟩
    · exact .inl h
    · refine .inr ⟨r, k1, ?_, (h1 _ k3).2⟩
      show s = ea (q (p (f (s, false)).1)) ++ r
      rw [(h1 _ k3).1]; exact k2
  · have := hf.inn (q y) r (h2 y hy).2
    show (p (f _).1, (f _).2) = _
    rw [this, (h2 y hy).1]

/-- The same reader, the same writer where it counts. -/
theorem Fits.like {α : Type} {f f' : Ey → α × Ey} {enc enc' : α → List UInt8} {good good' : α → Prop} (h : Fits f enc good) (hb : (f' Ey.no).2 = Ey.no) (hf : ∀ s, (f' (s, false)).2 = (f (s, false)).2 ∧ ((f (s, false)).2 ≠ Ey.no → (f' (s, false)).1 = (f (s, false)).1)) (he : ∀ x, good x → enc' x = enc x) (hg : ∀ x, good' x ↔ good x) : Fits f' enc' good' := by
  refine ⟨hb, fun s => ?_, fun x r hx => ?_⟩
  · rcases h.out s with k | ⟨r, k1, k2, k3⟩
    · left; rw [(hf s).1, k]
    · right
      have hn : (f (s, false)).2 ≠ Ey.no := by rw [k1]; intro hh; cases hh
      rw [(hf s).1, (hf s).2 hn]
      exact ⟨r, k1, by rw [he _ k3]; exact k2, (hg _).2 k3⟩
  · have hx' := (hg x).1 hx
    have k := h.inn x r hx'
    rw [← he x hx'] at k
    have hn : (f (enc' x ++ r, false)).2 ≠ Ey.no := by rw [k]; intro hh; cases hh
    have := hf (enc' x ++ r)
    rw [Prod.ext_iff]
    exact ⟨(this.2 hn).trans (by rw [k]), this.1.trans (by rw [k])⟩

/-- So many, one behind the other; where something is missed nothing. -/
def eTimes {α : Type} (get : Ey → α × Ey) : Nat → Ey → List α → List α × Ey
  | 0, e, out => (out, e)
  | n + 1, e, out => if (get e).2.2 then ([], (get e).2) else eTimes get n (get e).2 (out ++ [(get e).1])
def eSome {α : Type} (most : Int) (get : Ey → α × Ey) (e : Ey) : List α × Ey := eTimes get (eCount most e).1.toNat (eCount most e).2 []

theorem eTimes_out {α : Type} {get : Ey → α × Ey} {enc : α → List UInt8} {good : α → Prop} (h : Fits get enc good) : ∀ (n : Nat) (s : List UInt8) (o : List α), (eTimes get n (s, false) o).2 = Ey.no ∨ ∃ l r, eTimes get n (s, false) o = (o ++ l, (r, false)) ∧ l.length = n ∧ s = l.flatMap enc ++ r ∧ ∀ x ∈ l, good x
  | 0, s, o => .inr ⟨[], s, by simp [eTimes], rfl, by simp, by simp⟩
  | n + 1, s, o => by
    rcases h.out s with k | ⟨r, k1, k2, k3⟩
    · left
      simp only [eTimes, k, if_true]
    · rcases eTimes_out h n r (o ++ [(get (s, false)).1]) with j | ⟨l, r2, j1, j2, j3, j4⟩
      · left; simp only [eTimes, k1, Bool.false_eq_true, if_false]; exact j
      · right
        refine ⟨(get (s, false)).1 :: l, r2, ?_, by simp [j2], ?_, ?_⟩
        · simp only [eTimes, k1, Bool.false_eq_true, if_false]
          rw [j1]; simp
        · rw [List.flatMap_cons, List.append_assoc, ← j3]; exact k2
        · intro x hx
          rcases List.mem_cons.1 hx with rfl | hx
          · exact k3
          · exact j4 x hx
theorem eTimes_inn {α : Type} {get : Ey → α × Ey} {enc : α → List UInt8} {good : α → Prop} (h : Fits get enc good) : ∀ (l : List α) (r : List UInt8) (o : List α), (∀ x ∈ l, good x) → eTimes get l.length (l.flatMap enc ++ r, false) o = (o ++ l, (r, false))
  | [], r, o, _ => by simp [eTimes]
  | x :: l, r, o, hl => by
    have k := h.inn x (l.flatMap enc ++ r) (hl x List.mem_cons_self)
    have e : (x :: l).flatMap enc ++ r = enc x ++ (l.flatMap enc ++ r) := by simp
    rw [e]
    simp only [List.length_cons, eTimes, k, Bool.false_eq_true, if_false]
    rw [eTimes_inn h l r _ fun y hy => hl y (List.mem_cons_of_mem _ hy)]
    simp
theorem Fits.some {α : Type} {get : Ey → α × Ey} {enc : α → List UInt8} {good : α → Prop} {most : Int} (h0 : 0 ≤ most) (hm : most < 9223372036854775808) (h : Fits get enc good) :
    Fits (eSome most get) (fun l => refCnt l.length ++ l.flatMap enc) (fun l => (l.length : Int) ≤ most ∧ ∀ x ∈ l, good x) := by
  have hc := Fits.count h0 hm
  refine ⟨?_, fun s => ?_, fun l r hx => ?_⟩
  · unfold eSome
    rw [hc.bad]
    generalize (eCount most Ey.no).1.toNat = n
    cases n with
    | zero => rfl
    | succ n => simp only [eTimes, h.bad, if_true]
  · rcases hc.out s with k | ⟨r, k1, k2, k3, k4⟩
    · left
      unfold eSome
      rw [k]
      generalize (eCount most (s, false)).1.toNat = n
      cases n with
      | zero => rfl
      | succ n => simp only [eTimes, h.bad, if_true]
    · unfold eSome
      rw [k1]
      rcases eTimes_out h (eCount most (s, false)).1.toNat r [] with j | ⟨l, r2, j1, j2, j3, j4⟩
      · exact .inl j
      · right
        have e : ((l.length : Nat) : Int) = (eCount most (s, false)).1 := by rw [j2]; omega
        refine ⟨r2, by rw [j1], ?_, ?_⟩
        · rw [j1]
          show s = refCnt ((l.length : Nat) : Int) ++ l.flatMap enc ++ r2
          rw [e, List.append_assoc, ← j3]; exact k2
        · rw [j1]
          show ((l.length : Nat) : Int) ≤ most ∧ ∀ x ∈ l, good x
          rw [e]; exact ⟨k4, j4⟩
  · have k := hc.inn (l.length : Int) (l.flatMap enc ++ r) ⟨by omega, hx.1⟩
    unfold eSome
    show eTimes get (eCount most (refCnt l.length ++ l.flatMap enc ++ r, false)).1.toNat _ [] = _
    rw [List.append_assoc, k]
    have := eTimes_inn h l r [] hx.2
    simpa using this
end Go.Proofs.YtedkoebbijpnfaaGreatDoor

namespace Go.Proofs.YtedkoebbijpnfaaGreatDoor
open Go Go.Proofs.YtedkoebbijpnfaaGreatDoor.TH
set_option maxHeartbeats 1000000
theorem Rot_spec (x : W32) (n : Nat) (z : Int) (hz : z = -(n : Int)) (h0 : 0 < n) (h : n < 32) : CallL Tryz.prog 102 [wV x, .int .i64 z] [] (fun r Hs' => r = wV (rotr x n) ∧ Hs' = []) := by
  refine CallL.enter Tryz.func102 Tryz.ntmps102 rfl rfl rfl ?_
  subst hz
  have ha := rot_and n h0 h
  have hb : IntKind.u64.wrap (32 - (32 - (n : Int))) = n := by rw [wrap_u64_in (by omega)]; omega
  have hc : (32 : Int) - n = ((32 - n : Nat) : Int) := by omega
  refine EL.seq ?_
  refine EL.region (.p 0 (.nil)) (by kernel_rfl) ?_
  refine EPL.p rfl rfl (q_assign (v := .int _ _) rfl) ?_
  refine EPL.nil ?_
  refine EL.go ?_
  refine EL.seq ?_
  refine EL.region (.p 0 (.p 1 (.p 2 (.p 3 (.nil))))) (by kernel_rfl) ?_
  refine EPL.p rfl rfl (q_move (v := .int _ _) rfl) ?_
  refine EPL.p rfl rfl (q_conv Tryz.underlying3 Tryz.underlying68 rfl) ?_
  refine EPL.p rfl rfl (q_and rfl rfl) ?_
  refine EPL.p rfl rfl (q_assign (v := .int _ _) rfl) ?_
  refine EPL.nil ?_
  refine EL.go ?_
  refine EL.seq ?_
  refine EL.region (.p 0 (.p 1 (.p 2 (.p 3 (.p 4 (.p 5 (.p 6 (.p 7 (.p 8 (.nil)))))))))) (by kernel_rfl) ?_
  refine EPL.p rfl rfl (q_move (v := .int _ _) rfl) ?_
  refine EPL.p rfl rfl (q_move (v := .int _ _) rfl) ?_
  refine EPL.p rfl rfl (q_shl rfl rfl (by first | decide | omega | (rw [ha]; omega) | (rw [ha, hb]; omega) | (rw [wrap_i64_in (by omega)]; omega))) ?_
  refine EPL.p rfl rfl (q_move (v := .int _ _) rfl) ?_
  refine EPL.p rfl rfl (q_move (v := .int _ _) rfl) ?_
  refine EPL.p rfl rfl (q_sub rfl rfl) ?_
  refine EPL.p rfl rfl (q_shr rfl rfl (by first | decide | omega | (rw [ha]; omega) | (rw [ha, hb]; omega) | (rw [wrap_i64_in (by omega)]; omega))) ?_
  refine EPL.p rfl rfl (q_or rfl rfl) ?_
  refine EPL.p rfl rfl (q_assign (v := .int _ _) rfl) ?_
  refine EPL.nil ?_
  refine EL.go ?_
  refine EL.ret ?_
  exact end_ret (fun _ => rfl) (fun _ => ⟨congrArg (Value.int .u32) (by rw [ha, hb, hc, w_shl _ _ (by omega), w_shr _ _ (by omega), w_or, rotr_or _ _ h]), rfl⟩)


def turnW (x : W32) (ns : List Nat) : W32 := ns.foldl (fun o n => o ^^^ rotr x n) 0
theorem turnW_take (x : W32) {ns : List Nat} {i n : Nat} (h : ns[i]? = some n) : turnW x (ns.take (i + 1)) = turnW x (ns.take i) ^^^ rotr x n := by
  obtain ⟨hi, hx⟩ := List.getElem?_eq_some_iff.1 h
  rw [List.take_succ_eq_append_getElem hi, hx]; simp [turnW]
abbrev RdI (la : Option Addr) (lc : Nat) (ns : List Nat) (I : Hp) : Prop := RdS 1 (.slice la ns.length lc) ns.length (ns.flatMap fun n : Nat => [Value.int .i64 (n : Int)]) I

theorem Turn_spec (x : W32) (la : Option Addr) (lc : Nat) (ns : List Nat) (I : Hp) (hn : ∀ n ∈ ns, 0 < n ∧ n < 32) (hI : RdI la lc ns I) : CallL Tryz.prog 97 [wV x, .slice la ns.length lc] [I] (fun r Hs' => r = wV (turnW x ns) ∧ Hs' = [I]) := by
  refine CallL.enter Tryz.func97 Tryz.ntmps97 rfl rfl rfl ?_
  refine EL.seq ?_
  refine EL.region (.p 0 (.nil)) (by kernel_rfl) ?_
  refine EPL.p rfl rfl (q_assign (v := .int _ _) rfl) ?_
  refine EPL.nil ?_
  refine EL.go ?_
  refine EL.seq ?_
  refine EL.region (.p 0 (.nil)) (by kernel_rfl) ?_
  refine EPL.p rfl rfl (q_assign (v := .int _ _) rfl) ?_
  refine EPL.nil ?_
  refine EL.go ?_
  refine EL.seq ?_
  refine EL.seq ?_
  refine EL.region (.p 0 (.p 1 (.p 2 (.nil)))) (by kernel_rfl) ?_
  refine EPL.p rfl rfl (q_move (v := .slice _ _ _) rfl) ?_
  refine EPL.p rfl rfl (q_lenSl Tryz.underlying82 rfl) ?_
  refine EPL.p rfl rfl (q_move (v := .int _ _) rfl) ?_
  refine EPL.nil ?_
  refine EL.go ?_
  refine EL.block ?_
  refine EL.loop [5, 7, 10, 11, 12, 13, 14, 15, 16, 17, 18, 19, 20] (fun i : Nat => [(5, wV (turnW x (ns.take i))), (10, .int .i64 i)]) (fun m i Hs' => m + i = ns.length ∧ Hs' = [I]) ns.length 0 ⟨by omega, rfl⟩ ⟨rfl, rfl, trivial⟩ ?_
  rintro m i _ j ⟨hm, rfl⟩
  have hmx := hI.max
  refine EL.seq ?_
  refine EL.region (.p 0 (.nil)) (by kernel_rfl) ?_
  refine EPL.p rfl rfl (q_lss rfl rfl) ?_
  refine EPL.nil ?_
  refine EL.go ?_
  refine EL.seq ?_
  refine EL.cond rfl (fun c1 => ?_) (fun c1 => ?_)
  ·
    have c1 := of_decide_eq_true c1
    obtain ⟨n, hx⟩ : ∃ n, ns[i]? = some n := ⟨_, List.getElem?_eq_getElem (by omega)⟩
    have hn2 := hn n (List.mem_of_getElem? hx)
    obtain ⟨b, off, cap, cc, ety, fr, he, hbI, hc1⟩ := hI.get1 (f := fun n : Nat => Value.int .i64 (n : Int)) hx
    obtain ⟨rfl, rfl⟩ : la = some ⟨b, off, none⟩ ∧ lc = cap := by simpa using he
    refine EL.skip ?_
    refine EL.go ?_
    refine EL.seq ?_
    refine EL.block ?_
    refine EL.seq ?_
    refine EL.region (.p 0 (.l 1 (.p 2 (.nil)))) (by kernel_rfl) ?_
    refine EPL.p rfl rfl (q_idxSl Tryz.underlying82 sz3 rfl rfl (by omega) (by omega)) ?_
    refine EPL.ld1P (v := .int _ _) rfl rfl sc3 rfl hbI (by rw [Nat.mul_one]; exact hc1) ?_
    refine EPL.p rfl rfl (q_assign (v := .int _ _) rfl) ?_
    refine EPL.nil ?_
    refine EL.go ?_
    refine EL.region (.p 0 (.p 1 (.p 2 (.p 3 (.x 4 [] (.p 5 (.p 6 (.nil)))))))) (by kernel_rfl) ?_
    refine EPL.p rfl rfl (q_move (v := .int _ _) rfl) ?_
    refine EPL.p rfl rfl (q_move (v := .int _ _) rfl) ?_
    refine EPL.p rfl rfl (q_move (v := .int _ _) rfl) ?_
    refine EPL.p rfl rfl (q_neg rfl) ?_
    refine EPL.cl rfl rfl Tryz.func102 rfl rfl (Rot_spec x n (IntKind.i64.wrap (0 - (n : Int))) (by rw [wrap_i64_in (by omega)]; omega) hn2.1 hn2.2) rfl ?_
    rintro _ _ ⟨rfl, rfl⟩
    refine ⟨HeldL.nil, ?_⟩
    refine EPL.p rfl rfl (q_xor rfl rfl) ?_
    refine EPL.p rfl rfl (q_assign (v := .int _ _) rfl) ?_
    refine EPL.nil ?_
    refine EL.go ?_
    refine EL.region (.p 0 (.p 1 (.nil))) (by kernel_rfl) ?_
    refine EPL.p rfl rfl (q_add rfl rfl) ?_
    refine EPL.p rfl rfl (q_move (v := .int _ _) rfl) ?_
    refine EPL.nil ?_
    refine RoundQ.mk (m - 1) (i + 1) (by omega) ⟨by omega, rfl⟩ (by repeat first | refine Off.upd rfl ?_ | exact Off.mix | refine Off.upds rfl ?_ | refine Off.mixs rfl ?_ | exact Off.refl) ⟨congrArg (Value.int .u32) (by rw [w_xor, turnW_take x hx]), congrArg (Value.int .i64) (wrap_i64_in (by omega)), trivial⟩
  ·
    have c1 := of_decide_eq_false c1
    have ht : ns.take i = ns := List.take_of_length_le (by omega)
    rw [ht]
    refine EL.exit ?_
    refine EL.go ?_
    refine EL.seq ?_
    refine EL.region (.p 0 (.p 1 (.nil))) (by kernel_rfl) ?_
    refine EPL.p rfl rfl (q_move (v := .int _ _) rfl) ?_
    refine EPL.p rfl rfl (q_assign (v := .int _ _) rfl) ?_
    refine EPL.nil ?_
    refine EL.go ?_
    refine EL.ret ?_
    exact end_ret (fun _ => rfl) (fun _ => ⟨rfl, rfl⟩)

end Go.Proofs.YtedkoebbijpnfaaGreatDoor

namespace Go.Proofs.YtedkoebbijpnfaaGreatDoor
open Go Go.Proofs.YtedkoebbijpnfaaGreatDoor.TH
set_option maxHeartbeats 1000000

/-- An array of words, of which so many stand there, the rest noughts. -/
abbrev WArr (l : List W32) : Obj := .cells ((l ++ List.replicate (64 - l.length) 0).map wV).toArray 103 (0, 0)
abbrev SArr (s : St) : Obj := .cells (s.list.map wV).toArray 102 (0, 0)
abbrev HasherL (l : List W32) (v : Value) (n : Int) : Obj := .cells (l.map wV ++ [v, .int .u64 n]).toArray 129 (0, 0)
abbrev HasherB (s : St) (v : Value) (n : Int) : Obj := HasherL s.list v n
theorem wArr_get {l : List W32} {i : Nat} {x : W32} (h : l[i]? = some x) : ((l ++ List.replicate (64 - l.length) 0).map wV).toArray[i]? = some (wV x) := by
  obtain ⟨hi, hx⟩ := List.getElem?_eq_some_iff.1 h
  simp only [List.getElem?_toArray, List.getElem?_map]
  rw [List.getElem?_append_left hi, h]
  rfl
theorem wArr_set {l : List W32} {x : W32} (h : l.length < 64) : setL ((l ++ List.replicate (64 - l.length) 0).map wV).toArray l.length [wV x] = (((l ++ [x]) ++ List.replicate (64 - (l ++ [x]).length) 0).map wV).toArray := by
  apply Array.ext'
  rw [setL_toList (by simp; omega)]
  have e : 64 - l.length = (63 - l.length) + 1 := by omega
  have e2 : 64 - (l ++ [x]).length = 63 - l.length := by rw [List.length_append, List.length_singleton]; omega
  rw [e, e2, List.replicate_succ]
  have hd : List.drop (l.length + 1) (List.map wV l ++ wV 0#32 :: List.replicate (63 - l.length) (wV 0#32)) = List.replicate (63 - l.length) (wV 0#32) := by
    rw [List.drop_append]
    simp
  simp [List.map_append]
  exact hd
theorem wArr_size {l : List W32} (h : l.length ≤ 64) : ((l ++ List.replicate (64 - l.length) 0).map wV).toArray.size = 64 := by simp; omega
theorem be_or (a b c d : UInt8) : ((((BitVec.ofNat 32 a.toNat) <<< 24 ||| (BitVec.ofNat 32 b.toNat) <<< 16) ||| (BitVec.ofNat 32 c.toNat) <<< 8) ||| BitVec.ofNat 32 d.toNat) = beW [a, b, c, d] := by
  apply BitVec.eq_of_toNat_eq
  have ha := a.toNat_lt; have hb := b.toNat_lt; have hc := c.toNat_lt; have hd := d.toNat_lt
  simp only [BitVec.toNat_or, BitVec.toNat_shiftLeft, BitVec.toNat_ofNat, Nat.shiftLeft_eq, beW, List.getD_cons_zero, List.getD_cons_succ]
  rw [Nat.mod_eq_of_lt (show a.toNat < 2 ^ 32 by omega), Nat.mod_eq_of_lt (show b.toNat < 2 ^ 32 by omega), Nat.mod_eq_of_lt (show c.toNat < 2 ^ 32 by omega), Nat.mod_eq_of_lt (show d.toNat < 2 ^ 32 by omega)]
  rw [Nat.mod_eq_of_lt (show a.toNat * 2 ^ 24 < 2 ^ 32 by omega), Nat.mod_eq_of_lt (show b.toNat * 2 ^ 16 < 2 ^ 32 by omega), Nat.mod_eq_of_lt (show c.toNat * 2 ^ 8 < 2 ^ 32 by omega)]
  have h1 : a.toNat * 2 ^ 24 ||| b.toNat * 2 ^ 16 = b.toNat * 2 ^ 16 + a.toNat * 2 ^ 24 := by rw [Nat.or_comm]; exact or_low _ _ _ (by omega)
  have h2 : (b.toNat * 2 ^ 16 + a.toNat * 2 ^ 24) ||| c.toNat * 2 ^ 8 = c.toNat * 2 ^ 8 + (b.toNat + a.toNat * 2 ^ 8) * 2 ^ 16 := by
    have e : b.toNat * 2 ^ 16 + a.toNat * 2 ^ 24 = (b.toNat + a.toNat * 2 ^ 8) * 2 ^ 16 := by omega
    rw [e, Nat.or_comm]; exact or_low _ _ _ (by omega)
  have h3 : (c.toNat * 2 ^ 8 + (b.toNat + a.toNat * 2 ^ 8) * 2 ^ 16) ||| d.toNat = d.toNat + (c.toNat + (b.toNat + a.toNat * 2 ^ 8) * 2 ^ 8) * 2 ^ 8 := by
    have e : c.toNat * 2 ^ 8 + (b.toNat + a.toNat * 2 ^ 8) * 2 ^ 16 = (c.toNat + (b.toNat + a.toNat * 2 ^ 8) * 2 ^ 8) * 2 ^ 8 := by omega
    rw [e, Nat.or_comm]; exact or_low _ _ _ (by omega)
  rw [h1, h2, h3, Nat.mod_eq_of_lt (by omega)]
  omega


theorem words_take {l : List UInt8} {i : Nat} {x0 x1 x2 x3 : UInt8} (hi : i < 16) (h0 : l[4 * i]? = some x0) (h1 : l[4 * i + 1]? = some x1) (h2 : l[4 * i + 2]? = some x2) (h3 : l[4 * i + 3]? = some x3) :
    (wordsOf l).take (i + 1) = (wordsOf l).take i ++ [beW [x0, x1, x2, x3]] := by
  have hlen : i < (wordsOf l).length := by simp [wordsOf]; exact hi
  rw [List.take_succ_eq_append_getElem hlen]
  congr 2
  have e : (l.drop (4 * i)).take 4 = [x0, x1, x2, x3] := by
    apply List.ext_getElem?
    intro j
    by_cases hj : j < 4
    · rw [List.getElem?_take_of_lt hj, List.getElem?_drop]
      match j, hj with
      | 0, _ => exact h0
      | 1, _ => exact h1
      | 2, _ => exact h2
      | 3, _ => exact h3
    · rw [List.getElem?_eq_none (by simp; omega), List.getElem?_eq_none (by simp; omega)]
  simp [wordsOf, e]
theorem sched_next (b : List W32) (h : b.length = 16) {k : Nat} {a16 a15 a7 a2 : W32} (h16 : (sched b k)[k]? = some a16) (h15 : (sched b k)[k + 1]? = some a15) (h7 : (sched b k)[k + 9]? = some a7) (h2 : (sched b k)[k + 14]? = some a2) :
    sched b (k + 1) = sched b k ++ [a16 + ssig0 a15 + a7 + ssig1 a2] := by
  show sched b k ++ [nextW (sched b k)] = _
  have hl := sched_len b k
  congr 2
  unfold nextW
  rw [hl, h]
  have e1 : 16 + k - 16 = k := by omega
  have e2 : 16 + k - 15 = k + 1 := by omega
  have e3 : 16 + k - 7 = k + 9 := by omega
  have e4 : 16 + k - 2 = k + 14 := by omega
  rw [e1, e2, e3, e4]
  simp [List.getD_eq_getElem?_getD, h16, h15, h7, h2]
theorem turn2 (x : W32) (a b : Nat) : turnW x [a, b] = rotr x a ^^^ rotr x b := by
  show (0 ^^^ rotr x a) ^^^ rotr x b = _
  rw [show (0 : W32) ^^^ rotr x a = rotr x a from BitVec.zero_xor]
theorem mix_get {A B : List W32} {i : Nat} {x : W32} (h : B[i]? = some x) (hl : A.length = B.length) (rest : List Value) : (((A.take i ++ B.drop i).map wV ++ rest).toArray)[i]? = some (wV x) := by
  obtain ⟨hi, hx⟩ := List.getElem?_eq_some_iff.1 h
  have e : (A.take i ++ B.drop i)[i]? = some x := by
    rw [List.getElem?_append_right (by simp; omega), List.length_take, Nat.min_eq_left (by omega), Nat.sub_self, List.getElem?_drop]
    exact h
  rw [List.getElem?_toArray, List.getElem?_append_left (by simp; omega), List.getElem?_map, e]
  rfl
theorem mix_set {A B : List W32} {i : Nat} {y : W32} (h : A[i]? = some y) (hl : A.length = B.length) (rest : List Value) : setL (((A.take i ++ B.drop i).map wV ++ rest).toArray) i [wV y] = ((A.take (i + 1) ++ B.drop (i + 1)).map wV ++ rest).toArray := by
  obtain ⟨hi, hx⟩ := List.getElem?_eq_some_iff.1 h
  apply Array.ext'
  rw [setL_toList (by simp; omega)]
  have e : ((A.take i ++ B.drop i).map wV ++ rest) = (A.take i).map wV ++ (wV B[i] :: ((B.drop (i + 1)).map wV ++ rest)) := by
    rw [List.drop_eq_getElem_cons (show i < B.length by omega), List.map_append, List.map_cons, List.append_assoc, List.cons_append]
  have hA : ((A.take i).map wV).length = i := by simp; omega
  simp only [List.length_singleton]
  have e1 : (((A.take i ++ B.drop i).map wV ++ rest)).take i = (A.take i).map wV := by
    rw [e]
    have := List.take_left (l₁ := (A.take i).map wV) (l₂ := wV B[i] :: ((B.drop (i + 1)).map wV ++ rest))
    rwa [hA] at this
  have e2 : (((A.take i ++ B.drop i).map wV ++ rest)).drop (i + 1) = (B.drop (i + 1)).map wV ++ rest := by
    rw [e, List.drop_append, hA, List.drop_of_length_le (by omega), Nat.add_sub_cancel_left]
    rfl
  rw [e1, e2, List.take_succ_eq_append_getElem hi, hx]
  simp
theorem add_get {s q : St} {i : Nat} {x y : W32} (hx : s.list[i]? = some x) (hy : q.list[i]? = some y) : (s.add q).list[i]? = some (x + y) := by
  have e : (s.add q).list = List.zipWith (· + ·) s.list q.list := rfl
  rw [e, List.getElem?_zipWith, hx, hy]
theorem rdI2 (b x y : Nat) : RdI (some ⟨b, 0, none⟩) 2 [x, y] (sg b (.cells #[.int .i64 x, .int .i64 y] 3 (0, 0))) := ⟨rfl, by show (2 : Nat) ≤ _; omega, .inr ⟨b, 0, 2, _, _, _, rfl, sg_self, by show 0 + 2 * 1 ≤ 2; omega, rfl⟩⟩
theorem rdI3 (b x y z : Nat) : RdI (some ⟨b, 0, none⟩) 3 [x, y, z] (sg b (.cells #[.int .i64 x, .int .i64 y, .int .i64 z] 3 (0, 0))) := ⟨rfl, by show (3 : Nat) ≤ _; omega, .inr ⟨b, 0, 3, _, _, _, rfl, sg_self, by show 0 + 3 * 1 ≤ 3; omega, rfl⟩⟩
theorem turn3 (x : W32) (a b c : Nat) : turnW x [a, b, c] = rotr x a ^^^ rotr x b ^^^ rotr x c := by
  show ((0 ^^^ rotr x a) ^^^ rotr x b) ^^^ rotr x c = _
  rw [show (0 : W32) ^^^ rotr x a = rotr x a from BitVec.zero_xor]

end Go.Proofs.YtedkoebbijpnfaaGreatDoor
