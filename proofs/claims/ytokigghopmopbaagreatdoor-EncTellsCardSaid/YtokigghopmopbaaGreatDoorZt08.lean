/- Parts of the proof: Ty, Fo, Sa, Sth, HiDf, HiDg, HiDh. -/
import Derived.Test.YtokigghopmopbaaGreatDoorZt05
import Derived.Test.YtokigghopmopbaaGreatDoorProg
import Derived.Test.YtokigghopmopbaaGreatDoorZt07
import Derived.Test.YtokigghopmopbaaGreatDoorZt06
set_option linter.unusedSectionVars false
set_option linter.unusedVariables false
set_option linter.unusedSimpArgs false
namespace Go.Proofs.YtokigghopmopbaaGreatDoor
open Go.RowKit
set_option maxRecDepth 8000
abbrev I1 : TI := ⟨10, 1, 8, some .nilFunc, [], 0, 0⟩
theorem ti1 : ti Tryz.prog 1 = some I1 := by kernel_rfl
theorem zc1 : zcells I1 = some [.v .nilFunc] := by kernel_rfl
abbrev I2 : TI := ⟨8, 1, 8, some (.int .i64 0), [], 0, 0⟩
theorem ti2 : ti Tryz.prog 2 = some I2 := by kernel_rfl
theorem zc2 : zcells I2 = some [.v (.int .i64 0)] := by kernel_rfl
theorem it2 : intTy Tryz.prog 2 = some .i64 := by kernel_rfl
abbrev I3 : TI := ⟨8, 1, 8, some (.int .i64 0), [], 0, 0⟩
theorem ti3 : ti Tryz.prog 3 = some I3 := by kernel_rfl
theorem zc3 : zcells I3 = some [.v (.int .i64 0)] := by kernel_rfl
theorem it3 : intTy Tryz.prog 3 = some .i64 := by kernel_rfl
abbrev I4 : TI := ⟨7, 1, 1, some (.bool false), [], 0, 0⟩
theorem ti4 : ti Tryz.prog 4 = some I4 := by kernel_rfl
theorem zc4 : zcells I4 = some [.v (.bool false)] := by kernel_rfl
theorem ki4 : kindIs Tryz.prog 4 7 = true := by kernel_rfl
abbrev I5 : TI := ⟨8, 1, 1, some (.int .u8 0), [], 0, 0⟩
theorem ti5 : ti Tryz.prog 5 = some I5 := by kernel_rfl
theorem zc5 : zcells I5 = some [.v (.int .u8 0)] := by kernel_rfl
theorem it5 : intTy Tryz.prog 5 = some .u8 := by kernel_rfl
abbrev I6 : TI := ⟨8, 1, 1, some (.int .u8 0), [], 0, 0⟩
theorem ti6 : ti Tryz.prog 6 = some I6 := by kernel_rfl
theorem zc6 : zcells I6 = some [.v (.int .u8 0)] := by kernel_rfl
theorem it6 : intTy Tryz.prog 6 = some .u8 := by kernel_rfl
abbrev I7 : TI := ⟨1, 4, 24, some (.agg #[(.int .i64 0), (.int .i64 0), (.bool false), (.int .u8 0)]), [(0, 2), (1, 3), (2, 4), (3, 6)], 0, 0⟩
theorem ti7 : ti Tryz.prog 7 = some I7 := by kernel_rfl
theorem zc7 : zcells I7 = some [.v (.int .i64 0), .v (.int .i64 0), .v (.bool false), .v (.int .u8 0)] := by kernel_rfl
abbrev I8 : TI := ⟨1, 4, 24, some (.agg #[(.int .i64 0), (.int .i64 0), (.bool false), (.int .u8 0)]), [(0, 2), (1, 3), (2, 4), (3, 6)], 0, 0⟩
theorem ti8 : ti Tryz.prog 8 = some I8 := by kernel_rfl
theorem zc8 : zcells I8 = some [.v (.int .i64 0), .v (.int .i64 0), .v (.bool false), .v (.int .u8 0)] := by kernel_rfl
abbrev I9 : TI := ⟨4, 1, 16, some (str []), [], 0, 0⟩
theorem ti9 : ti Tryz.prog 9 = some I9 := by kernel_rfl
theorem zc9 : zcells I9 = some [.v (str [])] := by kernel_rfl
theorem ki9 : kindIs Tryz.prog 9 4 = true := by kernel_rfl
theorem kn9 : kindIs Tryz.prog 9 3 = false := by kernel_rfl
abbrev I10 : TI := ⟨4, 1, 16, some (str []), [], 0, 0⟩
theorem ti10 : ti Tryz.prog 10 = some I10 := by kernel_rfl
theorem zc10 : zcells I10 = some [.v (str [])] := by kernel_rfl
theorem ki10 : kindIs Tryz.prog 10 4 = true := by kernel_rfl
theorem kn10 : kindIs Tryz.prog 10 3 = false := by kernel_rfl
abbrev I11 : TI := ⟨4, 1, 16, some (str []), [], 0, 0⟩
theorem ti11 : ti Tryz.prog 11 = some I11 := by kernel_rfl
theorem zc11 : zcells I11 = some [.v (str [])] := by kernel_rfl
theorem ki11 : kindIs Tryz.prog 11 4 = true := by kernel_rfl
theorem kn11 : kindIs Tryz.prog 11 3 = false := by kernel_rfl
abbrev I12 : TI := ⟨8, 1, 8, some (.int .u64 0), [], 0, 0⟩
theorem ti12 : ti Tryz.prog 12 = some I12 := by kernel_rfl
theorem zc12 : zcells I12 = some [.v (.int .u64 0)] := by kernel_rfl
theorem it12 : intTy Tryz.prog 12 = some .u64 := by kernel_rfl
abbrev I13 : TI := ⟨1, 2, 24, some (.agg #[(str []), (.int .u64 0)]), [(0, 9), (1, 12)], 0, 0⟩
theorem ti13 : ti Tryz.prog 13 = some I13 := by kernel_rfl
theorem zc13 : zcells I13 = some [.v (str []), .v (.int .u64 0)] := by kernel_rfl
abbrev I14 : TI := ⟨1, 2, 24, some (.agg #[(str []), (.int .u64 0)]), [(0, 9), (1, 12)], 0, 0⟩
theorem ti14 : ti Tryz.prog 14 = some I14 := by kernel_rfl
theorem zc14 : zcells I14 = some [.v (str []), .v (.int .u64 0)] := by kernel_rfl
abbrev I15 : TI := ⟨6, 1, 8, some (.pointer none), [], 145, 0⟩
theorem ti15 : ti Tryz.prog 15 = some I15 := by kernel_rfl
theorem zc15 : zcells I15 = some [.v (.pointer none)] := by kernel_rfl
abbrev I16 : TI := ⟨6, 1, 8, some (.pointer none), [], 148, 0⟩
theorem ti16 : ti Tryz.prog 16 = some I16 := by kernel_rfl
theorem zc16 : zcells I16 = some [.v (.pointer none)] := by kernel_rfl
abbrev I17 : TI := ⟨6, 1, 8, some (.pointer none), [], 155, 0⟩
theorem ti17 : ti Tryz.prog 17 = some I17 := by kernel_rfl
theorem zc17 : zcells I17 = some [.v (.pointer none)] := by kernel_rfl
abbrev I18 : TI := ⟨1, 1, 8, some (.agg #[(.pointer none)]), [(0, 17)], 0, 0⟩
theorem ti18 : ti Tryz.prog 18 = some I18 := by kernel_rfl
theorem zc18 : zcells I18 = some [.v (.pointer none)] := by kernel_rfl
abbrev I19 : TI := ⟨1, 1, 8, some (.agg #[(.pointer none)]), [(0, 17)], 0, 0⟩
theorem ti19 : ti Tryz.prog 19 = some I19 := by kernel_rfl
theorem zc19 : zcells I19 = some [.v (.pointer none)] := by kernel_rfl
abbrev I20 : TI := ⟨9, 1, 16, some .nilIface, [], 0, 0⟩
theorem ti20 : ti Tryz.prog 20 = some I20 := by kernel_rfl
theorem zc20 : zcells I20 = some [.v .nilIface] := by kernel_rfl
theorem ki20 : kindIs Tryz.prog 20 9 = true := by kernel_rfl
abbrev I21 : TI := ⟨8, 1, 4, some (.int .i32 0), [], 0, 0⟩
theorem ti21 : ti Tryz.prog 21 = some I21 := by kernel_rfl
theorem zc21 : zcells I21 = some [.v (.int .i32 0)] := by kernel_rfl
theorem it21 : intTy Tryz.prog 21 = some .i32 := by kernel_rfl
abbrev I22 : TI := ⟨3, 1, 24, some (.slice none 0 0), [], 3, 0⟩
theorem ti22 : ti Tryz.prog 22 = some I22 := by kernel_rfl
theorem zc22 : zcells I22 = some [.v (.slice none 0 0)] := by kernel_rfl
theorem ki22 : kindIs Tryz.prog 22 3 = true := by kernel_rfl
abbrev I23 : TI := ⟨3, 1, 24, some (.slice none 0 0), [], 40, 0⟩
theorem ti23 : ti Tryz.prog 23 = some I23 := by kernel_rfl
theorem zc23 : zcells I23 = some [.v (.slice none 0 0)] := by kernel_rfl
theorem ki23 : kindIs Tryz.prog 23 3 = true := by kernel_rfl
abbrev I24 : TI := ⟨1, 2, 48, some (.agg #[(.slice none 0 0), (.slice none 0 0)]), [(0, 22), (1, 23)], 0, 0⟩
theorem ti24 : ti Tryz.prog 24 = some I24 := by kernel_rfl
theorem zc24 : zcells I24 = some [.v (.slice none 0 0), .v (.slice none 0 0)] := by kernel_rfl
abbrev I25 : TI := ⟨1, 2, 48, some (.agg #[(.slice none 0 0), (.slice none 0 0)]), [(0, 22), (1, 23)], 0, 0⟩
theorem ti25 : ti Tryz.prog 25 = some I25 := by kernel_rfl
theorem zc25 : zcells I25 = some [.v (.slice none 0 0), .v (.slice none 0 0)] := by kernel_rfl
abbrev I26 : TI := ⟨10, 1, 8, some .nilFunc, [], 0, 0⟩
theorem ti26 : ti Tryz.prog 26 = some I26 := by kernel_rfl
theorem zc26 : zcells I26 = some [.v .nilFunc] := by kernel_rfl
abbrev I27 : TI := ⟨10, 1, 8, some .nilFunc, [], 0, 0⟩
theorem ti27 : ti Tryz.prog 27 = some I27 := by kernel_rfl
theorem zc27 : zcells I27 = some [.v .nilFunc] := by kernel_rfl
abbrev I29 : TI := ⟨10, 1, 8, some .nilFunc, [], 0, 0⟩
theorem ti29 : ti Tryz.prog 29 = some I29 := by kernel_rfl
theorem zc29 : zcells I29 = some [.v .nilFunc] := by kernel_rfl
abbrev I30 : TI := ⟨10, 1, 8, some .nilFunc, [], 0, 0⟩
theorem ti30 : ti Tryz.prog 30 = some I30 := by kernel_rfl
theorem zc30 : zcells I30 = some [.v .nilFunc] := by kernel_rfl
abbrev I31 : TI := ⟨10, 1, 8, some .nilFunc, [], 0, 0⟩
theorem ti31 : ti Tryz.prog 31 = some I31 := by kernel_rfl
theorem zc31 : zcells I31 = some [.v .nilFunc] := by kernel_rfl
abbrev I32 : TI := ⟨10, 1, 8, some .nilFunc, [], 0, 0⟩
theorem ti32 : ti Tryz.prog 32 = some I32 := by kernel_rfl
theorem zc32 : zcells I32 = some [.v .nilFunc] := by kernel_rfl
abbrev I33 : TI := ⟨10, 1, 8, some .nilFunc, [], 0, 0⟩
theorem ti33 : ti Tryz.prog 33 = some I33 := by kernel_rfl
theorem zc33 : zcells I33 = some [.v .nilFunc] := by kernel_rfl
abbrev I34 : TI := ⟨10, 1, 8, some .nilFunc, [], 0, 0⟩
theorem ti34 : ti Tryz.prog 34 = some I34 := by kernel_rfl
theorem zc34 : zcells I34 = some [.v .nilFunc] := by kernel_rfl
abbrev I35 : TI := ⟨10, 1, 8, some .nilFunc, [], 0, 0⟩
theorem ti35 : ti Tryz.prog 35 = some I35 := by kernel_rfl
theorem zc35 : zcells I35 = some [.v .nilFunc] := by kernel_rfl
abbrev I36 : TI := ⟨1, 2, 16, some (.agg #[(.int .i64 0), (.int .i64 0)]), [(0, 3), (1, 3)], 0, 0⟩
theorem ti36 : ti Tryz.prog 36 = some I36 := by kernel_rfl
theorem zc36 : zcells I36 = some [.v (.int .i64 0), .v (.int .i64 0)] := by kernel_rfl
abbrev I37 : TI := ⟨1, 2, 16, some (.agg #[(.int .i64 0), (.int .i64 0)]), [(0, 3), (1, 3)], 0, 0⟩
theorem ti37 : ti Tryz.prog 37 = some I37 := by kernel_rfl
theorem zc37 : zcells I37 = some [.v (.int .i64 0), .v (.int .i64 0)] := by kernel_rfl
abbrev I38 : TI := ⟨3, 1, 24, some (.slice none 0 0), [], 37, 0⟩
theorem ti38 : ti Tryz.prog 38 = some I38 := by kernel_rfl
theorem zc38 : zcells I38 = some [.v (.slice none 0 0)] := by kernel_rfl
theorem ki38 : kindIs Tryz.prog 38 3 = true := by kernel_rfl
abbrev I39 : TI := ⟨1, 4, 64, some (.agg #[(.int .i64 0), (.slice none 0 0), (.bool false), (.slice none 0 0)]), [(0, 3), (1, 22), (2, 4), (3, 38)], 0, 0⟩
theorem ti39 : ti Tryz.prog 39 = some I39 := by kernel_rfl
theorem zc39 : zcells I39 = some [.v (.int .i64 0), .v (.slice none 0 0), .v (.bool false), .v (.slice none 0 0)] := by kernel_rfl
abbrev I40 : TI := ⟨1, 4, 64, some (.agg #[(.int .i64 0), (.slice none 0 0), (.bool false), (.slice none 0 0)]), [(0, 3), (1, 22), (2, 4), (3, 38)], 0, 0⟩
theorem ti40 : ti Tryz.prog 40 = some I40 := by kernel_rfl
theorem zc40 : zcells I40 = some [.v (.int .i64 0), .v (.slice none 0 0), .v (.bool false), .v (.slice none 0 0)] := by kernel_rfl
abbrev I41 : TI := ⟨6, 1, 8, some (.pointer none), [], 45, 0⟩
theorem ti41 : ti Tryz.prog 41 = some I41 := by kernel_rfl
theorem zc41 : zcells I41 = some [.v (.pointer none)] := by kernel_rfl
abbrev I42 : TI := ⟨9, 1, 16, some .nilIface, [], 0, 0⟩
theorem ti42 : ti Tryz.prog 42 = some I42 := by kernel_rfl
theorem zc42 : zcells I42 = some [.v .nilIface] := by kernel_rfl
theorem ki42 : kindIs Tryz.prog 42 9 = true := by kernel_rfl
abbrev I43 : TI := ⟨9, 1, 16, some .nilIface, [], 0, 0⟩
theorem ti43 : ti Tryz.prog 43 = some I43 := by kernel_rfl
theorem zc43 : zcells I43 = some [.v .nilIface] := by kernel_rfl
theorem ki43 : kindIs Tryz.prog 43 9 = true := by kernel_rfl
abbrev I44 : TI := ⟨1, 2, 40, some (.agg #[(.slice none 0 0), .nilIface]), [(0, 22), (1, 43)], 0, 0⟩
theorem ti44 : ti Tryz.prog 44 = some I44 := by kernel_rfl
theorem zc44 : zcells I44 = some [.v (.slice none 0 0), .v .nilIface] := by kernel_rfl
abbrev I45 : TI := ⟨1, 2, 40, some (.agg #[(.slice none 0 0), .nilIface]), [(0, 22), (1, 43)], 0, 0⟩
theorem ti45 : ti Tryz.prog 45 = some I45 := by kernel_rfl
theorem zc45 : zcells I45 = some [.v (.slice none 0 0), .v .nilIface] := by kernel_rfl
abbrev I46 : TI := ⟨10, 1, 8, some .nilFunc, [], 0, 0⟩
theorem ti46 : ti Tryz.prog 46 = some I46 := by kernel_rfl
theorem zc46 : zcells I46 = some [.v .nilFunc] := by kernel_rfl
abbrev I47 : TI := ⟨10, 1, 8, some .nilFunc, [], 0, 0⟩
theorem ti47 : ti Tryz.prog 47 = some I47 := by kernel_rfl
theorem zc47 : zcells I47 = some [.v .nilFunc] := by kernel_rfl
abbrev I48 : TI := ⟨10, 1, 8, some .nilFunc, [], 0, 0⟩
theorem ti48 : ti Tryz.prog 48 = some I48 := by kernel_rfl
theorem zc48 : zcells I48 = some [.v .nilFunc] := by kernel_rfl
abbrev I49 : TI := ⟨10, 1, 8, some .nilFunc, [], 0, 0⟩
theorem ti49 : ti Tryz.prog 49 = some I49 := by kernel_rfl
theorem zc49 : zcells I49 = some [.v .nilFunc] := by kernel_rfl
abbrev I50 : TI := ⟨10, 1, 8, some .nilFunc, [], 0, 0⟩
theorem ti50 : ti Tryz.prog 50 = some I50 := by kernel_rfl
theorem zc50 : zcells I50 = some [.v .nilFunc] := by kernel_rfl
abbrev I51 : TI := ⟨6, 1, 8, some (.pointer none), [], 53, 0⟩
theorem ti51 : ti Tryz.prog 51 = some I51 := by kernel_rfl
theorem zc51 : zcells I51 = some [.v (.pointer none)] := by kernel_rfl
abbrev I52 : TI := ⟨1, 3, 40, some (.agg #[(.slice none 0 0), (.int .i64 0), (.bool false)]), [(0, 22), (1, 3), (2, 4)], 0, 0⟩
theorem ti52 : ti Tryz.prog 52 = some I52 := by kernel_rfl
theorem zc52 : zcells I52 = some [.v (.slice none 0 0), .v (.int .i64 0), .v (.bool false)] := by kernel_rfl
abbrev I53 : TI := ⟨1, 3, 40, some (.agg #[(.slice none 0 0), (.int .i64 0), (.bool false)]), [(0, 22), (1, 3), (2, 4)], 0, 0⟩
theorem ti53 : ti Tryz.prog 53 = some I53 := by kernel_rfl
theorem zc53 : zcells I53 = some [.v (.slice none 0 0), .v (.int .i64 0), .v (.bool false)] := by kernel_rfl
abbrev I54 : TI := ⟨10, 1, 8, some .nilFunc, [], 0, 0⟩
theorem ti54 : ti Tryz.prog 54 = some I54 := by kernel_rfl
theorem zc54 : zcells I54 = some [.v .nilFunc] := by kernel_rfl
abbrev I55 : TI := ⟨3, 1, 24, some (.slice none 0 0), [], 9, 0⟩
theorem ti55 : ti Tryz.prog 55 = some I55 := by kernel_rfl
theorem zc55 : zcells I55 = some [.v (.slice none 0 0)] := by kernel_rfl
theorem ki55 : kindIs Tryz.prog 55 3 = true := by kernel_rfl
abbrev I56 : TI := ⟨10, 1, 8, some .nilFunc, [], 0, 0⟩
theorem ti56 : ti Tryz.prog 56 = some I56 := by kernel_rfl
theorem zc56 : zcells I56 = some [.v .nilFunc] := by kernel_rfl
abbrev I58 : TI := ⟨10, 1, 8, some .nilFunc, [], 0, 0⟩
theorem ti58 : ti Tryz.prog 58 = some I58 := by kernel_rfl
theorem zc58 : zcells I58 = some [.v .nilFunc] := by kernel_rfl
abbrev I59 : TI := ⟨10, 1, 8, some .nilFunc, [], 0, 0⟩
theorem ti59 : ti Tryz.prog 59 = some I59 := by kernel_rfl
theorem zc59 : zcells I59 = some [.v .nilFunc] := by kernel_rfl
abbrev I60 : TI := ⟨10, 1, 8, some .nilFunc, [], 0, 0⟩
theorem ti60 : ti Tryz.prog 60 = some I60 := by kernel_rfl
theorem zc60 : zcells I60 = some [.v .nilFunc] := by kernel_rfl
abbrev I61 : TI := ⟨10, 1, 8, some .nilFunc, [], 0, 0⟩
theorem ti61 : ti Tryz.prog 61 = some I61 := by kernel_rfl
theorem zc61 : zcells I61 = some [.v .nilFunc] := by kernel_rfl
abbrev I62 : TI := ⟨10, 1, 8, some .nilFunc, [], 0, 0⟩
theorem ti62 : ti Tryz.prog 62 = some I62 := by kernel_rfl
theorem zc62 : zcells I62 = some [.v .nilFunc] := by kernel_rfl
abbrev I63 : TI := ⟨10, 1, 8, some .nilFunc, [], 0, 0⟩
theorem ti63 : ti Tryz.prog 63 = some I63 := by kernel_rfl
theorem zc63 : zcells I63 = some [.v .nilFunc] := by kernel_rfl
abbrev I64 : TI := ⟨10, 1, 8, some .nilFunc, [], 0, 0⟩
theorem ti64 : ti Tryz.prog 64 = some I64 := by kernel_rfl
theorem zc64 : zcells I64 = some [.v .nilFunc] := by kernel_rfl
abbrev I65 : TI := ⟨9, 1, 16, some .nilIface, [], 0, 0⟩
theorem ti65 : ti Tryz.prog 65 = some I65 := by kernel_rfl
theorem zc65 : zcells I65 = some [.v .nilIface] := by kernel_rfl
theorem ki65 : kindIs Tryz.prog 65 9 = true := by kernel_rfl
abbrev I66 : TI := ⟨9, 1, 16, some .nilIface, [], 0, 0⟩
theorem ti66 : ti Tryz.prog 66 = some I66 := by kernel_rfl
theorem zc66 : zcells I66 = some [.v .nilIface] := by kernel_rfl
theorem ki66 : kindIs Tryz.prog 66 9 = true := by kernel_rfl
abbrev I67 : TI := ⟨10, 1, 8, some .nilFunc, [], 0, 0⟩
theorem ti67 : ti Tryz.prog 67 = some I67 := by kernel_rfl
theorem zc67 : zcells I67 = some [.v .nilFunc] := by kernel_rfl
abbrev I68 : TI := ⟨10, 1, 8, some .nilFunc, [], 0, 0⟩
theorem ti68 : ti Tryz.prog 68 = some I68 := by kernel_rfl
theorem zc68 : zcells I68 = some [.v .nilFunc] := by kernel_rfl
abbrev I69 : TI := ⟨10, 1, 8, some .nilFunc, [], 0, 0⟩
theorem ti69 : ti Tryz.prog 69 = some I69 := by kernel_rfl
theorem zc69 : zcells I69 = some [.v .nilFunc] := by kernel_rfl
abbrev I70 : TI := ⟨10, 1, 8, some .nilFunc, [], 0, 0⟩
theorem ti70 : ti Tryz.prog 70 = some I70 := by kernel_rfl
theorem zc70 : zcells I70 = some [.v .nilFunc] := by kernel_rfl
abbrev I71 : TI := ⟨10, 1, 8, some .nilFunc, [], 0, 0⟩
theorem ti71 : ti Tryz.prog 71 = some I71 := by kernel_rfl
theorem zc71 : zcells I71 = some [.v .nilFunc] := by kernel_rfl
abbrev I73 : TI := ⟨10, 1, 8, some .nilFunc, [], 0, 0⟩
theorem ti73 : ti Tryz.prog 73 = some I73 := by kernel_rfl
theorem zc73 : zcells I73 = some [.v .nilFunc] := by kernel_rfl
abbrev I74 : TI := ⟨10, 1, 8, some .nilFunc, [], 0, 0⟩
theorem ti74 : ti Tryz.prog 74 = some I74 := by kernel_rfl
theorem zc74 : zcells I74 = some [.v .nilFunc] := by kernel_rfl
abbrev I75 : TI := ⟨6, 1, 8, some (.pointer none), [], 78, 0⟩
theorem ti75 : ti Tryz.prog 75 = some I75 := by kernel_rfl
theorem zc75 : zcells I75 = some [.v (.pointer none)] := by kernel_rfl
abbrev I76 : TI := ⟨3, 1, 24, some (.slice none 0 0), [], 5, 0⟩
theorem ti76 : ti Tryz.prog 76 = some I76 := by kernel_rfl
theorem zc76 : zcells I76 = some [.v (.slice none 0 0)] := by kernel_rfl
theorem ki76 : kindIs Tryz.prog 76 3 = true := by kernel_rfl
abbrev I77 : TI := ⟨1, 2, 32, some (.agg #[(.pointer none), (.slice none 0 0)]), [(0, 75), (1, 76)], 0, 0⟩
theorem ti77 : ti Tryz.prog 77 = some I77 := by kernel_rfl
theorem zc77 : zcells I77 = some [.v (.pointer none), .v (.slice none 0 0)] := by kernel_rfl
abbrev I78 : TI := ⟨1, 2, 32, some (.agg #[(.pointer none), (.slice none 0 0)]), [(0, 75), (1, 76)], 0, 0⟩
theorem ti78 : ti Tryz.prog 78 = some I78 := by kernel_rfl
theorem zc78 : zcells I78 = some [.v (.pointer none), .v (.slice none 0 0)] := by kernel_rfl
abbrev I79 : TI := ⟨10, 1, 8, some .nilFunc, [], 0, 0⟩
theorem ti79 : ti Tryz.prog 79 = some I79 := by kernel_rfl
theorem zc79 : zcells I79 = some [.v .nilFunc] := by kernel_rfl
abbrev I80 : TI := ⟨10, 1, 8, some .nilFunc, [], 0, 0⟩
theorem ti80 : ti Tryz.prog 80 = some I80 := by kernel_rfl
theorem zc80 : zcells I80 = some [.v .nilFunc] := by kernel_rfl
abbrev I81 : TI := ⟨10, 1, 8, some .nilFunc, [], 0, 0⟩
theorem ti81 : ti Tryz.prog 81 = some I81 := by kernel_rfl
theorem zc81 : zcells I81 = some [.v .nilFunc] := by kernel_rfl
abbrev I82 : TI := ⟨2, 20, 20, some (.agg #[(.int .u8 0), (.int .u8 0), (.int .u8 0), (.int .u8 0), (.int .u8 0), (.int .u8 0), (.int .u8 0), (.int .u8 0), (.int .u8 0), (.int .u8 0), (.int .u8 0), (.int .u8 0), (.int .u8 0), (.int .u8 0), (.int .u8 0), (.int .u8 0), (.int .u8 0), (.int .u8 0), (.int .u8 0), (.int .u8 0)]), [], 5, 20⟩
theorem ti82 : ti Tryz.prog 82 = some I82 := by kernel_rfl
theorem zc82 : zcells I82 = some [.v (.int .u8 0), .v (.int .u8 0), .v (.int .u8 0), .v (.int .u8 0), .v (.int .u8 0), .v (.int .u8 0), .v (.int .u8 0), .v (.int .u8 0), .v (.int .u8 0), .v (.int .u8 0), .v (.int .u8 0), .v (.int .u8 0), .v (.int .u8 0), .v (.int .u8 0), .v (.int .u8 0), .v (.int .u8 0), .v (.int .u8 0), .v (.int .u8 0), .v (.int .u8 0), .v (.int .u8 0)] := by kernel_rfl
abbrev I83 : TI := ⟨2, 20, 20, some (.agg #[(.int .u8 0), (.int .u8 0), (.int .u8 0), (.int .u8 0), (.int .u8 0), (.int .u8 0), (.int .u8 0), (.int .u8 0), (.int .u8 0), (.int .u8 0), (.int .u8 0), (.int .u8 0), (.int .u8 0), (.int .u8 0), (.int .u8 0), (.int .u8 0), (.int .u8 0), (.int .u8 0), (.int .u8 0), (.int .u8 0)]), [], 5, 20⟩
theorem ti83 : ti Tryz.prog 83 = some I83 := by kernel_rfl
theorem zc83 : zcells I83 = some [.v (.int .u8 0), .v (.int .u8 0), .v (.int .u8 0), .v (.int .u8 0), .v (.int .u8 0), .v (.int .u8 0), .v (.int .u8 0), .v (.int .u8 0), .v (.int .u8 0), .v (.int .u8 0), .v (.int .u8 0), .v (.int .u8 0), .v (.int .u8 0), .v (.int .u8 0), .v (.int .u8 0), .v (.int .u8 0), .v (.int .u8 0), .v (.int .u8 0), .v (.int .u8 0), .v (.int .u8 0)] := by kernel_rfl
abbrev I84 : TI := ⟨10, 1, 8, some .nilFunc, [], 0, 0⟩
theorem ti84 : ti Tryz.prog 84 = some I84 := by kernel_rfl
theorem zc84 : zcells I84 = some [.v .nilFunc] := by kernel_rfl
abbrev I85 : TI := ⟨3, 1, 24, some (.slice none 0 0), [], 43, 0⟩
theorem ti85 : ti Tryz.prog 85 = some I85 := by kernel_rfl
theorem zc85 : zcells I85 = some [.v (.slice none 0 0)] := by kernel_rfl
theorem ki85 : kindIs Tryz.prog 85 3 = true := by kernel_rfl
abbrev I86 : TI := ⟨6, 1, 8, some (.pointer none), [], 88, 0⟩
theorem ti86 : ti Tryz.prog 86 = some I86 := by kernel_rfl
theorem zc86 : zcells I86 = some [.v (.pointer none)] := by kernel_rfl
abbrev I87 : TI := ⟨1, 1, 24, some (.agg #[(.slice none 0 0)]), [(0, 85)], 0, 0⟩
theorem ti87 : ti Tryz.prog 87 = some I87 := by kernel_rfl
theorem zc87 : zcells I87 = some [.v (.slice none 0 0)] := by kernel_rfl
abbrev I88 : TI := ⟨1, 1, 24, some (.agg #[(.slice none 0 0)]), [(0, 85)], 0, 0⟩
theorem ti88 : ti Tryz.prog 88 = some I88 := by kernel_rfl
theorem zc88 : zcells I88 = some [.v (.slice none 0 0)] := by kernel_rfl
abbrev I89 : TI := ⟨1, 1, 8, some (.agg #[(.pointer none)]), [(0, 17)], 0, 0⟩
theorem ti89 : ti Tryz.prog 89 = some I89 := by kernel_rfl
theorem zc89 : zcells I89 = some [.v (.pointer none)] := by kernel_rfl
abbrev I90 : TI := ⟨1, 1, 8, some (.agg #[(.pointer none)]), [(0, 17)], 0, 0⟩
theorem ti90 : ti Tryz.prog 90 = some I90 := by kernel_rfl
theorem zc90 : zcells I90 = some [.v (.pointer none)] := by kernel_rfl
abbrev I91 : TI := ⟨6, 1, 8, some (.pointer none), [], 163, 0⟩
theorem ti91 : ti Tryz.prog 91 = some I91 := by kernel_rfl
theorem zc91 : zcells I91 = some [.v (.pointer none)] := by kernel_rfl
abbrev I92 : TI := ⟨9, 1, 16, some .nilIface, [], 0, 0⟩
theorem ti92 : ti Tryz.prog 92 = some I92 := by kernel_rfl
theorem zc92 : zcells I92 = some [.v .nilIface] := by kernel_rfl
theorem ki92 : kindIs Tryz.prog 92 9 = true := by kernel_rfl
abbrev I94 : TI := ⟨10, 1, 8, some .nilFunc, [], 0, 0⟩
theorem ti94 : ti Tryz.prog 94 = some I94 := by kernel_rfl
theorem zc94 : zcells I94 = some [.v .nilFunc] := by kernel_rfl
abbrev I95 : TI := ⟨9, 1, 16, some .nilIface, [], 0, 0⟩
theorem ti95 : ti Tryz.prog 95 = some I95 := by kernel_rfl
theorem zc95 : zcells I95 = some [.v .nilIface] := by kernel_rfl
theorem ki95 : kindIs Tryz.prog 95 9 = true := by kernel_rfl
abbrev I96 : TI := ⟨10, 1, 8, some .nilFunc, [], 0, 0⟩
theorem ti96 : ti Tryz.prog 96 = some I96 := by kernel_rfl
theorem zc96 : zcells I96 = some [.v .nilFunc] := by kernel_rfl
abbrev I97 : TI := ⟨9, 1, 16, some .nilIface, [], 0, 0⟩
theorem ti97 : ti Tryz.prog 97 = some I97 := by kernel_rfl
theorem zc97 : zcells I97 = some [.v .nilIface] := by kernel_rfl
theorem ki97 : kindIs Tryz.prog 97 9 = true := by kernel_rfl
abbrev I98 : TI := ⟨10, 1, 8, some .nilFunc, [], 0, 0⟩
theorem ti98 : ti Tryz.prog 98 = some I98 := by kernel_rfl
theorem zc98 : zcells I98 = some [.v .nilFunc] := by kernel_rfl
abbrev I100 : TI := ⟨10, 1, 8, some .nilFunc, [], 0, 0⟩
theorem ti100 : ti Tryz.prog 100 = some I100 := by kernel_rfl
theorem zc100 : zcells I100 = some [.v .nilFunc] := by kernel_rfl
abbrev I101 : TI := ⟨10, 1, 8, some .nilFunc, [], 0, 0⟩
theorem ti101 : ti Tryz.prog 101 = some I101 := by kernel_rfl
theorem zc101 : zcells I101 = some [.v .nilFunc] := by kernel_rfl
abbrev I102 : TI := ⟨6, 1, 8, some (.pointer none), [], 5, 0⟩
theorem ti102 : ti Tryz.prog 102 = some I102 := by kernel_rfl
theorem zc102 : zcells I102 = some [.v (.pointer none)] := by kernel_rfl
abbrev I103 : TI := ⟨8, 1, 8, some (.int .i64 0), [], 0, 0⟩
theorem ti103 : ti Tryz.prog 103 = some I103 := by kernel_rfl
theorem zc103 : zcells I103 = some [.v (.int .i64 0)] := by kernel_rfl
theorem it103 : intTy Tryz.prog 103 = some .i64 := by kernel_rfl
abbrev I105 : TI := ⟨10, 1, 8, some .nilFunc, [], 0, 0⟩
theorem ti105 : ti Tryz.prog 105 = some I105 := by kernel_rfl
theorem zc105 : zcells I105 = some [.v .nilFunc] := by kernel_rfl
abbrev I106 : TI := ⟨6, 1, 8, some (.pointer none), [], 119, 0⟩
theorem ti106 : ti Tryz.prog 106 = some I106 := by kernel_rfl
theorem zc106 : zcells I106 = some [.v (.pointer none)] := by kernel_rfl
abbrev I107 : TI := ⟨10, 1, 8, some .nilFunc, [], 0, 0⟩
theorem ti107 : ti Tryz.prog 107 = some I107 := by kernel_rfl
theorem zc107 : zcells I107 = some [.v .nilFunc] := by kernel_rfl
abbrev I108 : TI := ⟨10, 1, 8, some .nilFunc, [], 0, 0⟩
theorem ti108 : ti Tryz.prog 108 = some I108 := by kernel_rfl
theorem zc108 : zcells I108 = some [.v .nilFunc] := by kernel_rfl
abbrev I110 : TI := ⟨10, 1, 8, some .nilFunc, [], 0, 0⟩
theorem ti110 : ti Tryz.prog 110 = some I110 := by kernel_rfl
theorem zc110 : zcells I110 = some [.v .nilFunc] := by kernel_rfl
abbrev I111 : TI := ⟨10, 1, 8, some .nilFunc, [], 0, 0⟩
theorem ti111 : ti Tryz.prog 111 = some I111 := by kernel_rfl
theorem zc111 : zcells I111 = some [.v .nilFunc] := by kernel_rfl
abbrev I112 : TI := ⟨10, 1, 8, some .nilFunc, [], 0, 0⟩
theorem ti112 : ti Tryz.prog 112 = some I112 := by kernel_rfl
theorem zc112 : zcells I112 = some [.v .nilFunc] := by kernel_rfl
abbrev I113 : TI := ⟨8, 1, 8, some (.int .u64 0), [], 0, 0⟩
theorem ti113 : ti Tryz.prog 113 = some I113 := by kernel_rfl
theorem zc113 : zcells I113 = some [.v (.int .u64 0)] := by kernel_rfl
theorem it113 : intTy Tryz.prog 113 = some .u64 := by kernel_rfl
abbrev I115 : TI := ⟨10, 1, 8, some .nilFunc, [], 0, 0⟩
theorem ti115 : ti Tryz.prog 115 = some I115 := by kernel_rfl
theorem zc115 : zcells I115 = some [.v .nilFunc] := by kernel_rfl
abbrev I116 : TI := ⟨8, 1, 8, some (.int .u64 0), [], 0, 0⟩
theorem ti116 : ti Tryz.prog 116 = some I116 := by kernel_rfl
theorem zc116 : zcells I116 = some [.v (.int .u64 0)] := by kernel_rfl
theorem it116 : intTy Tryz.prog 116 = some .u64 := by kernel_rfl
abbrev I117 : TI := ⟨10, 1, 8, some .nilFunc, [], 0, 0⟩
theorem ti117 : ti Tryz.prog 117 = some I117 := by kernel_rfl
theorem zc117 : zcells I117 = some [.v .nilFunc] := by kernel_rfl
abbrev I118 : TI := ⟨1, 3, 48, some (.agg #[(str []), (str []), .nilIface]), [(0, 9), (1, 9), (2, 43)], 0, 0⟩
theorem ti118 : ti Tryz.prog 118 = some I118 := by kernel_rfl
theorem zc118 : zcells I118 = some [.v (str []), .v (str []), .v .nilIface] := by kernel_rfl
abbrev I119 : TI := ⟨1, 3, 48, some (.agg #[(str []), (str []), .nilIface]), [(0, 9), (1, 9), (2, 43)], 0, 0⟩
theorem ti119 : ti Tryz.prog 119 = some I119 := by kernel_rfl
theorem zc119 : zcells I119 = some [.v (str []), .v (str []), .v .nilIface] := by kernel_rfl
abbrev I120 : TI := ⟨10, 1, 8, some .nilFunc, [], 0, 0⟩
theorem ti120 : ti Tryz.prog 120 = some I120 := by kernel_rfl
theorem zc120 : zcells I120 = some [.v .nilFunc] := by kernel_rfl
abbrev I121 : TI := ⟨10, 1, 8, some .nilFunc, [], 0, 0⟩
theorem ti121 : ti Tryz.prog 121 = some I121 := by kernel_rfl
theorem zc121 : zcells I121 = some [.v .nilFunc] := by kernel_rfl
abbrev I122 : TI := ⟨10, 1, 8, some .nilFunc, [], 0, 0⟩
theorem ti122 : ti Tryz.prog 122 = some I122 := by kernel_rfl
theorem zc122 : zcells I122 = some [.v .nilFunc] := by kernel_rfl
abbrev I123 : TI := ⟨10, 1, 8, some .nilFunc, [], 0, 0⟩
theorem ti123 : ti Tryz.prog 123 = some I123 := by kernel_rfl
theorem zc123 : zcells I123 = some [.v .nilFunc] := by kernel_rfl
abbrev I124 : TI := ⟨6, 1, 8, some (.pointer none), [], 126, 0⟩
theorem ti124 : ti Tryz.prog 124 = some I124 := by kernel_rfl
theorem zc124 : zcells I124 = some [.v (.pointer none)] := by kernel_rfl
abbrev I125 : TI := ⟨1, 1, 16, some (.agg #[(str [])]), [(0, 9)], 0, 0⟩
theorem ti125 : ti Tryz.prog 125 = some I125 := by kernel_rfl
theorem zc125 : zcells I125 = some [.v (str [])] := by kernel_rfl
abbrev I126 : TI := ⟨1, 1, 16, some (.agg #[(str [])]), [(0, 9)], 0, 0⟩
theorem ti126 : ti Tryz.prog 126 = some I126 := by kernel_rfl
theorem zc126 : zcells I126 = some [.v (str [])] := by kernel_rfl
abbrev I127 : TI := ⟨8, 1, 4, some (.int .u32 0), [], 0, 0⟩
theorem ti127 : ti Tryz.prog 127 = some I127 := by kernel_rfl
theorem zc127 : zcells I127 = some [.v (.int .u32 0)] := by kernel_rfl
theorem it127 : intTy Tryz.prog 127 = some .u32 := by kernel_rfl
abbrev I129 : TI := ⟨10, 1, 8, some .nilFunc, [], 0, 0⟩
theorem ti129 : ti Tryz.prog 129 = some I129 := by kernel_rfl
theorem zc129 : zcells I129 = some [.v .nilFunc] := by kernel_rfl
abbrev I130 : TI := ⟨10, 1, 8, some .nilFunc, [], 0, 0⟩
theorem ti130 : ti Tryz.prog 130 = some I130 := by kernel_rfl
theorem zc130 : zcells I130 = some [.v .nilFunc] := by kernel_rfl
abbrev I131 : TI := ⟨2, 24, 24, some (.agg #[(.int .u8 0), (.int .u8 0), (.int .u8 0), (.int .u8 0), (.int .u8 0), (.int .u8 0), (.int .u8 0), (.int .u8 0), (.int .u8 0), (.int .u8 0), (.int .u8 0), (.int .u8 0), (.int .u8 0), (.int .u8 0), (.int .u8 0), (.int .u8 0), (.int .u8 0), (.int .u8 0), (.int .u8 0), (.int .u8 0), (.int .u8 0), (.int .u8 0), (.int .u8 0), (.int .u8 0)]), [], 5, 24⟩
theorem ti131 : ti Tryz.prog 131 = some I131 := by kernel_rfl
theorem zc131 : zcells I131 = some [.v (.int .u8 0), .v (.int .u8 0), .v (.int .u8 0), .v (.int .u8 0), .v (.int .u8 0), .v (.int .u8 0), .v (.int .u8 0), .v (.int .u8 0), .v (.int .u8 0), .v (.int .u8 0), .v (.int .u8 0), .v (.int .u8 0), .v (.int .u8 0), .v (.int .u8 0), .v (.int .u8 0), .v (.int .u8 0), .v (.int .u8 0), .v (.int .u8 0), .v (.int .u8 0), .v (.int .u8 0), .v (.int .u8 0), .v (.int .u8 0), .v (.int .u8 0), .v (.int .u8 0)] := by kernel_rfl
abbrev I132 : TI := ⟨10, 1, 8, some .nilFunc, [], 0, 0⟩
theorem ti132 : ti Tryz.prog 132 = some I132 := by kernel_rfl
theorem zc132 : zcells I132 = some [.v .nilFunc] := by kernel_rfl
abbrev I133 : TI := ⟨10, 1, 8, some .nilFunc, [], 0, 0⟩
theorem ti133 : ti Tryz.prog 133 = some I133 := by kernel_rfl
theorem zc133 : zcells I133 = some [.v .nilFunc] := by kernel_rfl
abbrev I135 : TI := ⟨10, 1, 8, some .nilFunc, [], 0, 0⟩
theorem ti135 : ti Tryz.prog 135 = some I135 := by kernel_rfl
theorem zc135 : zcells I135 = some [.v .nilFunc] := by kernel_rfl
abbrev I136 : TI := ⟨10, 1, 8, some .nilFunc, [], 0, 0⟩
theorem ti136 : ti Tryz.prog 136 = some I136 := by kernel_rfl
theorem zc136 : zcells I136 = some [.v .nilFunc] := by kernel_rfl
abbrev I137 : TI := ⟨2, 20, 160, some (.agg #[(.int .u64 0), (.int .u64 0), (.int .u64 0), (.int .u64 0), (.int .u64 0), (.int .u64 0), (.int .u64 0), (.int .u64 0), (.int .u64 0), (.int .u64 0), (.int .u64 0), (.int .u64 0), (.int .u64 0), (.int .u64 0), (.int .u64 0), (.int .u64 0), (.int .u64 0), (.int .u64 0), (.int .u64 0), (.int .u64 0)]), [], 113, 20⟩
theorem ti137 : ti Tryz.prog 137 = some I137 := by kernel_rfl
theorem zc137 : zcells I137 = some [.v (.int .u64 0), .v (.int .u64 0), .v (.int .u64 0), .v (.int .u64 0), .v (.int .u64 0), .v (.int .u64 0), .v (.int .u64 0), .v (.int .u64 0), .v (.int .u64 0), .v (.int .u64 0), .v (.int .u64 0), .v (.int .u64 0), .v (.int .u64 0), .v (.int .u64 0), .v (.int .u64 0), .v (.int .u64 0), .v (.int .u64 0), .v (.int .u64 0), .v (.int .u64 0), .v (.int .u64 0)] := by kernel_rfl
abbrev I139 : TI := ⟨10, 1, 8, some .nilFunc, [], 0, 0⟩
theorem ti139 : ti Tryz.prog 139 = some I139 := by kernel_rfl
theorem zc139 : zcells I139 = some [.v .nilFunc] := by kernel_rfl
abbrev I140 : TI := ⟨10, 1, 8, some .nilFunc, [], 0, 0⟩
theorem ti140 : ti Tryz.prog 140 = some I140 := by kernel_rfl
theorem zc140 : zcells I140 = some [.v .nilFunc] := by kernel_rfl
abbrev I141 : TI := ⟨10, 1, 8, some .nilFunc, [], 0, 0⟩
theorem ti141 : ti Tryz.prog 141 = some I141 := by kernel_rfl
theorem zc141 : zcells I141 = some [.v .nilFunc] := by kernel_rfl
abbrev I142 : TI := ⟨2, 32, 32, some (.agg #[(.int .u8 0), (.int .u8 0), (.int .u8 0), (.int .u8 0), (.int .u8 0), (.int .u8 0), (.int .u8 0), (.int .u8 0), (.int .u8 0), (.int .u8 0), (.int .u8 0), (.int .u8 0), (.int .u8 0), (.int .u8 0), (.int .u8 0), (.int .u8 0), (.int .u8 0), (.int .u8 0), (.int .u8 0), (.int .u8 0), (.int .u8 0), (.int .u8 0), (.int .u8 0), (.int .u8 0), (.int .u8 0), (.int .u8 0), (.int .u8 0), (.int .u8 0), (.int .u8 0), (.int .u8 0), (.int .u8 0), (.int .u8 0)]), [], 5, 32⟩
theorem ti142 : ti Tryz.prog 142 = some I142 := by kernel_rfl
theorem zc142 : zcells I142 = some [.v (.int .u8 0), .v (.int .u8 0), .v (.int .u8 0), .v (.int .u8 0), .v (.int .u8 0), .v (.int .u8 0), .v (.int .u8 0), .v (.int .u8 0), .v (.int .u8 0), .v (.int .u8 0), .v (.int .u8 0), .v (.int .u8 0), .v (.int .u8 0), .v (.int .u8 0), .v (.int .u8 0), .v (.int .u8 0), .v (.int .u8 0), .v (.int .u8 0), .v (.int .u8 0), .v (.int .u8 0), .v (.int .u8 0), .v (.int .u8 0), .v (.int .u8 0), .v (.int .u8 0), .v (.int .u8 0), .v (.int .u8 0), .v (.int .u8 0), .v (.int .u8 0), .v (.int .u8 0), .v (.int .u8 0), .v (.int .u8 0), .v (.int .u8 0)] := by kernel_rfl
abbrev I144 : TI := ⟨1, 4, 40, some (.agg #[(.pointer none), (.pointer none), (.pointer none), (str [])]), [(0, 17), (1, 17), (2, 17), (3, 9)], 0, 0⟩
theorem ti144 : ti Tryz.prog 144 = some I144 := by kernel_rfl
theorem zc144 : zcells I144 = some [.v (.pointer none), .v (.pointer none), .v (.pointer none), .v (str [])] := by kernel_rfl
abbrev I145 : TI := ⟨1, 4, 40, some (.agg #[(.pointer none), (.pointer none), (.pointer none), (str [])]), [(0, 17), (1, 17), (2, 17), (3, 9)], 0, 0⟩
theorem ti145 : ti Tryz.prog 145 = some I145 := by kernel_rfl
theorem zc145 : zcells I145 = some [.v (.pointer none), .v (.pointer none), .v (.pointer none), .v (str [])] := by kernel_rfl
abbrev I146 : TI := ⟨2, 0, 0, some (.agg #[]), [], 16, 0⟩
theorem ti146 : ti Tryz.prog 146 = some I146 := by kernel_rfl
theorem zc146 : zcells I146 = some [] := by kernel_rfl
abbrev I147 : TI := ⟨1, 0, 0, some (.agg #[]), [(0, 146)], 0, 0⟩
theorem ti147 : ti Tryz.prog 147 = some I147 := by kernel_rfl
theorem zc147 : zcells I147 = some [] := by kernel_rfl
abbrev I148 : TI := ⟨1, 0, 0, some (.agg #[]), [(0, 146)], 0, 0⟩
theorem ti148 : ti Tryz.prog 148 = some I148 := by kernel_rfl
theorem zc148 : zcells I148 = some [] := by kernel_rfl
abbrev I149 : TI := ⟨8, 1, 1, some (.int .u8 0), [], 0, 0⟩
theorem ti149 : ti Tryz.prog 149 = some I149 := by kernel_rfl
theorem zc149 : zcells I149 = some [.v (.int .u8 0)] := by kernel_rfl
theorem it149 : intTy Tryz.prog 149 = some .u8 := by kernel_rfl
abbrev I150 : TI := ⟨8, 1, 1, some (.int .u8 0), [], 0, 0⟩
theorem ti150 : ti Tryz.prog 150 = some I150 := by kernel_rfl
theorem zc150 : zcells I150 = some [.v (.int .u8 0)] := by kernel_rfl
theorem it150 : intTy Tryz.prog 150 = some .u8 := by kernel_rfl
abbrev I151 : TI := ⟨10, 1, 8, some .nilFunc, [], 0, 0⟩
theorem ti151 : ti Tryz.prog 151 = some I151 := by kernel_rfl
theorem zc151 : zcells I151 = some [.v .nilFunc] := by kernel_rfl
abbrev I152 : TI := ⟨8, 1, 4, some (.int .i32 0), [], 0, 0⟩
theorem ti152 : ti Tryz.prog 152 = some I152 := by kernel_rfl
theorem zc152 : zcells I152 = some [.v (.int .i32 0)] := by kernel_rfl
theorem it152 : intTy Tryz.prog 152 = some .i32 := by kernel_rfl
abbrev I153 : TI := ⟨8, 1, 4, some (.int .i32 0), [], 0, 0⟩
theorem ti153 : ti Tryz.prog 153 = some I153 := by kernel_rfl
theorem zc153 : zcells I153 = some [.v (.int .i32 0)] := by kernel_rfl
theorem it153 : intTy Tryz.prog 153 = some .i32 := by kernel_rfl
abbrev I154 : TI := ⟨1, 11, 48, some (.agg #[(.int .u64 0), (.int .u64 0), (.int .u32 0), (.int .u8 0), (.int .u8 0), (.int .u8 0), (.int .u8 0), .nilFunc, (.pointer none), (.int .i32 0), (.int .i32 0)]), [(0, 12), (1, 12), (2, 127), (3, 149), (4, 5), (5, 5), (6, 150), (7, 151), (8, 102), (9, 152), (10, 153)], 0, 0⟩
theorem ti154 : ti Tryz.prog 154 = some I154 := by kernel_rfl
theorem zc154 : zcells I154 = some [.v (.int .u64 0), .v (.int .u64 0), .v (.int .u32 0), .v (.int .u8 0), .v (.int .u8 0), .v (.int .u8 0), .v (.int .u8 0), .v .nilFunc, .v (.pointer none), .v (.int .i32 0), .v (.int .i32 0)] := by kernel_rfl
abbrev I155 : TI := ⟨1, 11, 48, some (.agg #[(.int .u64 0), (.int .u64 0), (.int .u32 0), (.int .u8 0), (.int .u8 0), (.int .u8 0), (.int .u8 0), .nilFunc, (.pointer none), (.int .i32 0), (.int .i32 0)]), [(0, 12), (1, 12), (2, 127), (3, 149), (4, 5), (5, 5), (6, 150), (7, 151), (8, 102), (9, 152), (10, 153)], 0, 0⟩
theorem ti155 : ti Tryz.prog 155 = some I155 := by kernel_rfl
theorem zc155 : zcells I155 = some [.v (.int .u64 0), .v (.int .u64 0), .v (.int .u32 0), .v (.int .u8 0), .v (.int .u8 0), .v (.int .u8 0), .v (.int .u8 0), .v .nilFunc, .v (.pointer none), .v (.int .i32 0), .v (.int .i32 0)] := by kernel_rfl
abbrev I156 : TI := ⟨10, 1, 8, some .nilFunc, [], 0, 0⟩
theorem ti156 : ti Tryz.prog 156 = some I156 := by kernel_rfl
theorem zc156 : zcells I156 = some [.v .nilFunc] := by kernel_rfl
abbrev I157 : TI := ⟨10, 1, 8, some .nilFunc, [], 0, 0⟩
theorem ti157 : ti Tryz.prog 157 = some I157 := by kernel_rfl
theorem zc157 : zcells I157 = some [.v .nilFunc] := by kernel_rfl
abbrev I158 : TI := ⟨10, 1, 8, some .nilFunc, [], 0, 0⟩
theorem ti158 : ti Tryz.prog 158 = some I158 := by kernel_rfl
theorem zc158 : zcells I158 = some [.v .nilFunc] := by kernel_rfl
abbrev I159 : TI := ⟨10, 1, 8, some .nilFunc, [], 0, 0⟩
theorem ti159 : ti Tryz.prog 159 = some I159 := by kernel_rfl
theorem zc159 : zcells I159 = some [.v .nilFunc] := by kernel_rfl
abbrev I160 : TI := ⟨10, 1, 8, some .nilFunc, [], 0, 0⟩
theorem ti160 : ti Tryz.prog 160 = some I160 := by kernel_rfl
theorem zc160 : zcells I160 = some [.v .nilFunc] := by kernel_rfl
abbrev I161 : TI := ⟨10, 1, 8, some .nilFunc, [], 0, 0⟩
theorem ti161 : ti Tryz.prog 161 = some I161 := by kernel_rfl
theorem zc161 : zcells I161 = some [.v .nilFunc] := by kernel_rfl
abbrev I162 : TI := ⟨1, 2, 24, some (.agg #[(str []), (.int .u8 0)]), [(0, 9), (1, 150)], 0, 0⟩
theorem ti162 : ti Tryz.prog 162 = some I162 := by kernel_rfl
theorem zc162 : zcells I162 = some [.v (str []), .v (.int .u8 0)] := by kernel_rfl
abbrev I163 : TI := ⟨1, 2, 24, some (.agg #[(str []), (.int .u8 0)]), [(0, 9), (1, 150)], 0, 0⟩
theorem ti163 : ti Tryz.prog 163 = some I163 := by kernel_rfl
theorem zc163 : zcells I163 = some [.v (str []), .v (.int .u8 0)] := by kernel_rfl
abbrev I164 : TI := ⟨6, 1, 8, some (.pointer none), [], 168, 0⟩
theorem ti164 : ti Tryz.prog 164 = some I164 := by kernel_rfl
theorem zc164 : zcells I164 = some [.v (.pointer none)] := by kernel_rfl
abbrev I165 : TI := ⟨10, 1, 8, some .nilFunc, [], 0, 0⟩
theorem ti165 : ti Tryz.prog 165 = some I165 := by kernel_rfl
theorem zc165 : zcells I165 = some [.v .nilFunc] := by kernel_rfl
abbrev I166 : TI := ⟨8, 1, 2, some (.int .u16 0), [], 0, 0⟩
theorem ti166 : ti Tryz.prog 166 = some I166 := by kernel_rfl
theorem zc166 : zcells I166 = some [.v (.int .u16 0)] := by kernel_rfl
theorem it166 : intTy Tryz.prog 166 = some .u16 := by kernel_rfl
abbrev I167 : TI := ⟨1, 5, 16, some (.agg #[(.int .i32 0), (.int .u16 0), (.int .u16 0), (.int .u32 0), (.int .u32 0)]), [(0, 152), (1, 166), (2, 166), (3, 127), (4, 127)], 0, 0⟩
theorem ti167 : ti Tryz.prog 167 = some I167 := by kernel_rfl
theorem zc167 : zcells I167 = some [.v (.int .i32 0), .v (.int .u16 0), .v (.int .u16 0), .v (.int .u32 0), .v (.int .u32 0)] := by kernel_rfl
abbrev I168 : TI := ⟨1, 5, 16, some (.agg #[(.int .i32 0), (.int .u16 0), (.int .u16 0), (.int .u32 0), (.int .u32 0)]), [(0, 152), (1, 166), (2, 166), (3, 127), (4, 127)], 0, 0⟩
theorem ti168 : ti Tryz.prog 168 = some I168 := by kernel_rfl
theorem zc168 : zcells I168 = some [.v (.int .i32 0), .v (.int .u16 0), .v (.int .u16 0), .v (.int .u32 0), .v (.int .u32 0)] := by kernel_rfl
abbrev I169 : TI := ⟨3, 1, 24, some (.slice none 0 0), [], 172, 0⟩
theorem ti169 : ti Tryz.prog 169 = some I169 := by kernel_rfl
theorem zc169 : zcells I169 = some [.v (.slice none 0 0)] := by kernel_rfl
theorem ki169 : kindIs Tryz.prog 169 3 = true := by kernel_rfl
abbrev I170 : TI := ⟨8, 1, 4, some (.int .i32 0), [], 0, 0⟩
theorem ti170 : ti Tryz.prog 170 = some I170 := by kernel_rfl
theorem zc170 : zcells I170 = some [.v (.int .i32 0)] := by kernel_rfl
theorem it170 : intTy Tryz.prog 170 = some .i32 := by kernel_rfl
abbrev I171 : TI := ⟨1, 4, 16, some (.agg #[(.int .i32 0), (.int .i32 0), (.int .i32 0), (.int .i32 0)]), [(0, 152), (1, 153), (2, 170), (3, 170)], 0, 0⟩
theorem ti171 : ti Tryz.prog 171 = some I171 := by kernel_rfl
theorem zc171 : zcells I171 = some [.v (.int .i32 0), .v (.int .i32 0), .v (.int .i32 0), .v (.int .i32 0)] := by kernel_rfl
abbrev I172 : TI := ⟨1, 4, 16, some (.agg #[(.int .i32 0), (.int .i32 0), (.int .i32 0), (.int .i32 0)]), [(0, 152), (1, 153), (2, 170), (3, 170)], 0, 0⟩
theorem ti172 : ti Tryz.prog 172 = some I172 := by kernel_rfl
theorem zc172 : zcells I172 = some [.v (.int .i32 0), .v (.int .i32 0), .v (.int .i32 0), .v (.int .i32 0)] := by kernel_rfl
theorem fl7_0 : fldAt Tryz.prog 7 0 = some (0, I2) := by kernel_rfl
theorem fl7_1 : fldAt Tryz.prog 7 1 = some (1, I3) := by kernel_rfl
theorem fl7_2 : fldAt Tryz.prog 7 2 = some (2, I4) := by kernel_rfl
theorem fl7_3 : fldAt Tryz.prog 7 3 = some (3, I6) := by kernel_rfl
theorem fl8_0 : fldAt Tryz.prog 8 0 = some (0, I2) := by kernel_rfl
theorem fl8_1 : fldAt Tryz.prog 8 1 = some (1, I3) := by kernel_rfl
theorem fl8_2 : fldAt Tryz.prog 8 2 = some (2, I4) := by kernel_rfl
theorem fl8_3 : fldAt Tryz.prog 8 3 = some (3, I6) := by kernel_rfl
theorem fl13_0 : fldAt Tryz.prog 13 0 = some (0, I9) := by kernel_rfl
theorem fl13_1 : fldAt Tryz.prog 13 1 = some (1, I12) := by kernel_rfl
theorem fl14_0 : fldAt Tryz.prog 14 0 = some (0, I9) := by kernel_rfl
theorem fl14_1 : fldAt Tryz.prog 14 1 = some (1, I12) := by kernel_rfl
theorem fl18_0 : fldAt Tryz.prog 18 0 = some (0, I17) := by kernel_rfl
theorem fl19_0 : fldAt Tryz.prog 19 0 = some (0, I17) := by kernel_rfl
theorem el22 : elemTI Tryz.prog 22 3 = some (I22, 3, I3) := by kernel_rfl
theorem el23 : elemTI Tryz.prog 23 3 = some (I23, 40, I40) := by kernel_rfl
theorem fl24_0 : fldAt Tryz.prog 24 0 = some (0, I22) := by kernel_rfl
theorem fl24_1 : fldAt Tryz.prog 24 1 = some (1, I23) := by kernel_rfl
theorem fl25_0 : fldAt Tryz.prog 25 0 = some (0, I22) := by kernel_rfl
theorem fl25_1 : fldAt Tryz.prog 25 1 = some (1, I23) := by kernel_rfl
theorem fl36_0 : fldAt Tryz.prog 36 0 = some (0, I3) := by kernel_rfl
theorem fl36_1 : fldAt Tryz.prog 36 1 = some (1, I3) := by kernel_rfl
theorem fl37_0 : fldAt Tryz.prog 37 0 = some (0, I3) := by kernel_rfl
theorem fl37_1 : fldAt Tryz.prog 37 1 = some (1, I3) := by kernel_rfl
theorem el38 : elemTI Tryz.prog 38 3 = some (I38, 37, I37) := by kernel_rfl
theorem fl39_0 : fldAt Tryz.prog 39 0 = some (0, I3) := by kernel_rfl
theorem fl39_1 : fldAt Tryz.prog 39 1 = some (1, I22) := by kernel_rfl
theorem fl39_2 : fldAt Tryz.prog 39 2 = some (2, I4) := by kernel_rfl
theorem fl39_3 : fldAt Tryz.prog 39 3 = some (3, I38) := by kernel_rfl
theorem fl40_0 : fldAt Tryz.prog 40 0 = some (0, I3) := by kernel_rfl
theorem fl40_1 : fldAt Tryz.prog 40 1 = some (1, I22) := by kernel_rfl
theorem fl40_2 : fldAt Tryz.prog 40 2 = some (2, I4) := by kernel_rfl
theorem fl40_3 : fldAt Tryz.prog 40 3 = some (3, I38) := by kernel_rfl
theorem fl44_0 : fldAt Tryz.prog 44 0 = some (0, I22) := by kernel_rfl
theorem fl44_1 : fldAt Tryz.prog 44 1 = some (1, I43) := by kernel_rfl
theorem fl45_0 : fldAt Tryz.prog 45 0 = some (0, I22) := by kernel_rfl
theorem fl45_1 : fldAt Tryz.prog 45 1 = some (1, I43) := by kernel_rfl
theorem fl52_0 : fldAt Tryz.prog 52 0 = some (0, I22) := by kernel_rfl
theorem fl52_1 : fldAt Tryz.prog 52 1 = some (1, I3) := by kernel_rfl
theorem fl52_2 : fldAt Tryz.prog 52 2 = some (2, I4) := by kernel_rfl
theorem fl53_0 : fldAt Tryz.prog 53 0 = some (0, I22) := by kernel_rfl
theorem fl53_1 : fldAt Tryz.prog 53 1 = some (1, I3) := by kernel_rfl
theorem fl53_2 : fldAt Tryz.prog 53 2 = some (2, I4) := by kernel_rfl
theorem el55 : elemTI Tryz.prog 55 3 = some (I55, 9, I9) := by kernel_rfl
theorem el76 : elemTI Tryz.prog 76 3 = some (I76, 5, I5) := by kernel_rfl
theorem fl77_0 : fldAt Tryz.prog 77 0 = some (0, I75) := by kernel_rfl
theorem fl77_1 : fldAt Tryz.prog 77 1 = some (1, I76) := by kernel_rfl
theorem fl78_0 : fldAt Tryz.prog 78 0 = some (0, I75) := by kernel_rfl
theorem fl78_1 : fldAt Tryz.prog 78 1 = some (1, I76) := by kernel_rfl
theorem el82 : elemTI Tryz.prog 82 2 = some (I82, 5, I5) := by kernel_rfl
theorem el83 : elemTI Tryz.prog 83 2 = some (I83, 5, I5) := by kernel_rfl
theorem el85 : elemTI Tryz.prog 85 3 = some (I85, 43, I43) := by kernel_rfl
theorem fl87_0 : fldAt Tryz.prog 87 0 = some (0, I85) := by kernel_rfl
theorem fl88_0 : fldAt Tryz.prog 88 0 = some (0, I85) := by kernel_rfl
theorem fl89_0 : fldAt Tryz.prog 89 0 = some (0, I17) := by kernel_rfl
theorem fl90_0 : fldAt Tryz.prog 90 0 = some (0, I17) := by kernel_rfl
theorem fl118_0 : fldAt Tryz.prog 118 0 = some (0, I9) := by kernel_rfl
theorem fl118_1 : fldAt Tryz.prog 118 1 = some (1, I9) := by kernel_rfl
theorem fl118_2 : fldAt Tryz.prog 118 2 = some (2, I43) := by kernel_rfl
theorem fl119_0 : fldAt Tryz.prog 119 0 = some (0, I9) := by kernel_rfl
theorem fl119_1 : fldAt Tryz.prog 119 1 = some (1, I9) := by kernel_rfl
theorem fl119_2 : fldAt Tryz.prog 119 2 = some (2, I43) := by kernel_rfl
theorem fl125_0 : fldAt Tryz.prog 125 0 = some (0, I9) := by kernel_rfl
theorem fl126_0 : fldAt Tryz.prog 126 0 = some (0, I9) := by kernel_rfl
theorem el131 : elemTI Tryz.prog 131 2 = some (I131, 5, I5) := by kernel_rfl
theorem el137 : elemTI Tryz.prog 137 2 = some (I137, 113, I113) := by kernel_rfl
theorem el142 : elemTI Tryz.prog 142 2 = some (I142, 5, I5) := by kernel_rfl
theorem fl144_0 : fldAt Tryz.prog 144 0 = some (0, I17) := by kernel_rfl
theorem fl144_1 : fldAt Tryz.prog 144 1 = some (1, I17) := by kernel_rfl
theorem fl144_2 : fldAt Tryz.prog 144 2 = some (2, I17) := by kernel_rfl
theorem fl144_3 : fldAt Tryz.prog 144 3 = some (3, I9) := by kernel_rfl
theorem fl145_0 : fldAt Tryz.prog 145 0 = some (0, I17) := by kernel_rfl
theorem fl145_1 : fldAt Tryz.prog 145 1 = some (1, I17) := by kernel_rfl
theorem fl145_2 : fldAt Tryz.prog 145 2 = some (2, I17) := by kernel_rfl
theorem fl145_3 : fldAt Tryz.prog 145 3 = some (3, I9) := by kernel_rfl
theorem el146 : elemTI Tryz.prog 146 2 = some (I146, 16, I16) := by kernel_rfl
theorem fl147_0 : fldAt Tryz.prog 147 0 = some (0, I146) := by kernel_rfl
theorem fl148_0 : fldAt Tryz.prog 148 0 = some (0, I146) := by kernel_rfl
theorem fl154_0 : fldAt Tryz.prog 154 0 = some (0, I12) := by kernel_rfl
theorem fl154_1 : fldAt Tryz.prog 154 1 = some (1, I12) := by kernel_rfl
theorem fl154_2 : fldAt Tryz.prog 154 2 = some (2, I127) := by kernel_rfl
theorem fl154_3 : fldAt Tryz.prog 154 3 = some (3, I149) := by kernel_rfl
theorem fl154_4 : fldAt Tryz.prog 154 4 = some (4, I5) := by kernel_rfl
theorem fl154_5 : fldAt Tryz.prog 154 5 = some (5, I5) := by kernel_rfl
theorem fl154_6 : fldAt Tryz.prog 154 6 = some (6, I150) := by kernel_rfl
theorem fl154_7 : fldAt Tryz.prog 154 7 = some (7, I151) := by kernel_rfl
theorem fl154_8 : fldAt Tryz.prog 154 8 = some (8, I102) := by kernel_rfl
theorem fl154_9 : fldAt Tryz.prog 154 9 = some (9, I152) := by kernel_rfl
theorem fl154_10 : fldAt Tryz.prog 154 10 = some (10, I153) := by kernel_rfl
theorem fl155_0 : fldAt Tryz.prog 155 0 = some (0, I12) := by kernel_rfl
theorem fl155_1 : fldAt Tryz.prog 155 1 = some (1, I12) := by kernel_rfl
theorem fl155_2 : fldAt Tryz.prog 155 2 = some (2, I127) := by kernel_rfl
theorem fl155_3 : fldAt Tryz.prog 155 3 = some (3, I149) := by kernel_rfl
theorem fl155_4 : fldAt Tryz.prog 155 4 = some (4, I5) := by kernel_rfl
theorem fl155_5 : fldAt Tryz.prog 155 5 = some (5, I5) := by kernel_rfl
theorem fl155_6 : fldAt Tryz.prog 155 6 = some (6, I150) := by kernel_rfl
theorem fl155_7 : fldAt Tryz.prog 155 7 = some (7, I151) := by kernel_rfl
theorem fl155_8 : fldAt Tryz.prog 155 8 = some (8, I102) := by kernel_rfl
theorem fl155_9 : fldAt Tryz.prog 155 9 = some (9, I152) := by kernel_rfl
theorem fl155_10 : fldAt Tryz.prog 155 10 = some (10, I153) := by kernel_rfl
theorem fl162_0 : fldAt Tryz.prog 162 0 = some (0, I9) := by kernel_rfl
theorem fl162_1 : fldAt Tryz.prog 162 1 = some (1, I150) := by kernel_rfl
theorem fl163_0 : fldAt Tryz.prog 163 0 = some (0, I9) := by kernel_rfl
theorem fl163_1 : fldAt Tryz.prog 163 1 = some (1, I150) := by kernel_rfl
theorem fl167_0 : fldAt Tryz.prog 167 0 = some (0, I152) := by kernel_rfl
theorem fl167_1 : fldAt Tryz.prog 167 1 = some (1, I166) := by kernel_rfl
theorem fl167_2 : fldAt Tryz.prog 167 2 = some (2, I166) := by kernel_rfl
theorem fl167_3 : fldAt Tryz.prog 167 3 = some (3, I127) := by kernel_rfl
theorem fl167_4 : fldAt Tryz.prog 167 4 = some (4, I127) := by kernel_rfl
theorem fl168_0 : fldAt Tryz.prog 168 0 = some (0, I152) := by kernel_rfl
theorem fl168_1 : fldAt Tryz.prog 168 1 = some (1, I166) := by kernel_rfl
theorem fl168_2 : fldAt Tryz.prog 168 2 = some (2, I166) := by kernel_rfl
theorem fl168_3 : fldAt Tryz.prog 168 3 = some (3, I127) := by kernel_rfl
theorem fl168_4 : fldAt Tryz.prog 168 4 = some (4, I127) := by kernel_rfl
theorem el169 : elemTI Tryz.prog 169 3 = some (I169, 172, I172) := by kernel_rfl
theorem fl171_0 : fldAt Tryz.prog 171 0 = some (0, I152) := by kernel_rfl
theorem fl171_1 : fldAt Tryz.prog 171 1 = some (1, I153) := by kernel_rfl
theorem fl171_2 : fldAt Tryz.prog 171 2 = some (2, I170) := by kernel_rfl
theorem fl171_3 : fldAt Tryz.prog 171 3 = some (3, I170) := by kernel_rfl
theorem fl172_0 : fldAt Tryz.prog 172 0 = some (0, I152) := by kernel_rfl
theorem fl172_1 : fldAt Tryz.prog 172 1 = some (1, I153) := by kernel_rfl
theorem fl172_2 : fldAt Tryz.prog 172 2 = some (2, I170) := by kernel_rfl
theorem fl172_3 : fldAt Tryz.prog 172 3 = some (3, I170) := by kernel_rfl
theorem eq37 : eqKinds Tryz.prog 37 = some [8, 8] := by kernel_rfl
theorem ar82 : arrTI Tryz.prog 82 = some 20 := by kernel_rfl
theorem ar83 : arrTI Tryz.prog 83 = some 20 := by kernel_rfl
theorem ar131 : arrTI Tryz.prog 131 = some 24 := by kernel_rfl
theorem ar137 : arrTI Tryz.prog 137 = some 20 := by kernel_rfl
theorem ar142 : arrTI Tryz.prog 142 = some 32 := by kernel_rfl
theorem ar146 : arrTI Tryz.prog 146 = some 0 := by kernel_rfl
attribute [go_sem] ti1 zc1 ti2 zc2 it2 ti3 zc3 it3 ti4 zc4 ki4 ti5 zc5 it5 ti6 zc6 it6 ti7 zc7 ti8 zc8 ti9 zc9 ki9 kn9 ti10 zc10 ki10 kn10 ti11 zc11 ki11 kn11 ti12 zc12 it12 ti13 zc13 ti14 zc14 ti15 zc15 ti16 zc16 ti17 zc17 ti18 zc18 ti19 zc19 ti20 zc20 ki20 ti21 zc21 it21 ti22 zc22 ki22 ti23 zc23 ki23 ti24 zc24 ti25 zc25 ti26 zc26 ti27 zc27 ti29 zc29 ti30 zc30 ti31 zc31 ti32 zc32 ti33 zc33 ti34 zc34 ti35 zc35 ti36 zc36 ti37 zc37 ti38 zc38 ki38 ti39 zc39 ti40 zc40 ti41 zc41 ti42 zc42 ki42 ti43 zc43 ki43 ti44 zc44 ti45 zc45 ti46 zc46 ti47 zc47 ti48 zc48 ti49 zc49 ti50 zc50 ti51 zc51 ti52 zc52 ti53 zc53 ti54 zc54 ti55 zc55 ki55 ti56 zc56 ti58 zc58 ti59 zc59 ti60 zc60 ti61 zc61 ti62 zc62 ti63 zc63 ti64 zc64 ti65 zc65 ki65 ti66 zc66 ki66 ti67 zc67 ti68 zc68 ti69 zc69 ti70 zc70 ti71 zc71 ti73 zc73 ti74 zc74 ti75 zc75 ti76 zc76 ki76 ti77 zc77 ti78 zc78 ti79 zc79 ti80 zc80 ti81 zc81 ti82 zc82 ti83 zc83 ti84 zc84 ti85 zc85 ki85 ti86 zc86 ti87 zc87 ti88 zc88 ti89 zc89 ti90 zc90 ti91 zc91 ti92 zc92 ki92 ti94 zc94 ti95 zc95 ki95 ti96 zc96 ti97 zc97 ki97 ti98 zc98 ti100 zc100 ti101 zc101 ti102 zc102 ti103 zc103 it103 ti105 zc105 ti106 zc106 ti107 zc107 ti108 zc108 ti110 zc110 ti111 zc111 ti112 zc112 ti113 zc113 it113 ti115 zc115 ti116 zc116 it116 ti117 zc117 ti118 zc118 ti119 zc119 ti120 zc120 ti121 zc121 ti122 zc122 ti123 zc123 ti124 zc124 ti125 zc125 ti126 zc126 ti127 zc127 it127 ti129 zc129 ti130 zc130 ti131 zc131 ti132 zc132 ti133 zc133 ti135 zc135 ti136 zc136 ti137 zc137 ti139 zc139 ti140 zc140 ti141 zc141 ti142 zc142 ti144 zc144 ti145 zc145 ti146 zc146 ti147 zc147 ti148 zc148 ti149 zc149 it149 ti150 zc150 it150 ti151 zc151 ti152 zc152 it152 ti153 zc153 it153 ti154 zc154 ti155 zc155 ti156 zc156 ti157 zc157 ti158 zc158 ti159 zc159 ti160 zc160 ti161 zc161 ti162 zc162 ti163 zc163 ti164 zc164 ti165 zc165 ti166 zc166 it166 ti167 zc167 ti168 zc168 ti169 zc169 ki169 ti170 zc170 it170 ti171 zc171 ti172 zc172 fl7_0 fl7_1 fl7_2 fl7_3 fl8_0 fl8_1 fl8_2 fl8_3 fl13_0 fl13_1 fl14_0 fl14_1 fl18_0 fl19_0 el22 el23 fl24_0 fl24_1 fl25_0 fl25_1 fl36_0 fl36_1 fl37_0 fl37_1 el38 fl39_0 fl39_1 fl39_2 fl39_3 fl40_0 fl40_1 fl40_2 fl40_3 fl44_0 fl44_1 fl45_0 fl45_1 fl52_0 fl52_1 fl52_2 fl53_0 fl53_1 fl53_2 el55 el76 fl77_0 fl77_1 fl78_0 fl78_1 el82 el83 el85 fl87_0 fl88_0 fl89_0 fl90_0 fl118_0 fl118_1 fl118_2 fl119_0 fl119_1 fl119_2 fl125_0 fl126_0 el131 el137 el142 fl144_0 fl144_1 fl144_2 fl144_3 fl145_0 fl145_1 fl145_2 fl145_3 el146 fl147_0 fl148_0 fl154_0 fl154_1 fl154_2 fl154_3 fl154_4 fl154_5 fl154_6 fl154_7 fl154_8 fl154_9 fl154_10 fl155_0 fl155_1 fl155_2 fl155_3 fl155_4 fl155_5 fl155_6 fl155_7 fl155_8 fl155_9 fl155_10 fl162_0 fl162_1 fl163_0 fl163_1 fl167_0 fl167_1 fl167_2 fl167_3 fl167_4 fl168_0 fl168_1 fl168_2 fl168_3 fl168_4 el169 fl171_0 fl171_1 fl171_2 fl171_3 fl172_0 fl172_1 fl172_2 fl172_3 eq37 ar82 ar83 ar131 ar137 ar142 ar146
end Go.Proofs.YtokigghopmopbaaGreatDoor
namespace Go.Proofs.YtokigghopmopbaaGreatDoor
open Go.RowKit
theorem follows : Tryz.prog.follows .mixedOrders = true := by kernel_rfl
theorem vb {a b : Bool} (h : a = b) : HV.v (.bool a) = HV.v (.bool b) := by rw [h]
end Go.Proofs.YtokigghopmopbaaGreatDoor
namespace Go.Proofs.YtokigghopmopbaaGreatDoor
open Go.RowKit
set_option maxRecDepth 8000
theorem take_next {α : Type} {a b : List α} {i : Nat} {x : α} (h : a.take i = b.take i) (hx : a[i]? = some x) (hy : b[i]? = some x) : a.take (i + 1) = b.take (i + 1) := by
  rw [List.take_add_one, List.take_add_one, h, hx, hy]
theorem take_ne {α : Type} {a b : List α} {i : Nat} {x y : α} (hx : a[i]? = some x) (hy : b[i]? = some y) (e : x ≠ y) : a ≠ b := by
  rintro rfl; rw [hx] at hy; exact e (Option.some.inj hy)
theorem take_all {α : Type} {a b : List α} {i : Nat} (h : a.take i = b.take i) (hl : a.length = b.length) (hi : i = a.length) : a = b := by
  subst hi
  rwa [List.take_length, hl, List.take_length] at h
theorem len_eq {a b : Nat} : ((a : Int) = (b : Int)) = (a = b) := by simp only [eq_iff_iff]; omega
set_option maxHeartbeats 1000000 in
theorem refSameIntsM (a b : List Int) (ha : min a.length b.length ≤ 1000000) : HFn Tryz.prog 10 [.sl (ints a), .sl (ints b)] (.v (.bool (decide (a = b)))) := by
  refine HCalls_body (fn := Tryz.f10) 26 [4] (by kernel_rfl) rfl (by kernel_rfl) (HW.run 400 (by kernel_rfl) ?_)
  by_cases hl : a.length = b.length
  · have hl' : ((a.length : Int) = (b.length : Int)) = True := by rw [len_eq]; simp [hl]
    simp (config := { decide := true }) only [go_sem, Int.reduceToNat, Nat.reduceAdd, Nat.reduceSub, Nat.reduceMul, Nat.reduceBEq, reduceIte, reduceCtorEq, hl']
    refine HW.loopG (fun k T H => ∃ i : Nat, k = a.length - i ∧ i ≤ a.length ∧ a.take i = b.take i ∧ T 0 = .sl (ints a) ∧ T 1 = .sl (ints b) ∧ T 5 = .v (.int .i64 i) ∧ H = []) a.length ⟨_, _, Ghost.refl, 0, by simp, by omega, rfl, ?_, ?_, ?_, rfl⟩ ?_
    iterate 2 simp (config := { decide := true }) only [go_sem, Nat.reduceBEq, reduceIte]
    · simp (config := { decide := true }) only [go_sem, Nat.reduceBEq, reduceIte]; rfl
    · rintro k T H ⟨i, rfl, hi, heq, h0, h1, h5, rfl⟩
      refine HW.run 200 (by kernel_rfl) ?_
      by_cases hlt : i < a.length
      · have hlt' : ((i : Int) < (a.length : Int)) = True := by simp only [eq_iff_iff, iff_true]; omega
        have hx : a[i]? = some a[i] := List.getElem?_eq_getElem hlt
        have hy : b[i]? = some (b[i]'(by omega)) := List.getElem?_eq_getElem (by omega)
        generalize a[i] = x at hx
        generalize b[i]'(by omega) = y at hy
        have hlb : ((i : Int) < (b.length : Int)) = True := by simp only [eq_iff_iff, iff_true]; omega
        simp (config := { decide := true }) only [go_sem, Int.reduceToNat, Nat.reduceAdd, Nat.reduceSub, Nat.reduceMul, Nat.reduceBEq, reduceIte, reduceCtorEq, h0, h1, h5, hlt']
        refine HW.quiet 60 follows (by kernel_rfl) ?_
        by_cases hxy : x = y
        · subst hxy
          simp (config := { decide := true }) only [go_sem, Int.reduceToNat, Nat.reduceAdd, Nat.reduceSub, Nat.reduceMul, Nat.reduceBEq, reduceIte, reduceCtorEq, h0, h1, h5, hx, hy, hlt', hlb]
          refine ⟨_, _, Ghost.refl, a.length - (i + 1), by omega, i + 1, rfl, by omega, take_next heq hx hy, ?_, ?_, ?_, rfl⟩
          all_goals first | (simp (config := { decide := true }) only [go_sem, Nat.reduceBEq, reduceIte, h0, h1]; done) | (simp (config := { decide := true }) only [go_sem, Nat.reduceBEq, reduceIte]; rw [w64 (by omega) (by omega)]; rfl)
        · have hne := take_ne hx hy hxy
          simp (config := { decide := true }) only [go_sem, Int.reduceToNat, Nat.reduceAdd, Nat.reduceSub, Nat.reduceMul, Nat.reduceBEq, reduceIte, reduceCtorEq, h0, h1, h5, hx, hy, hlt', hlb, hxy]
          exact vb (by simp [hne])
      · have hlt' : ((i : Int) < (a.length : Int)) = False := by simp only [eq_iff_iff, iff_false]; omega
        simp (config := { decide := true }) only [go_sem, Int.reduceToNat, Nat.reduceAdd, Nat.reduceSub, Nat.reduceMul, Nat.reduceBEq, reduceIte, reduceCtorEq, h0, h1, h5, hlt']
        exact vb (by rw [take_all heq hl (by omega)]; simp)
  · have hl' : ((a.length : Int) = (b.length : Int)) = False := by rw [len_eq]; simp [hl]
    simp (config := { decide := true }) only [go_sem, Int.reduceToNat, Nat.reduceAdd, Nat.reduceSub, Nat.reduceMul, Nat.reduceBEq, reduceIte, reduceCtorEq, hl']
    exact vb (by symm; rw [decide_eq_false_iff_not]; rintro rfl; exact hl rfl)
theorem refSameInts (a b : List Int) (ha : a.length ≤ 1000000) : HFn Tryz.prog 10 [.sl (ints a), .sl (ints b)] (.v (.bool (decide (a = b)))) := refSameIntsM a b (by omega)
set_option maxHeartbeats 1000000 in
theorem refSameWrts (a b : List (Int × Int)) (ha : a.length ≤ 1000000) : HFn Tryz.prog 45 [.sl (wrts a), .sl (wrts b)] (.v (.bool (decide (a = b)))) := by
  refine HCalls_body (fn := Tryz.f45) 26 [4] (by kernel_rfl) rfl (by kernel_rfl) (HW.run 400 (by kernel_rfl) ?_)
  by_cases hl : a.length = b.length
  · have hl' : ((a.length : Int) = (b.length : Int)) = True := by rw [len_eq]; simp [hl]
    simp (config := { decide := true }) only [go_sem, Int.reduceToNat, Nat.reduceAdd, Nat.reduceSub, Nat.reduceMul, Nat.reduceBEq, reduceIte, reduceCtorEq, hl']
    refine HW.loopG (fun k T H => ∃ i : Nat, k = a.length - i ∧ i ≤ a.length ∧ a.take i = b.take i ∧ T 0 = .sl (wrts a) ∧ T 1 = .sl (wrts b) ∧ T 5 = .v (.int .i64 i) ∧ H = []) a.length ⟨_, _, Ghost.refl, 0, by simp, by omega, rfl, ?_, ?_, ?_, rfl⟩ ?_
    iterate 2 simp (config := { decide := true }) only [go_sem, Nat.reduceBEq, reduceIte]
    · simp (config := { decide := true }) only [go_sem, Nat.reduceBEq, reduceIte]; rfl
    · rintro k T H ⟨i, rfl, hi, heq, h0, h1, h5, rfl⟩
      refine HW.run 200 (by kernel_rfl) ?_
      by_cases hlt : i < a.length
      · have hlt' : ((i : Int) < (a.length : Int)) = True := by simp only [eq_iff_iff, iff_true]; omega
        have hx : a[i]? = some a[i] := List.getElem?_eq_getElem hlt
        have hy : b[i]? = some (b[i]'(by omega)) := List.getElem?_eq_getElem (by omega)
        generalize a[i] = x at hx
        generalize b[i]'(by omega) = y at hy
        have hlb : ((i : Int) < (b.length : Int)) = True := by simp only [eq_iff_iff, iff_true]; omega
        simp (config := { decide := true }) only [go_sem, Int.reduceToNat, Nat.reduceAdd, Nat.reduceSub, Nat.reduceMul, Nat.reduceBEq, reduceIte, reduceCtorEq, h0, h1, h5, hlt']
        refine HW.quiet 60 follows (by kernel_rfl) ?_
        by_cases hxy : x = y
        · subst hxy
          simp (config := { decide := true }) only [go_sem, Int.reduceToNat, Nat.reduceAdd, Nat.reduceSub, Nat.reduceMul, Nat.reduceBEq, reduceIte, reduceCtorEq, h0, h1, h5, hx, hy, hlt', hlb]
          refine ⟨_, _, Ghost.refl, a.length - (i + 1), by omega, i + 1, rfl, by omega, take_next heq hx hy, ?_, ?_, ?_, rfl⟩
          all_goals first | (simp (config := { decide := true }) only [go_sem, Nat.reduceBEq, reduceIte, h0, h1]; done) | (simp (config := { decide := true }) only [go_sem, Nat.reduceBEq, reduceIte]; rw [w64 (by omega) (by omega)]; rfl)
        · have hne := take_ne hx hy hxy
          have hd : (decide (x.1 = y.1) && decide (x.2 = y.2)) = false := by
            rw [Bool.eq_false_iff]
            simp only [ne_eq, Bool.and_eq_true, decide_eq_true_eq]
            exact fun h => hxy (Prod.ext h.1 h.2)
          simp (config := { decide := true }) only [go_sem, Int.reduceToNat, Nat.reduceAdd, Nat.reduceSub, Nat.reduceMul, Nat.reduceBEq, reduceIte, reduceCtorEq, h0, h1, h5, hx, hy, hlt', hlb, hxy, hd]
          exact vb (by simp [hne])
      · have hlt' : ((i : Int) < (a.length : Int)) = False := by simp only [eq_iff_iff, iff_false]; omega
        simp (config := { decide := true }) only [go_sem, Int.reduceToNat, Nat.reduceAdd, Nat.reduceSub, Nat.reduceMul, Nat.reduceBEq, reduceIte, reduceCtorEq, h0, h1, h5, hlt']
        exact vb (by rw [take_all heq hl (by omega)]; simp)
  · have hl' : ((a.length : Int) = (b.length : Int)) = False := by rw [len_eq]; simp [hl]
    simp (config := { decide := true }) only [go_sem, Int.reduceToNat, Nat.reduceAdd, Nat.reduceSub, Nat.reduceMul, Nat.reduceBEq, reduceIte, reduceCtorEq, hl']
    exact vb (by symm; rw [decide_eq_false_iff_not]; rintro rfl; exact hl rfl)
end Go.Proofs.YtokigghopmopbaaGreatDoor
namespace Go.Proofs.YtokigghopmopbaaGreatDoor
open Go.RowKit
set_option maxRecDepth 8000
def sameT (x y : Thd) : Bool := decide (x.pc = y.pc) && (decide (x.eq = y.eq) && (decide (x.regs = y.regs) && decide (x.buf = y.buf)))
theorem refSameTh (x y : Thd) (hx : x.regs.length ≤ 1000000 ∧ x.buf.length ≤ 1000000) : HFn Tryz.prog 31 [.ag (throw x), .ag (throw y)] (.v (.bool (sameT x y))) := by
  refine HCalls_body (fn := Tryz.f31) 31 [4] (by kernel_rfl) rfl (by kernel_rfl) (HW.run 400 (by kernel_rfl) ?_)
  obtain ⟨a, r, e, b⟩ := x
  obtain ⟨a', r', e', b'⟩ := y
  by_cases c1 : a = a'
  · subst c1
    by_cases c2 : e = e'
    · subst c2
      simp (config := { decide := true }) only [go_sem, Int.reduceToNat, Nat.reduceAdd, Nat.reduceSub, Nat.reduceMul, Nat.reduceBEq, reduceIte, reduceCtorEq, throw]
      refine callX_fn 3 (refSameInts r r' hx.1) (by simp only [go_sem]) rfl ?_
      by_cases c3 : r = r'
      · subst c3
        simp (config := { decide := true }) only [go_sem, Int.reduceToNat, Nat.reduceAdd, Nat.reduceSub, Nat.reduceMul, Nat.reduceBEq, reduceIte, reduceCtorEq]
        refine callX_fn 3 (refSameWrts b b' hx.2) (by simp only [go_sem]) rfl ?_
        simp (config := { decide := true }) only [go_sem, Int.reduceToNat, Nat.reduceAdd, Nat.reduceSub, Nat.reduceMul, Nat.reduceBEq, reduceIte, reduceCtorEq]
        exact vb (by simp [sameT])
      · simp (config := { decide := true }) only [go_sem, Int.reduceToNat, Nat.reduceAdd, Nat.reduceSub, Nat.reduceMul, Nat.reduceBEq, reduceIte, reduceCtorEq, c3]
        exact vb (by simp [sameT, c3])
    · simp (config := { decide := true }) only [go_sem, Int.reduceToNat, Nat.reduceAdd, Nat.reduceSub, Nat.reduceMul, Nat.reduceBEq, reduceIte, reduceCtorEq, throw, c2]
      exact vb (by simp [sameT, c2])
  · simp (config := { decide := true }) only [go_sem, Int.reduceToNat, Nat.reduceAdd, Nat.reduceSub, Nat.reduceMul, Nat.reduceBEq, reduceIte, reduceCtorEq, throw, c1]
    exact vb (by simp [sameT, c1])
end Go.Proofs.YtokigghopmopbaaGreatDoor
namespace Go.Proofs.YtokigghopmopbaaGreatDoor
open Go.RowKit
section
variable {N L : Nat} {T : Nat → HV} {H : Heap}
theorem Ghost.open (id r c : Nat) : Ghost N L T H T (gopen H id r c) := fun B Z G FP ds a w hL hs => by
  obtain ⟨G', FP', h1, h2, h3⟩ := gopen_inv hs.inv id r c
  exact ⟨Z, G', FP', hs.evo h1 h2 h3, GLt.of hL h2, h3⟩
theorem Ghost.to {T' : Nat → HV} {H1 H2 : Heap} (g : Ghost N L T H T' H1) (e : H1 = H2) : Ghost N L T H T' H2 := e ▸ g
theorem row_last {A : List (List HV)} {r : List HV} {i : Nat} (h : A.length = i) : (A ++ [r])[i]? = some r := by subst h; simp
theorem set_last {A : List (List HV)} {r x : List HV} {i : Nat} (h : A.length = i) : (A ++ [r]).set i x = A ++ [x] := by subst h; simp
variable {R : (Nat → HV) → Heap → Prop} {T' : Nat → HV} {H' : Heap}
theorem GQ.step (g : Ghost N L T H T' H') (h : GQ N L R T' H') : GQ N L R T H := by
  obtain ⟨T2, H2, g2, hR⟩ := h
  exact ⟨T2, H2, g.trans g2, hR⟩
theorem GQ.done (h : R T H) : GQ N L R T H := ⟨T, H, Ghost.refl, h⟩
end
theorem gopens_4 {H : Heap} {id r c : Nat} : gopens H id r c 4 = gopen (gopen (gopen (gopen H id r c) id r (c + 1)) id r (c + 1 + 1)) id r (c + 1 + 1 + 1) := rfl
theorem set_set {A : List (List HV)} {i : Nat} (X Y : List HV) : (A.set i X).set i Y = A.set i Y := by simp
theorem fz_ow {k : Nat} {H : Heap} {e : TypeId} {sz : Nat} {rows : List (List HV)} : fz (k + 1) H (.ow e sz rows) = .sl (fzoR rows) := rfl
attribute [go_sem] fz_ow gopens_4 set_set Option.getD_some Option.getD_none Option.isSome_none List.length_set
end Go.Proofs.YtokigghopmopbaaGreatDoor
namespace Go.Proofs.YtokigghopmopbaaGreatDoor
open Go.RowKit
def head (all : List Oper) (m f : Nat) (of : Oper) : List Oper := (all.take m).set f { of with op := .move (.global 999999) }
structure Pend (te : TypeId) (zc : Array Value) (w0 : World) (Z : Nat → Prop) (FP : Nat → List Nat) (w : World) (b : Nat) : Prop where
  new : w0.heap.size ≤ b
  cells : w.heap[b]? = some (.cells zc te (0, 0))
  z : ¬ Z b
  fp : ∀ id, b ∉ FP id
theorem Pend.evo {te : TypeId} {zc : Array Value} {w0 w w' : World} {Z Z' : Nat → Prop} {FP FP' : Nat → List Nat} {b : Nat} (h : Pend te zc w0 Z FP w b) (e : Evo Z FP w Z' FP' w') : Pend te zc w0 Z' FP' w' b := by
  have hlt := (Array.getElem?_eq_some_iff.1 h.cells).1
  refine ⟨h.new, (e.keep b hlt h.fp).trans h.cells, fun hz => ?_, fun id hc => ?_⟩
  · rcases e.znew b hz with h1 | h1 | ⟨id, h1⟩
    · exact h.z h1
    · omega
    · exact h.fp id h1
  · rcases e.fnew id b hc with h1 | ⟨id', h1⟩
    · omega
    · exact h.fp id' h1
section go
variable {P : Program} {N L m mm B : Nat} {base : Nat × Nat} {hv : List Nat} {ro : Option Nat} {all : List Oper} {Φ : Exit → Act → World → Prop}
end go
section
variable {P : Program} {N L : Nat} {base : Nat × Nat} {hv : List Nat} {Q : Exit → KS} {H : Heap}
def nameFl (P : Program) (k : KS) (of : Oper) : KS := fun T H =>
  match of.op with
  | .alloc t => onR (ralloc P H t) fun x H' => k (updO T of.dst x) H'
  | _ => False
theorem nameFl_alloc {k : KS} {d : Option Nat} {t ty : TypeId} {pos : String} {af : Array Edge} {g : Option (Nat × Bool)} {T : Nat → HV} : nameFl P k { dst := d, op := .alloc t, type := ty, pos := pos, after := af, guard := g } T H = onR (ralloc P H t) fun x H' => k (updO T d x) H' := rfl
theorem onR_some {p : Prop} {x : HV} {H' : Heap} {K : KT} : onR (some (p, x, H')) K = (p ∧ K x H') := rfl
theorem hev_global {T : Nat → HV} {g : Nat} : hev T (.global g) = if globE g = true then .fp [[.ic globT (.gv g)]] 0 0 else .any := rfl
attribute [go_sem] nameFl_alloc onR_some hev_global head
end
end Go.Proofs.YtokigghopmopbaaGreatDoor
namespace Go.Proofs.YtokigghopmopbaaGreatDoor
open Go.RowKit
section
variable {N L : Nat} {T : Nat → HV} {H : Heap}
theorem Ghost.freeze (i n j q o : Nat) {ob : HObj} {row : List HV} (hi : T i = .pt n j q o) (ho : H[n]? = some (some ob)) (hj : j = ob.rows.length) (hq : ob.rows[q]? = some row) : Ghost N L T H (upd T i (.fp (fzoR ob.rows) q o)) (H.set n none) := fun B Z G FP ds a w hL hs => by
  have hk := hs.inv.freeze n
  have hG : GLe G (G.set n none) := GLe.kill n
  have hE : Evo Z FP w (Zid Z FP n) (fun j => if j = n then [] else FP j) w := evo_freeze n
  have hs' := hs.evo hk hG hE
  refine ⟨_, _, _, ⟨hs'.inv, hs'.size, fun c hc => ?_, hs'.defers, hs'.dsn, hs'.dsat⟩, GLt.of hL hG, hE⟩
  unfold upd
  split
  · rename_i e
    subst e
    have h0 := hs.tmps c hc
    rw [hi] at h0
    obtain ⟨g, b, cells, f, hg, hOB, hb, e2, e3, e4, e5, e6, e7, hy, hrl⟩ := pt_at hs.inv ho hj hq h0
    rw [hy]
    simp only [RV]
    have hrow : rowLen (fzoR ob.rows) = ob.sz := by
      cases hr : ob.rows with
      | nil => rw [hr] at hq; cases hq
      | cons r0 rs =>
        have := hOB.len r0 (by rw [hr]; simp)
        simp only [fzoR, rowLen, List.headD_cons]
        rw [fzoL_length]; exact this
    refine ⟨trivial, b, 0, by rw [hrow, Nat.zero_add], .inr (by rw [e2]; simp), ?_, ?_⟩
    · refine uni_len (sz := ob.sz) fun r hr => ?_
      rw [fzoR_get] at hr
      obtain ⟨r', hr', rfl⟩ := List.mem_map.1 hr
      rw [fzoL_length]; exact hOB.len r' hr'
    · exact fzoR_spec ob.rows G b 0 f ⟨fun b hb => .inl hb, fun b hb => .inr (by rw [e2]; simp [hb])⟩ e7
  · exact hs'.tmps c hc
end
end Go.Proofs.YtokigghopmopbaaGreatDoor
