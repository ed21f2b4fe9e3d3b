/- Facts on the types of the seat's program. Printed by a program of my own. -/
import Derived.Test.YtcpefnjofekibaaDoorHiS
import Derived.Test.YtcpefnjofekibaaDoorProg
namespace Go.Proofs.YtcpefnjofekibaaDoor
open Go.RowKit
set_option linter.unusedVariables false
set_option maxRecDepth 8000

abbrev I1 : TI := ⟨10, 1, 8, some .nilFunc, [], 0, 0⟩
theorem ti1 : ti Tryd.prog 1 = some I1 := by kernel_rfl
theorem zc1 : zcells I1 = some [.v .nilFunc] := by kernel_rfl
abbrev I2 : TI := ⟨8, 1, 8, some (.int .i64 0), [], 0, 0⟩
theorem ti2 : ti Tryd.prog 2 = some I2 := by kernel_rfl
theorem zc2 : zcells I2 = some [.v (.int .i64 0)] := by kernel_rfl
theorem it2 : intTy Tryd.prog 2 = some .i64 := by kernel_rfl
abbrev I3 : TI := ⟨8, 1, 8, some (.int .i64 0), [], 0, 0⟩
theorem ti3 : ti Tryd.prog 3 = some I3 := by kernel_rfl
theorem zc3 : zcells I3 = some [.v (.int .i64 0)] := by kernel_rfl
theorem it3 : intTy Tryd.prog 3 = some .i64 := by kernel_rfl
abbrev I4 : TI := ⟨7, 1, 1, some (.bool false), [], 0, 0⟩
theorem ti4 : ti Tryd.prog 4 = some I4 := by kernel_rfl
theorem zc4 : zcells I4 = some [.v (.bool false)] := by kernel_rfl
theorem ki4 : kindIs Tryd.prog 4 7 = true := by kernel_rfl
abbrev I5 : TI := ⟨8, 1, 1, some (.int .u8 0), [], 0, 0⟩
theorem ti5 : ti Tryd.prog 5 = some I5 := by kernel_rfl
theorem zc5 : zcells I5 = some [.v (.int .u8 0)] := by kernel_rfl
theorem it5 : intTy Tryd.prog 5 = some .u8 := by kernel_rfl
abbrev I6 : TI := ⟨8, 1, 1, some (.int .u8 0), [], 0, 0⟩
theorem ti6 : ti Tryd.prog 6 = some I6 := by kernel_rfl
theorem zc6 : zcells I6 = some [.v (.int .u8 0)] := by kernel_rfl
theorem it6 : intTy Tryd.prog 6 = some .u8 := by kernel_rfl
abbrev I7 : TI := ⟨1, 4, 24, some (.agg #[(.int .i64 0), (.int .i64 0), (.bool false), (.int .u8 0)]), [(0, 2), (1, 3), (2, 4), (3, 6)], 0, 0⟩
theorem ti7 : ti Tryd.prog 7 = some I7 := by kernel_rfl
theorem zc7 : zcells I7 = some [.v (.int .i64 0), .v (.int .i64 0), .v (.bool false), .v (.int .u8 0)] := by kernel_rfl
abbrev I8 : TI := ⟨1, 4, 24, some (.agg #[(.int .i64 0), (.int .i64 0), (.bool false), (.int .u8 0)]), [(0, 2), (1, 3), (2, 4), (3, 6)], 0, 0⟩
theorem ti8 : ti Tryd.prog 8 = some I8 := by kernel_rfl
theorem zc8 : zcells I8 = some [.v (.int .i64 0), .v (.int .i64 0), .v (.bool false), .v (.int .u8 0)] := by kernel_rfl
abbrev I9 : TI := ⟨4, 1, 16, some (str []), [], 0, 0⟩
theorem ti9 : ti Tryd.prog 9 = some I9 := by kernel_rfl
theorem zc9 : zcells I9 = some [.v (str [])] := by kernel_rfl
theorem ki9 : kindIs Tryd.prog 9 4 = true := by kernel_rfl
theorem kn9 : kindIs Tryd.prog 9 3 = false := by kernel_rfl
abbrev I10 : TI := ⟨4, 1, 16, some (str []), [], 0, 0⟩
theorem ti10 : ti Tryd.prog 10 = some I10 := by kernel_rfl
theorem zc10 : zcells I10 = some [.v (str [])] := by kernel_rfl
theorem ki10 : kindIs Tryd.prog 10 4 = true := by kernel_rfl
theorem kn10 : kindIs Tryd.prog 10 3 = false := by kernel_rfl
abbrev I11 : TI := ⟨4, 1, 16, some (str []), [], 0, 0⟩
theorem ti11 : ti Tryd.prog 11 = some I11 := by kernel_rfl
theorem zc11 : zcells I11 = some [.v (str [])] := by kernel_rfl
theorem ki11 : kindIs Tryd.prog 11 4 = true := by kernel_rfl
theorem kn11 : kindIs Tryd.prog 11 3 = false := by kernel_rfl
abbrev I12 : TI := ⟨8, 1, 8, some (.int .u64 0), [], 0, 0⟩
theorem ti12 : ti Tryd.prog 12 = some I12 := by kernel_rfl
theorem zc12 : zcells I12 = some [.v (.int .u64 0)] := by kernel_rfl
theorem it12 : intTy Tryd.prog 12 = some .u64 := by kernel_rfl
abbrev I13 : TI := ⟨1, 2, 24, some (.agg #[(str []), (.int .u64 0)]), [(0, 9), (1, 12)], 0, 0⟩
theorem ti13 : ti Tryd.prog 13 = some I13 := by kernel_rfl
theorem zc13 : zcells I13 = some [.v (str []), .v (.int .u64 0)] := by kernel_rfl
abbrev I14 : TI := ⟨1, 2, 24, some (.agg #[(str []), (.int .u64 0)]), [(0, 9), (1, 12)], 0, 0⟩
theorem ti14 : ti Tryd.prog 14 = some I14 := by kernel_rfl
theorem zc14 : zcells I14 = some [.v (str []), .v (.int .u64 0)] := by kernel_rfl
abbrev I15 : TI := ⟨6, 1, 8, some (.pointer none), [], 126, 0⟩
theorem ti15 : ti Tryd.prog 15 = some I15 := by kernel_rfl
theorem zc15 : zcells I15 = some [.v (.pointer none)] := by kernel_rfl
abbrev I16 : TI := ⟨6, 1, 8, some (.pointer none), [], 129, 0⟩
theorem ti16 : ti Tryd.prog 16 = some I16 := by kernel_rfl
theorem zc16 : zcells I16 = some [.v (.pointer none)] := by kernel_rfl
abbrev I17 : TI := ⟨6, 1, 8, some (.pointer none), [], 137, 0⟩
theorem ti17 : ti Tryd.prog 17 = some I17 := by kernel_rfl
theorem zc17 : zcells I17 = some [.v (.pointer none)] := by kernel_rfl
abbrev I18 : TI := ⟨1, 1, 8, some (.agg #[(.pointer none)]), [(0, 17)], 0, 0⟩
theorem ti18 : ti Tryd.prog 18 = some I18 := by kernel_rfl
theorem zc18 : zcells I18 = some [.v (.pointer none)] := by kernel_rfl
abbrev I19 : TI := ⟨1, 1, 8, some (.agg #[(.pointer none)]), [(0, 17)], 0, 0⟩
theorem ti19 : ti Tryd.prog 19 = some I19 := by kernel_rfl
theorem zc19 : zcells I19 = some [.v (.pointer none)] := by kernel_rfl
abbrev I20 : TI := ⟨9, 1, 16, some .nilIface, [], 0, 0⟩
theorem ti20 : ti Tryd.prog 20 = some I20 := by kernel_rfl
theorem zc20 : zcells I20 = some [.v .nilIface] := by kernel_rfl
theorem ki20 : kindIs Tryd.prog 20 9 = true := by kernel_rfl
abbrev I21 : TI := ⟨8, 1, 4, some (.int .i32 0), [], 0, 0⟩
theorem ti21 : ti Tryd.prog 21 = some I21 := by kernel_rfl
theorem zc21 : zcells I21 = some [.v (.int .i32 0)] := by kernel_rfl
theorem it21 : intTy Tryd.prog 21 = some .i32 := by kernel_rfl
abbrev I22 : TI := ⟨1, 5, 64, some (.agg #[(.int .i64 0), (str []), (str []), (str []), (.int .i64 0)]), [(0, 3), (1, 9), (2, 9), (3, 9), (4, 3)], 0, 0⟩
theorem ti22 : ti Tryd.prog 22 = some I22 := by kernel_rfl
theorem zc22 : zcells I22 = some [.v (.int .i64 0), .v (str []), .v (str []), .v (str []), .v (.int .i64 0)] := by kernel_rfl
abbrev I23 : TI := ⟨1, 5, 64, some (.agg #[(.int .i64 0), (str []), (str []), (str []), (.int .i64 0)]), [(0, 3), (1, 9), (2, 9), (3, 9), (4, 3)], 0, 0⟩
theorem ti23 : ti Tryd.prog 23 = some I23 := by kernel_rfl
theorem zc23 : zcells I23 = some [.v (.int .i64 0), .v (str []), .v (str []), .v (str []), .v (.int .i64 0)] := by kernel_rfl
abbrev I24 : TI := ⟨3, 1, 24, some (.slice none 0 0), [], 9, 0⟩
theorem ti24 : ti Tryd.prog 24 = some I24 := by kernel_rfl
theorem zc24 : zcells I24 = some [.v (.slice none 0 0)] := by kernel_rfl
theorem ki24 : kindIs Tryd.prog 24 3 = true := by kernel_rfl
abbrev I25 : TI := ⟨1, 3, 32, some (.agg #[(.int .i64 0), (str []), (.int .i64 0)]), [(0, 3), (1, 9), (2, 3)], 0, 0⟩
theorem ti25 : ti Tryd.prog 25 = some I25 := by kernel_rfl
theorem zc25 : zcells I25 = some [.v (.int .i64 0), .v (str []), .v (.int .i64 0)] := by kernel_rfl
abbrev I26 : TI := ⟨1, 3, 32, some (.agg #[(.int .i64 0), (str []), (.int .i64 0)]), [(0, 3), (1, 9), (2, 3)], 0, 0⟩
theorem ti26 : ti Tryd.prog 26 = some I26 := by kernel_rfl
theorem zc26 : zcells I26 = some [.v (.int .i64 0), .v (str []), .v (.int .i64 0)] := by kernel_rfl
abbrev I27 : TI := ⟨10, 1, 8, some .nilFunc, [], 0, 0⟩
theorem ti27 : ti Tryd.prog 27 = some I27 := by kernel_rfl
theorem zc27 : zcells I27 = some [.v .nilFunc] := by kernel_rfl
abbrev I28 : TI := ⟨10, 1, 8, some .nilFunc, [], 0, 0⟩
theorem ti28 : ti Tryd.prog 28 = some I28 := by kernel_rfl
theorem zc28 : zcells I28 = some [.v .nilFunc] := by kernel_rfl
abbrev I29 : TI := ⟨10, 1, 8, some .nilFunc, [], 0, 0⟩
theorem ti29 : ti Tryd.prog 29 = some I29 := by kernel_rfl
theorem zc29 : zcells I29 = some [.v .nilFunc] := by kernel_rfl
abbrev I31 : TI := ⟨10, 1, 8, some .nilFunc, [], 0, 0⟩
theorem ti31 : ti Tryd.prog 31 = some I31 := by kernel_rfl
theorem zc31 : zcells I31 = some [.v .nilFunc] := by kernel_rfl
abbrev I33 : TI := ⟨10, 1, 8, some .nilFunc, [], 0, 0⟩
theorem ti33 : ti Tryd.prog 33 = some I33 := by kernel_rfl
theorem zc33 : zcells I33 = some [.v .nilFunc] := by kernel_rfl
abbrev I34 : TI := ⟨10, 1, 8, some .nilFunc, [], 0, 0⟩
theorem ti34 : ti Tryd.prog 34 = some I34 := by kernel_rfl
theorem zc34 : zcells I34 = some [.v .nilFunc] := by kernel_rfl
abbrev I35 : TI := ⟨10, 1, 8, some .nilFunc, [], 0, 0⟩
theorem ti35 : ti Tryd.prog 35 = some I35 := by kernel_rfl
theorem zc35 : zcells I35 = some [.v .nilFunc] := by kernel_rfl
abbrev I36 : TI := ⟨10, 1, 8, some .nilFunc, [], 0, 0⟩
theorem ti36 : ti Tryd.prog 36 = some I36 := by kernel_rfl
theorem zc36 : zcells I36 = some [.v .nilFunc] := by kernel_rfl
abbrev I37 : TI := ⟨10, 1, 8, some .nilFunc, [], 0, 0⟩
theorem ti37 : ti Tryd.prog 37 = some I37 := by kernel_rfl
theorem zc37 : zcells I37 = some [.v .nilFunc] := by kernel_rfl
abbrev I38 : TI := ⟨10, 1, 8, some .nilFunc, [], 0, 0⟩
theorem ti38 : ti Tryd.prog 38 = some I38 := by kernel_rfl
theorem zc38 : zcells I38 = some [.v .nilFunc] := by kernel_rfl
abbrev I39 : TI := ⟨10, 1, 8, some .nilFunc, [], 0, 0⟩
theorem ti39 : ti Tryd.prog 39 = some I39 := by kernel_rfl
theorem zc39 : zcells I39 = some [.v .nilFunc] := by kernel_rfl
abbrev I40 : TI := ⟨10, 1, 8, some .nilFunc, [], 0, 0⟩
theorem ti40 : ti Tryd.prog 40 = some I40 := by kernel_rfl
theorem zc40 : zcells I40 = some [.v .nilFunc] := by kernel_rfl
abbrev I41 : TI := ⟨10, 1, 8, some .nilFunc, [], 0, 0⟩
theorem ti41 : ti Tryd.prog 41 = some I41 := by kernel_rfl
theorem zc41 : zcells I41 = some [.v .nilFunc] := by kernel_rfl
abbrev I42 : TI := ⟨10, 1, 8, some .nilFunc, [], 0, 0⟩
theorem ti42 : ti Tryd.prog 42 = some I42 := by kernel_rfl
theorem zc42 : zcells I42 = some [.v .nilFunc] := by kernel_rfl
abbrev I43 : TI := ⟨10, 1, 8, some .nilFunc, [], 0, 0⟩
theorem ti43 : ti Tryd.prog 43 = some I43 := by kernel_rfl
theorem zc43 : zcells I43 = some [.v .nilFunc] := by kernel_rfl
abbrev I44 : TI := ⟨10, 1, 8, some .nilFunc, [], 0, 0⟩
theorem ti44 : ti Tryd.prog 44 = some I44 := by kernel_rfl
theorem zc44 : zcells I44 = some [.v .nilFunc] := by kernel_rfl
abbrev I45 : TI := ⟨10, 1, 8, some .nilFunc, [], 0, 0⟩
theorem ti45 : ti Tryd.prog 45 = some I45 := by kernel_rfl
theorem zc45 : zcells I45 = some [.v .nilFunc] := by kernel_rfl
abbrev I46 : TI := ⟨3, 1, 24, some (.slice none 0 0), [], 23, 0⟩
theorem ti46 : ti Tryd.prog 46 = some I46 := by kernel_rfl
theorem zc46 : zcells I46 = some [.v (.slice none 0 0)] := by kernel_rfl
theorem ki46 : kindIs Tryd.prog 46 3 = true := by kernel_rfl
abbrev I47 : TI := ⟨10, 1, 8, some .nilFunc, [], 0, 0⟩
theorem ti47 : ti Tryd.prog 47 = some I47 := by kernel_rfl
theorem zc47 : zcells I47 = some [.v .nilFunc] := by kernel_rfl
abbrev I49 : TI := ⟨10, 1, 8, some .nilFunc, [], 0, 0⟩
theorem ti49 : ti Tryd.prog 49 = some I49 := by kernel_rfl
theorem zc49 : zcells I49 = some [.v .nilFunc] := by kernel_rfl
abbrev I51 : TI := ⟨10, 1, 8, some .nilFunc, [], 0, 0⟩
theorem ti51 : ti Tryd.prog 51 = some I51 := by kernel_rfl
theorem zc51 : zcells I51 = some [.v .nilFunc] := by kernel_rfl
abbrev I52 : TI := ⟨9, 1, 16, some .nilIface, [], 0, 0⟩
theorem ti52 : ti Tryd.prog 52 = some I52 := by kernel_rfl
theorem zc52 : zcells I52 = some [.v .nilIface] := by kernel_rfl
theorem ki52 : kindIs Tryd.prog 52 9 = true := by kernel_rfl
abbrev I53 : TI := ⟨9, 1, 16, some .nilIface, [], 0, 0⟩
theorem ti53 : ti Tryd.prog 53 = some I53 := by kernel_rfl
theorem zc53 : zcells I53 = some [.v .nilIface] := by kernel_rfl
theorem ki53 : kindIs Tryd.prog 53 9 = true := by kernel_rfl
abbrev I54 : TI := ⟨10, 1, 8, some .nilFunc, [], 0, 0⟩
theorem ti54 : ti Tryd.prog 54 = some I54 := by kernel_rfl
theorem zc54 : zcells I54 = some [.v .nilFunc] := by kernel_rfl
abbrev I56 : TI := ⟨10, 1, 8, some .nilFunc, [], 0, 0⟩
theorem ti56 : ti Tryd.prog 56 = some I56 := by kernel_rfl
theorem zc56 : zcells I56 = some [.v .nilFunc] := by kernel_rfl
abbrev I57 : TI := ⟨10, 1, 8, some .nilFunc, [], 0, 0⟩
theorem ti57 : ti Tryd.prog 57 = some I57 := by kernel_rfl
theorem zc57 : zcells I57 = some [.v .nilFunc] := by kernel_rfl
abbrev I58 : TI := ⟨10, 1, 8, some .nilFunc, [], 0, 0⟩
theorem ti58 : ti Tryd.prog 58 = some I58 := by kernel_rfl
theorem zc58 : zcells I58 = some [.v .nilFunc] := by kernel_rfl
abbrev I59 : TI := ⟨10, 1, 8, some .nilFunc, [], 0, 0⟩
theorem ti59 : ti Tryd.prog 59 = some I59 := by kernel_rfl
theorem zc59 : zcells I59 = some [.v .nilFunc] := by kernel_rfl
abbrev I60 : TI := ⟨10, 1, 8, some .nilFunc, [], 0, 0⟩
theorem ti60 : ti Tryd.prog 60 = some I60 := by kernel_rfl
theorem zc60 : zcells I60 = some [.v .nilFunc] := by kernel_rfl
abbrev I61 : TI := ⟨10, 1, 8, some .nilFunc, [], 0, 0⟩
theorem ti61 : ti Tryd.prog 61 = some I61 := by kernel_rfl
theorem zc61 : zcells I61 = some [.v .nilFunc] := by kernel_rfl
abbrev I62 : TI := ⟨10, 1, 8, some .nilFunc, [], 0, 0⟩
theorem ti62 : ti Tryd.prog 62 = some I62 := by kernel_rfl
theorem zc62 : zcells I62 = some [.v .nilFunc] := by kernel_rfl
abbrev I64 : TI := ⟨10, 1, 8, some .nilFunc, [], 0, 0⟩
theorem ti64 : ti Tryd.prog 64 = some I64 := by kernel_rfl
theorem zc64 : zcells I64 = some [.v .nilFunc] := by kernel_rfl
abbrev I65 : TI := ⟨10, 1, 8, some .nilFunc, [], 0, 0⟩
theorem ti65 : ti Tryd.prog 65 = some I65 := by kernel_rfl
theorem zc65 : zcells I65 = some [.v .nilFunc] := by kernel_rfl
abbrev I66 : TI := ⟨10, 1, 8, some .nilFunc, [], 0, 0⟩
theorem ti66 : ti Tryd.prog 66 = some I66 := by kernel_rfl
theorem zc66 : zcells I66 = some [.v .nilFunc] := by kernel_rfl
abbrev I67 : TI := ⟨9, 1, 16, some .nilIface, [], 0, 0⟩
theorem ti67 : ti Tryd.prog 67 = some I67 := by kernel_rfl
theorem zc67 : zcells I67 = some [.v .nilIface] := by kernel_rfl
theorem ki67 : kindIs Tryd.prog 67 9 = true := by kernel_rfl
abbrev I68 : TI := ⟨9, 1, 16, some .nilIface, [], 0, 0⟩
theorem ti68 : ti Tryd.prog 68 = some I68 := by kernel_rfl
theorem zc68 : zcells I68 = some [.v .nilIface] := by kernel_rfl
theorem ki68 : kindIs Tryd.prog 68 9 = true := by kernel_rfl
abbrev I70 : TI := ⟨10, 1, 8, some .nilFunc, [], 0, 0⟩
theorem ti70 : ti Tryd.prog 70 = some I70 := by kernel_rfl
theorem zc70 : zcells I70 = some [.v .nilFunc] := by kernel_rfl
abbrev I71 : TI := ⟨1, 5, 64, some (.agg #[(.int .i64 0), (str []), (str []), (str []), (.int .i64 0)]), [(0, 23)], 0, 0⟩
theorem ti71 : ti Tryd.prog 71 = some I71 := by kernel_rfl
theorem zc71 : zcells I71 = some [.v (.int .i64 0), .v (str []), .v (str []), .v (str []), .v (.int .i64 0)] := by kernel_rfl
abbrev I72 : TI := ⟨1, 5, 64, some (.agg #[(.int .i64 0), (str []), (str []), (str []), (.int .i64 0)]), [(0, 23)], 0, 0⟩
theorem ti72 : ti Tryd.prog 72 = some I72 := by kernel_rfl
theorem zc72 : zcells I72 = some [.v (.int .i64 0), .v (str []), .v (str []), .v (str []), .v (.int .i64 0)] := by kernel_rfl
abbrev I73 : TI := ⟨1, 5, 64, some (.agg #[(.int .i64 0), (str []), (str []), (str []), (.int .i64 0)]), [(0, 72)], 0, 0⟩
theorem ti73 : ti Tryd.prog 73 = some I73 := by kernel_rfl
theorem zc73 : zcells I73 = some [.v (.int .i64 0), .v (str []), .v (str []), .v (str []), .v (.int .i64 0)] := by kernel_rfl
abbrev I74 : TI := ⟨1, 5, 64, some (.agg #[(.int .i64 0), (str []), (str []), (str []), (.int .i64 0)]), [(0, 72)], 0, 0⟩
theorem ti74 : ti Tryd.prog 74 = some I74 := by kernel_rfl
theorem zc74 : zcells I74 = some [.v (.int .i64 0), .v (str []), .v (str []), .v (str []), .v (.int .i64 0)] := by kernel_rfl
abbrev I75 : TI := ⟨1, 5, 64, some (.agg #[(.int .i64 0), (str []), (str []), (str []), (.int .i64 0)]), [(0, 72)], 0, 0⟩
theorem ti75 : ti Tryd.prog 75 = some I75 := by kernel_rfl
theorem zc75 : zcells I75 = some [.v (.int .i64 0), .v (str []), .v (str []), .v (str []), .v (.int .i64 0)] := by kernel_rfl
abbrev I76 : TI := ⟨1, 5, 64, some (.agg #[(.int .i64 0), (str []), (str []), (str []), (.int .i64 0)]), [(0, 72)], 0, 0⟩
theorem ti76 : ti Tryd.prog 76 = some I76 := by kernel_rfl
theorem zc76 : zcells I76 = some [.v (.int .i64 0), .v (str []), .v (str []), .v (str []), .v (.int .i64 0)] := by kernel_rfl
abbrev I77 : TI := ⟨10, 1, 8, some .nilFunc, [], 0, 0⟩
theorem ti77 : ti Tryd.prog 77 = some I77 := by kernel_rfl
theorem zc77 : zcells I77 = some [.v .nilFunc] := by kernel_rfl
abbrev I78 : TI := ⟨10, 1, 8, some .nilFunc, [], 0, 0⟩
theorem ti78 : ti Tryd.prog 78 = some I78 := by kernel_rfl
theorem zc78 : zcells I78 = some [.v .nilFunc] := by kernel_rfl
abbrev I79 : TI := ⟨3, 1, 24, some (.slice none 0 0), [], 5, 0⟩
theorem ti79 : ti Tryd.prog 79 = some I79 := by kernel_rfl
theorem zc79 : zcells I79 = some [.v (.slice none 0 0)] := by kernel_rfl
theorem ki79 : kindIs Tryd.prog 79 3 = true := by kernel_rfl
abbrev I80 : TI := ⟨2, 20, 20, some (.agg #[(.int .u8 0), (.int .u8 0), (.int .u8 0), (.int .u8 0), (.int .u8 0), (.int .u8 0), (.int .u8 0), (.int .u8 0), (.int .u8 0), (.int .u8 0), (.int .u8 0), (.int .u8 0), (.int .u8 0), (.int .u8 0), (.int .u8 0), (.int .u8 0), (.int .u8 0), (.int .u8 0), (.int .u8 0), (.int .u8 0)]), [], 5, 20⟩
theorem ti80 : ti Tryd.prog 80 = some I80 := by kernel_rfl
theorem zc80 : zcells I80 = some [.v (.int .u8 0), .v (.int .u8 0), .v (.int .u8 0), .v (.int .u8 0), .v (.int .u8 0), .v (.int .u8 0), .v (.int .u8 0), .v (.int .u8 0), .v (.int .u8 0), .v (.int .u8 0), .v (.int .u8 0), .v (.int .u8 0), .v (.int .u8 0), .v (.int .u8 0), .v (.int .u8 0), .v (.int .u8 0), .v (.int .u8 0), .v (.int .u8 0), .v (.int .u8 0), .v (.int .u8 0)] := by kernel_rfl
abbrev I81 : TI := ⟨2, 20, 20, some (.agg #[(.int .u8 0), (.int .u8 0), (.int .u8 0), (.int .u8 0), (.int .u8 0), (.int .u8 0), (.int .u8 0), (.int .u8 0), (.int .u8 0), (.int .u8 0), (.int .u8 0), (.int .u8 0), (.int .u8 0), (.int .u8 0), (.int .u8 0), (.int .u8 0), (.int .u8 0), (.int .u8 0), (.int .u8 0), (.int .u8 0)]), [], 5, 20⟩
theorem ti81 : ti Tryd.prog 81 = some I81 := by kernel_rfl
theorem zc81 : zcells I81 = some [.v (.int .u8 0), .v (.int .u8 0), .v (.int .u8 0), .v (.int .u8 0), .v (.int .u8 0), .v (.int .u8 0), .v (.int .u8 0), .v (.int .u8 0), .v (.int .u8 0), .v (.int .u8 0), .v (.int .u8 0), .v (.int .u8 0), .v (.int .u8 0), .v (.int .u8 0), .v (.int .u8 0), .v (.int .u8 0), .v (.int .u8 0), .v (.int .u8 0), .v (.int .u8 0), .v (.int .u8 0)] := by kernel_rfl
abbrev I82 : TI := ⟨10, 1, 8, some .nilFunc, [], 0, 0⟩
theorem ti82 : ti Tryd.prog 82 = some I82 := by kernel_rfl
theorem zc82 : zcells I82 = some [.v .nilFunc] := by kernel_rfl
abbrev I83 : TI := ⟨10, 1, 8, some .nilFunc, [], 0, 0⟩
theorem ti83 : ti Tryd.prog 83 = some I83 := by kernel_rfl
theorem zc83 : zcells I83 = some [.v .nilFunc] := by kernel_rfl
abbrev I84 : TI := ⟨10, 1, 8, some .nilFunc, [], 0, 0⟩
theorem ti84 : ti Tryd.prog 84 = some I84 := by kernel_rfl
theorem zc84 : zcells I84 = some [.v .nilFunc] := by kernel_rfl
abbrev I85 : TI := ⟨10, 1, 8, some .nilFunc, [], 0, 0⟩
theorem ti85 : ti Tryd.prog 85 = some I85 := by kernel_rfl
theorem zc85 : zcells I85 = some [.v .nilFunc] := by kernel_rfl
abbrev I86 : TI := ⟨10, 1, 8, some .nilFunc, [], 0, 0⟩
theorem ti86 : ti Tryd.prog 86 = some I86 := by kernel_rfl
theorem zc86 : zcells I86 = some [.v .nilFunc] := by kernel_rfl
abbrev I87 : TI := ⟨10, 1, 8, some .nilFunc, [], 0, 0⟩
theorem ti87 : ti Tryd.prog 87 = some I87 := by kernel_rfl
theorem zc87 : zcells I87 = some [.v .nilFunc] := by kernel_rfl
abbrev I88 : TI := ⟨8, 1, 8, some (.int .u64 0), [], 0, 0⟩
theorem ti88 : ti Tryd.prog 88 = some I88 := by kernel_rfl
theorem zc88 : zcells I88 = some [.v (.int .u64 0)] := by kernel_rfl
theorem it88 : intTy Tryd.prog 88 = some .u64 := by kernel_rfl
abbrev I89 : TI := ⟨8, 1, 8, some (.int .i64 0), [], 0, 0⟩
theorem ti89 : ti Tryd.prog 89 = some I89 := by kernel_rfl
theorem zc89 : zcells I89 = some [.v (.int .i64 0)] := by kernel_rfl
theorem it89 : intTy Tryd.prog 89 = some .i64 := by kernel_rfl
abbrev I91 : TI := ⟨10, 1, 8, some .nilFunc, [], 0, 0⟩
theorem ti91 : ti Tryd.prog 91 = some I91 := by kernel_rfl
theorem zc91 : zcells I91 = some [.v .nilFunc] := by kernel_rfl
abbrev I92 : TI := ⟨6, 1, 8, some (.pointer none), [], 103, 0⟩
theorem ti92 : ti Tryd.prog 92 = some I92 := by kernel_rfl
theorem zc92 : zcells I92 = some [.v (.pointer none)] := by kernel_rfl
abbrev I93 : TI := ⟨10, 1, 8, some .nilFunc, [], 0, 0⟩
theorem ti93 : ti Tryd.prog 93 = some I93 := by kernel_rfl
theorem zc93 : zcells I93 = some [.v .nilFunc] := by kernel_rfl
abbrev I94 : TI := ⟨10, 1, 8, some .nilFunc, [], 0, 0⟩
theorem ti94 : ti Tryd.prog 94 = some I94 := by kernel_rfl
theorem zc94 : zcells I94 = some [.v .nilFunc] := by kernel_rfl
abbrev I95 : TI := ⟨10, 1, 8, some .nilFunc, [], 0, 0⟩
theorem ti95 : ti Tryd.prog 95 = some I95 := by kernel_rfl
theorem zc95 : zcells I95 = some [.v .nilFunc] := by kernel_rfl
abbrev I96 : TI := ⟨8, 1, 4, some (.int .u32 0), [], 0, 0⟩
theorem ti96 : ti Tryd.prog 96 = some I96 := by kernel_rfl
theorem zc96 : zcells I96 = some [.v (.int .u32 0)] := by kernel_rfl
theorem it96 : intTy Tryd.prog 96 = some .u32 := by kernel_rfl
abbrev I98 : TI := ⟨10, 1, 8, some .nilFunc, [], 0, 0⟩
theorem ti98 : ti Tryd.prog 98 = some I98 := by kernel_rfl
theorem zc98 : zcells I98 = some [.v .nilFunc] := by kernel_rfl
abbrev I99 : TI := ⟨8, 1, 8, some (.int .u64 0), [], 0, 0⟩
theorem ti99 : ti Tryd.prog 99 = some I99 := by kernel_rfl
theorem zc99 : zcells I99 = some [.v (.int .u64 0)] := by kernel_rfl
theorem it99 : intTy Tryd.prog 99 = some .u64 := by kernel_rfl
abbrev I101 : TI := ⟨10, 1, 8, some .nilFunc, [], 0, 0⟩
theorem ti101 : ti Tryd.prog 101 = some I101 := by kernel_rfl
theorem zc101 : zcells I101 = some [.v .nilFunc] := by kernel_rfl
abbrev I102 : TI := ⟨1, 3, 48, some (.agg #[(str []), (str []), .nilIface]), [(0, 9), (1, 9), (2, 68)], 0, 0⟩
theorem ti102 : ti Tryd.prog 102 = some I102 := by kernel_rfl
theorem zc102 : zcells I102 = some [.v (str []), .v (str []), .v .nilIface] := by kernel_rfl
abbrev I103 : TI := ⟨1, 3, 48, some (.agg #[(str []), (str []), .nilIface]), [(0, 9), (1, 9), (2, 68)], 0, 0⟩
theorem ti103 : ti Tryd.prog 103 = some I103 := by kernel_rfl
theorem zc103 : zcells I103 = some [.v (str []), .v (str []), .v .nilIface] := by kernel_rfl
abbrev I104 : TI := ⟨10, 1, 8, some .nilFunc, [], 0, 0⟩
theorem ti104 : ti Tryd.prog 104 = some I104 := by kernel_rfl
theorem zc104 : zcells I104 = some [.v .nilFunc] := by kernel_rfl
abbrev I105 : TI := ⟨10, 1, 8, some .nilFunc, [], 0, 0⟩
theorem ti105 : ti Tryd.prog 105 = some I105 := by kernel_rfl
theorem zc105 : zcells I105 = some [.v .nilFunc] := by kernel_rfl
abbrev I106 : TI := ⟨6, 1, 8, some (.pointer none), [], 5, 0⟩
theorem ti106 : ti Tryd.prog 106 = some I106 := by kernel_rfl
theorem zc106 : zcells I106 = some [.v (.pointer none)] := by kernel_rfl
abbrev I107 : TI := ⟨6, 1, 8, some (.pointer none), [], 109, 0⟩
theorem ti107 : ti Tryd.prog 107 = some I107 := by kernel_rfl
theorem zc107 : zcells I107 = some [.v (.pointer none)] := by kernel_rfl
abbrev I108 : TI := ⟨1, 1, 16, some (.agg #[(str [])]), [(0, 9)], 0, 0⟩
theorem ti108 : ti Tryd.prog 108 = some I108 := by kernel_rfl
theorem zc108 : zcells I108 = some [.v (str [])] := by kernel_rfl
abbrev I109 : TI := ⟨1, 1, 16, some (.agg #[(str [])]), [(0, 9)], 0, 0⟩
theorem ti109 : ti Tryd.prog 109 = some I109 := by kernel_rfl
theorem zc109 : zcells I109 = some [.v (str [])] := by kernel_rfl
abbrev I110 : TI := ⟨10, 1, 8, some .nilFunc, [], 0, 0⟩
theorem ti110 : ti Tryd.prog 110 = some I110 := by kernel_rfl
theorem zc110 : zcells I110 = some [.v .nilFunc] := by kernel_rfl
abbrev I111 : TI := ⟨2, 24, 24, some (.agg #[(.int .u8 0), (.int .u8 0), (.int .u8 0), (.int .u8 0), (.int .u8 0), (.int .u8 0), (.int .u8 0), (.int .u8 0), (.int .u8 0), (.int .u8 0), (.int .u8 0), (.int .u8 0), (.int .u8 0), (.int .u8 0), (.int .u8 0), (.int .u8 0), (.int .u8 0), (.int .u8 0), (.int .u8 0), (.int .u8 0), (.int .u8 0), (.int .u8 0), (.int .u8 0), (.int .u8 0)]), [], 5, 24⟩
theorem ti111 : ti Tryd.prog 111 = some I111 := by kernel_rfl
theorem zc111 : zcells I111 = some [.v (.int .u8 0), .v (.int .u8 0), .v (.int .u8 0), .v (.int .u8 0), .v (.int .u8 0), .v (.int .u8 0), .v (.int .u8 0), .v (.int .u8 0), .v (.int .u8 0), .v (.int .u8 0), .v (.int .u8 0), .v (.int .u8 0), .v (.int .u8 0), .v (.int .u8 0), .v (.int .u8 0), .v (.int .u8 0), .v (.int .u8 0), .v (.int .u8 0), .v (.int .u8 0), .v (.int .u8 0), .v (.int .u8 0), .v (.int .u8 0), .v (.int .u8 0), .v (.int .u8 0)] := by kernel_rfl
abbrev I112 : TI := ⟨10, 1, 8, some .nilFunc, [], 0, 0⟩
theorem ti112 : ti Tryd.prog 112 = some I112 := by kernel_rfl
theorem zc112 : zcells I112 = some [.v .nilFunc] := by kernel_rfl
abbrev I113 : TI := ⟨10, 1, 8, some .nilFunc, [], 0, 0⟩
theorem ti113 : ti Tryd.prog 113 = some I113 := by kernel_rfl
theorem zc113 : zcells I113 = some [.v .nilFunc] := by kernel_rfl
abbrev I115 : TI := ⟨10, 1, 8, some .nilFunc, [], 0, 0⟩
theorem ti115 : ti Tryd.prog 115 = some I115 := by kernel_rfl
theorem zc115 : zcells I115 = some [.v .nilFunc] := by kernel_rfl
abbrev I116 : TI := ⟨10, 1, 8, some .nilFunc, [], 0, 0⟩
theorem ti116 : ti Tryd.prog 116 = some I116 := by kernel_rfl
theorem zc116 : zcells I116 = some [.v .nilFunc] := by kernel_rfl
abbrev I117 : TI := ⟨2, 20, 160, some (.agg #[(.int .u64 0), (.int .u64 0), (.int .u64 0), (.int .u64 0), (.int .u64 0), (.int .u64 0), (.int .u64 0), (.int .u64 0), (.int .u64 0), (.int .u64 0), (.int .u64 0), (.int .u64 0), (.int .u64 0), (.int .u64 0), (.int .u64 0), (.int .u64 0), (.int .u64 0), (.int .u64 0), (.int .u64 0), (.int .u64 0)]), [], 99, 20⟩
theorem ti117 : ti Tryd.prog 117 = some I117 := by kernel_rfl
theorem zc117 : zcells I117 = some [.v (.int .u64 0), .v (.int .u64 0), .v (.int .u64 0), .v (.int .u64 0), .v (.int .u64 0), .v (.int .u64 0), .v (.int .u64 0), .v (.int .u64 0), .v (.int .u64 0), .v (.int .u64 0), .v (.int .u64 0), .v (.int .u64 0), .v (.int .u64 0), .v (.int .u64 0), .v (.int .u64 0), .v (.int .u64 0), .v (.int .u64 0), .v (.int .u64 0), .v (.int .u64 0), .v (.int .u64 0)] := by kernel_rfl
abbrev I119 : TI := ⟨10, 1, 8, some .nilFunc, [], 0, 0⟩
theorem ti119 : ti Tryd.prog 119 = some I119 := by kernel_rfl
theorem zc119 : zcells I119 = some [.v .nilFunc] := by kernel_rfl
abbrev I120 : TI := ⟨10, 1, 8, some .nilFunc, [], 0, 0⟩
theorem ti120 : ti Tryd.prog 120 = some I120 := by kernel_rfl
theorem zc120 : zcells I120 = some [.v .nilFunc] := by kernel_rfl
abbrev I121 : TI := ⟨10, 1, 8, some .nilFunc, [], 0, 0⟩
theorem ti121 : ti Tryd.prog 121 = some I121 := by kernel_rfl
theorem zc121 : zcells I121 = some [.v .nilFunc] := by kernel_rfl
abbrev I122 : TI := ⟨2, 32, 32, some (.agg #[(.int .u8 0), (.int .u8 0), (.int .u8 0), (.int .u8 0), (.int .u8 0), (.int .u8 0), (.int .u8 0), (.int .u8 0), (.int .u8 0), (.int .u8 0), (.int .u8 0), (.int .u8 0), (.int .u8 0), (.int .u8 0), (.int .u8 0), (.int .u8 0), (.int .u8 0), (.int .u8 0), (.int .u8 0), (.int .u8 0), (.int .u8 0), (.int .u8 0), (.int .u8 0), (.int .u8 0), (.int .u8 0), (.int .u8 0), (.int .u8 0), (.int .u8 0), (.int .u8 0), (.int .u8 0), (.int .u8 0), (.int .u8 0)]), [], 5, 32⟩
theorem ti122 : ti Tryd.prog 122 = some I122 := by kernel_rfl
theorem zc122 : zcells I122 = some [.v (.int .u8 0), .v (.int .u8 0), .v (.int .u8 0), .v (.int .u8 0), .v (.int .u8 0), .v (.int .u8 0), .v (.int .u8 0), .v (.int .u8 0), .v (.int .u8 0), .v (.int .u8 0), .v (.int .u8 0), .v (.int .u8 0), .v (.int .u8 0), .v (.int .u8 0), .v (.int .u8 0), .v (.int .u8 0), .v (.int .u8 0), .v (.int .u8 0), .v (.int .u8 0), .v (.int .u8 0), .v (.int .u8 0), .v (.int .u8 0), .v (.int .u8 0), .v (.int .u8 0), .v (.int .u8 0), .v (.int .u8 0), .v (.int .u8 0), .v (.int .u8 0), .v (.int .u8 0), .v (.int .u8 0), .v (.int .u8 0), .v (.int .u8 0)] := by kernel_rfl
abbrev I124 : TI := ⟨10, 1, 8, some .nilFunc, [], 0, 0⟩
theorem ti124 : ti Tryd.prog 124 = some I124 := by kernel_rfl
theorem zc124 : zcells I124 = some [.v .nilFunc] := by kernel_rfl
abbrev I125 : TI := ⟨1, 4, 40, some (.agg #[(.pointer none), (.pointer none), (.pointer none), (str [])]), [(0, 17), (1, 17), (2, 17), (3, 9)], 0, 0⟩
theorem ti125 : ti Tryd.prog 125 = some I125 := by kernel_rfl
theorem zc125 : zcells I125 = some [.v (.pointer none), .v (.pointer none), .v (.pointer none), .v (str [])] := by kernel_rfl
abbrev I126 : TI := ⟨1, 4, 40, some (.agg #[(.pointer none), (.pointer none), (.pointer none), (str [])]), [(0, 17), (1, 17), (2, 17), (3, 9)], 0, 0⟩
theorem ti126 : ti Tryd.prog 126 = some I126 := by kernel_rfl
theorem zc126 : zcells I126 = some [.v (.pointer none), .v (.pointer none), .v (.pointer none), .v (str [])] := by kernel_rfl
abbrev I127 : TI := ⟨2, 0, 0, some (.agg #[]), [], 16, 0⟩
theorem ti127 : ti Tryd.prog 127 = some I127 := by kernel_rfl
theorem zc127 : zcells I127 = some [] := by kernel_rfl
abbrev I128 : TI := ⟨1, 0, 0, some (.agg #[]), [(0, 127)], 0, 0⟩
theorem ti128 : ti Tryd.prog 128 = some I128 := by kernel_rfl
theorem zc128 : zcells I128 = some [] := by kernel_rfl
abbrev I129 : TI := ⟨1, 0, 0, some (.agg #[]), [(0, 127)], 0, 0⟩
theorem ti129 : ti Tryd.prog 129 = some I129 := by kernel_rfl
theorem zc129 : zcells I129 = some [] := by kernel_rfl
abbrev I130 : TI := ⟨10, 1, 8, some .nilFunc, [], 0, 0⟩
theorem ti130 : ti Tryd.prog 130 = some I130 := by kernel_rfl
theorem zc130 : zcells I130 = some [.v .nilFunc] := by kernel_rfl
abbrev I131 : TI := ⟨8, 1, 1, some (.int .u8 0), [], 0, 0⟩
theorem ti131 : ti Tryd.prog 131 = some I131 := by kernel_rfl
theorem zc131 : zcells I131 = some [.v (.int .u8 0)] := by kernel_rfl
theorem it131 : intTy Tryd.prog 131 = some .u8 := by kernel_rfl
abbrev I132 : TI := ⟨8, 1, 1, some (.int .u8 0), [], 0, 0⟩
theorem ti132 : ti Tryd.prog 132 = some I132 := by kernel_rfl
theorem zc132 : zcells I132 = some [.v (.int .u8 0)] := by kernel_rfl
theorem it132 : intTy Tryd.prog 132 = some .u8 := by kernel_rfl
abbrev I133 : TI := ⟨10, 1, 8, some .nilFunc, [], 0, 0⟩
theorem ti133 : ti Tryd.prog 133 = some I133 := by kernel_rfl
theorem zc133 : zcells I133 = some [.v .nilFunc] := by kernel_rfl
abbrev I134 : TI := ⟨8, 1, 4, some (.int .i32 0), [], 0, 0⟩
theorem ti134 : ti Tryd.prog 134 = some I134 := by kernel_rfl
theorem zc134 : zcells I134 = some [.v (.int .i32 0)] := by kernel_rfl
theorem it134 : intTy Tryd.prog 134 = some .i32 := by kernel_rfl
abbrev I135 : TI := ⟨8, 1, 4, some (.int .i32 0), [], 0, 0⟩
theorem ti135 : ti Tryd.prog 135 = some I135 := by kernel_rfl
theorem zc135 : zcells I135 = some [.v (.int .i32 0)] := by kernel_rfl
theorem it135 : intTy Tryd.prog 135 = some .i32 := by kernel_rfl
abbrev I136 : TI := ⟨1, 11, 48, some (.agg #[(.int .u64 0), (.int .u64 0), (.int .u32 0), (.int .u8 0), (.int .u8 0), (.int .u8 0), (.int .u8 0), .nilFunc, (.pointer none), (.int .i32 0), (.int .i32 0)]), [(0, 12), (1, 12), (2, 96), (3, 131), (4, 5), (5, 5), (6, 132), (7, 133), (8, 106), (9, 134), (10, 135)], 0, 0⟩
theorem ti136 : ti Tryd.prog 136 = some I136 := by kernel_rfl
theorem zc136 : zcells I136 = some [.v (.int .u64 0), .v (.int .u64 0), .v (.int .u32 0), .v (.int .u8 0), .v (.int .u8 0), .v (.int .u8 0), .v (.int .u8 0), .v .nilFunc, .v (.pointer none), .v (.int .i32 0), .v (.int .i32 0)] := by kernel_rfl
abbrev I137 : TI := ⟨1, 11, 48, some (.agg #[(.int .u64 0), (.int .u64 0), (.int .u32 0), (.int .u8 0), (.int .u8 0), (.int .u8 0), (.int .u8 0), .nilFunc, (.pointer none), (.int .i32 0), (.int .i32 0)]), [(0, 12), (1, 12), (2, 96), (3, 131), (4, 5), (5, 5), (6, 132), (7, 133), (8, 106), (9, 134), (10, 135)], 0, 0⟩
theorem ti137 : ti Tryd.prog 137 = some I137 := by kernel_rfl
theorem zc137 : zcells I137 = some [.v (.int .u64 0), .v (.int .u64 0), .v (.int .u32 0), .v (.int .u8 0), .v (.int .u8 0), .v (.int .u8 0), .v (.int .u8 0), .v .nilFunc, .v (.pointer none), .v (.int .i32 0), .v (.int .i32 0)] := by kernel_rfl
abbrev I138 : TI := ⟨2, 11, 176, some (.agg #[(str []), (str []), (str []), (str []), (str []), (str []), (str []), (str []), (str []), (str []), (str [])]), [], 9, 11⟩
theorem ti138 : ti Tryd.prog 138 = some I138 := by kernel_rfl
theorem zc138 : zcells I138 = some [.v (str []), .v (str []), .v (str []), .v (str []), .v (str []), .v (str []), .v (str []), .v (str []), .v (str []), .v (str []), .v (str [])] := by kernel_rfl
theorem fl7_0 : fldAt Tryd.prog 7 0 = some (0, I2) := by kernel_rfl
theorem fl7_1 : fldAt Tryd.prog 7 1 = some (1, I3) := by kernel_rfl
theorem fl7_2 : fldAt Tryd.prog 7 2 = some (2, I4) := by kernel_rfl
theorem fl7_3 : fldAt Tryd.prog 7 3 = some (3, I6) := by kernel_rfl
theorem fl8_0 : fldAt Tryd.prog 8 0 = some (0, I2) := by kernel_rfl
theorem fl8_1 : fldAt Tryd.prog 8 1 = some (1, I3) := by kernel_rfl
theorem fl8_2 : fldAt Tryd.prog 8 2 = some (2, I4) := by kernel_rfl
theorem fl8_3 : fldAt Tryd.prog 8 3 = some (3, I6) := by kernel_rfl
theorem fl13_0 : fldAt Tryd.prog 13 0 = some (0, I9) := by kernel_rfl
theorem fl13_1 : fldAt Tryd.prog 13 1 = some (1, I12) := by kernel_rfl
theorem fl14_0 : fldAt Tryd.prog 14 0 = some (0, I9) := by kernel_rfl
theorem fl14_1 : fldAt Tryd.prog 14 1 = some (1, I12) := by kernel_rfl
theorem fl18_0 : fldAt Tryd.prog 18 0 = some (0, I17) := by kernel_rfl
theorem fl19_0 : fldAt Tryd.prog 19 0 = some (0, I17) := by kernel_rfl
theorem fl22_0 : fldAt Tryd.prog 22 0 = some (0, I3) := by kernel_rfl
theorem fl22_1 : fldAt Tryd.prog 22 1 = some (1, I9) := by kernel_rfl
theorem fl22_2 : fldAt Tryd.prog 22 2 = some (2, I9) := by kernel_rfl
theorem fl22_3 : fldAt Tryd.prog 22 3 = some (3, I9) := by kernel_rfl
theorem fl22_4 : fldAt Tryd.prog 22 4 = some (4, I3) := by kernel_rfl
theorem fl23_0 : fldAt Tryd.prog 23 0 = some (0, I3) := by kernel_rfl
theorem fl23_1 : fldAt Tryd.prog 23 1 = some (1, I9) := by kernel_rfl
theorem fl23_2 : fldAt Tryd.prog 23 2 = some (2, I9) := by kernel_rfl
theorem fl23_3 : fldAt Tryd.prog 23 3 = some (3, I9) := by kernel_rfl
theorem fl23_4 : fldAt Tryd.prog 23 4 = some (4, I3) := by kernel_rfl
theorem el24 : elemTI Tryd.prog 24 3 = some (I24, 9, I9) := by kernel_rfl
theorem fl25_0 : fldAt Tryd.prog 25 0 = some (0, I3) := by kernel_rfl
theorem fl25_1 : fldAt Tryd.prog 25 1 = some (1, I9) := by kernel_rfl
theorem fl25_2 : fldAt Tryd.prog 25 2 = some (2, I3) := by kernel_rfl
theorem fl26_0 : fldAt Tryd.prog 26 0 = some (0, I3) := by kernel_rfl
theorem fl26_1 : fldAt Tryd.prog 26 1 = some (1, I9) := by kernel_rfl
theorem fl26_2 : fldAt Tryd.prog 26 2 = some (2, I3) := by kernel_rfl
theorem el46 : elemTI Tryd.prog 46 3 = some (I46, 23, I23) := by kernel_rfl
theorem fl71_0 : fldAt Tryd.prog 71 0 = some (0, I23) := by kernel_rfl
theorem fl72_0 : fldAt Tryd.prog 72 0 = some (0, I23) := by kernel_rfl
theorem fl73_0 : fldAt Tryd.prog 73 0 = some (0, I72) := by kernel_rfl
theorem fl74_0 : fldAt Tryd.prog 74 0 = some (0, I72) := by kernel_rfl
theorem fl75_0 : fldAt Tryd.prog 75 0 = some (0, I72) := by kernel_rfl
theorem fl76_0 : fldAt Tryd.prog 76 0 = some (0, I72) := by kernel_rfl
theorem el79 : elemTI Tryd.prog 79 3 = some (I79, 5, I5) := by kernel_rfl
theorem el80 : elemTI Tryd.prog 80 2 = some (I80, 5, I5) := by kernel_rfl
theorem el81 : elemTI Tryd.prog 81 2 = some (I81, 5, I5) := by kernel_rfl
theorem fl102_0 : fldAt Tryd.prog 102 0 = some (0, I9) := by kernel_rfl
theorem fl102_1 : fldAt Tryd.prog 102 1 = some (1, I9) := by kernel_rfl
theorem fl102_2 : fldAt Tryd.prog 102 2 = some (2, I68) := by kernel_rfl
theorem fl103_0 : fldAt Tryd.prog 103 0 = some (0, I9) := by kernel_rfl
theorem fl103_1 : fldAt Tryd.prog 103 1 = some (1, I9) := by kernel_rfl
theorem fl103_2 : fldAt Tryd.prog 103 2 = some (2, I68) := by kernel_rfl
theorem fl108_0 : fldAt Tryd.prog 108 0 = some (0, I9) := by kernel_rfl
theorem fl109_0 : fldAt Tryd.prog 109 0 = some (0, I9) := by kernel_rfl
theorem el111 : elemTI Tryd.prog 111 2 = some (I111, 5, I5) := by kernel_rfl
theorem el117 : elemTI Tryd.prog 117 2 = some (I117, 99, I99) := by kernel_rfl
theorem el122 : elemTI Tryd.prog 122 2 = some (I122, 5, I5) := by kernel_rfl
theorem fl125_0 : fldAt Tryd.prog 125 0 = some (0, I17) := by kernel_rfl
theorem fl125_1 : fldAt Tryd.prog 125 1 = some (1, I17) := by kernel_rfl
theorem fl125_2 : fldAt Tryd.prog 125 2 = some (2, I17) := by kernel_rfl
theorem fl125_3 : fldAt Tryd.prog 125 3 = some (3, I9) := by kernel_rfl
theorem fl126_0 : fldAt Tryd.prog 126 0 = some (0, I17) := by kernel_rfl
theorem fl126_1 : fldAt Tryd.prog 126 1 = some (1, I17) := by kernel_rfl
theorem fl126_2 : fldAt Tryd.prog 126 2 = some (2, I17) := by kernel_rfl
theorem fl126_3 : fldAt Tryd.prog 126 3 = some (3, I9) := by kernel_rfl
theorem el127 : elemTI Tryd.prog 127 2 = some (I127, 16, I16) := by kernel_rfl
theorem fl128_0 : fldAt Tryd.prog 128 0 = some (0, I127) := by kernel_rfl
theorem fl129_0 : fldAt Tryd.prog 129 0 = some (0, I127) := by kernel_rfl
theorem fl136_0 : fldAt Tryd.prog 136 0 = some (0, I12) := by kernel_rfl
theorem fl136_1 : fldAt Tryd.prog 136 1 = some (1, I12) := by kernel_rfl
theorem fl136_2 : fldAt Tryd.prog 136 2 = some (2, I96) := by kernel_rfl
theorem fl136_3 : fldAt Tryd.prog 136 3 = some (3, I131) := by kernel_rfl
theorem fl136_4 : fldAt Tryd.prog 136 4 = some (4, I5) := by kernel_rfl
theorem fl136_5 : fldAt Tryd.prog 136 5 = some (5, I5) := by kernel_rfl
theorem fl136_6 : fldAt Tryd.prog 136 6 = some (6, I132) := by kernel_rfl
theorem fl136_7 : fldAt Tryd.prog 136 7 = some (7, I133) := by kernel_rfl
theorem fl136_8 : fldAt Tryd.prog 136 8 = some (8, I106) := by kernel_rfl
theorem fl136_9 : fldAt Tryd.prog 136 9 = some (9, I134) := by kernel_rfl
theorem fl136_10 : fldAt Tryd.prog 136 10 = some (10, I135) := by kernel_rfl
theorem fl137_0 : fldAt Tryd.prog 137 0 = some (0, I12) := by kernel_rfl
theorem fl137_1 : fldAt Tryd.prog 137 1 = some (1, I12) := by kernel_rfl
theorem fl137_2 : fldAt Tryd.prog 137 2 = some (2, I96) := by kernel_rfl
theorem fl137_3 : fldAt Tryd.prog 137 3 = some (3, I131) := by kernel_rfl
theorem fl137_4 : fldAt Tryd.prog 137 4 = some (4, I5) := by kernel_rfl
theorem fl137_5 : fldAt Tryd.prog 137 5 = some (5, I5) := by kernel_rfl
theorem fl137_6 : fldAt Tryd.prog 137 6 = some (6, I132) := by kernel_rfl
theorem fl137_7 : fldAt Tryd.prog 137 7 = some (7, I133) := by kernel_rfl
theorem fl137_8 : fldAt Tryd.prog 137 8 = some (8, I106) := by kernel_rfl
theorem fl137_9 : fldAt Tryd.prog 137 9 = some (9, I134) := by kernel_rfl
theorem fl137_10 : fldAt Tryd.prog 137 10 = some (10, I135) := by kernel_rfl
theorem el138 : elemTI Tryd.prog 138 2 = some (I138, 9, I9) := by kernel_rfl
theorem eq23 : eqKinds Tryd.prog 23 = some [8, 4, 4, 4, 8] := by kernel_rfl
theorem eq26 : eqKinds Tryd.prog 26 = some [8, 4, 8] := by kernel_rfl
theorem ar80 : arrTI Tryd.prog 80 = some 20 := by kernel_rfl
theorem ar81 : arrTI Tryd.prog 81 = some 20 := by kernel_rfl
theorem ar111 : arrTI Tryd.prog 111 = some 24 := by kernel_rfl
theorem ar117 : arrTI Tryd.prog 117 = some 20 := by kernel_rfl
theorem ar122 : arrTI Tryd.prog 122 = some 32 := by kernel_rfl
theorem ar127 : arrTI Tryd.prog 127 = some 0 := by kernel_rfl
theorem ar138 : arrTI Tryd.prog 138 = some 11 := by kernel_rfl

attribute [go_sem] ti1 zc1 ti2 zc2 it2 ti3 zc3 it3 ti4 zc4 ki4 ti5 zc5 it5 ti6 zc6 it6 ti7 zc7 ti8 zc8 ti9 zc9 ki9 kn9 ti10 zc10 ki10 kn10 ti11 zc11 ki11 kn11 ti12 zc12 it12 ti13 zc13 ti14 zc14 ti15 zc15 ti16 zc16 ti17 zc17 ti18 zc18 ti19 zc19 ti20 zc20 ki20 ti21 zc21 it21 ti22 zc22 ti23 zc23 ti24 zc24 ki24 ti25 zc25 ti26 zc26 ti27 zc27 ti28 zc28 ti29 zc29 ti31 zc31 ti33 zc33 ti34 zc34 ti35 zc35 ti36 zc36 ti37 zc37 ti38 zc38 ti39 zc39 ti40 zc40 ti41 zc41 ti42 zc42 ti43 zc43 ti44 zc44 ti45 zc45 ti46 zc46 ki46 ti47 zc47 ti49 zc49 ti51 zc51 ti52 zc52 ki52 ti53 zc53 ki53 ti54 zc54 ti56 zc56 ti57 zc57 ti58 zc58 ti59 zc59 ti60 zc60 ti61 zc61 ti62 zc62 ti64 zc64 ti65 zc65 ti66 zc66 ti67 zc67 ki67 ti68 zc68 ki68 ti70 zc70 ti71 zc71 ti72 zc72 ti73 zc73 ti74 zc74 ti75 zc75 ti76 zc76 ti77 zc77 ti78 zc78 ti79 zc79 ki79 ti80 zc80 ti81 zc81 ti82 zc82 ti83 zc83 ti84 zc84 ti85 zc85 ti86 zc86 ti87 zc87 ti88 zc88 it88 ti89 zc89 it89 ti91 zc91 ti92 zc92 ti93 zc93 ti94 zc94 ti95 zc95 ti96 zc96 it96 ti98 zc98 ti99 zc99 it99 ti101 zc101 ti102 zc102 ti103 zc103 ti104 zc104 ti105 zc105 ti106 zc106 ti107 zc107 ti108 zc108 ti109 zc109 ti110 zc110 ti111 zc111 ti112 zc112 ti113 zc113 ti115 zc115 ti116 zc116 ti117 zc117 ti119 zc119 ti120 zc120 ti121 zc121 ti122 zc122 ti124 zc124 ti125 zc125 ti126 zc126 ti127 zc127 ti128 zc128 ti129 zc129 ti130 zc130 ti131 zc131 it131 ti132 zc132 it132 ti133 zc133 ti134 zc134 it134 ti135 zc135 it135 ti136 zc136 ti137 zc137 ti138 zc138 fl7_0 fl7_1 fl7_2 fl7_3 fl8_0 fl8_1 fl8_2 fl8_3 fl13_0 fl13_1 fl14_0 fl14_1 fl18_0 fl19_0 fl22_0 fl22_1 fl22_2 fl22_3 fl22_4 fl23_0 fl23_1 fl23_2 fl23_3 fl23_4 el24 fl25_0 fl25_1 fl25_2 fl26_0 fl26_1 fl26_2 el46 fl71_0 fl72_0 fl73_0 fl74_0 fl75_0 fl76_0 el79 el80 el81 fl102_0 fl102_1 fl102_2 fl103_0 fl103_1 fl103_2 fl108_0 fl109_0 el111 el117 el122 fl125_0 fl125_1 fl125_2 fl125_3 fl126_0 fl126_1 fl126_2 fl126_3 el127 fl128_0 fl129_0 fl136_0 fl136_1 fl136_2 fl136_3 fl136_4 fl136_5 fl136_6 fl136_7 fl136_8 fl136_9 fl136_10 fl137_0 fl137_1 fl137_2 fl137_3 fl137_4 fl137_5 fl137_6 fl137_7 fl137_8 fl137_9 fl137_10 el138 eq23 eq26 ar80 ar81 ar111 ar117 ar122 ar127 ar138
end Go.Proofs.YtcpefnjofekibaaDoor
