/- Parts of the proof: Ty, Sa, Sb, Db, Sc, HiU, HiV. -/
import Derived.Test.YteieinhgdjjdoaaZd05
import Derived.Test.YteieinhgdjjdoaaProg
import Derived.Test.YteieinhgdjjdoaaZd06
import Derived.ScopeJumps
import Derived.RangeFuncRecord
set_option linter.unusedSectionVars false
set_option linter.unusedVariables false
set_option linter.unusedSimpArgs false
namespace Go.Proofs.Yteieinhgdjjdoaa
open Go.RowKit
set_option maxRecDepth 8000
abbrev I1 : TI := ⟨10, 1, 8, some .nilFunc, [], 0, 0⟩
theorem ti1 : ti Try.prog 1 = some I1 := by kernel_rfl
theorem zc1 : zcells I1 = some [.v .nilFunc] := by kernel_rfl
abbrev I2 : TI := ⟨8, 1, 8, some (.int .i64 0), [], 0, 0⟩
theorem ti2 : ti Try.prog 2 = some I2 := by kernel_rfl
theorem zc2 : zcells I2 = some [.v (.int .i64 0)] := by kernel_rfl
theorem it2 : intTy Try.prog 2 = some .i64 := by kernel_rfl
abbrev I3 : TI := ⟨8, 1, 8, some (.int .i64 0), [], 0, 0⟩
theorem ti3 : ti Try.prog 3 = some I3 := by kernel_rfl
theorem zc3 : zcells I3 = some [.v (.int .i64 0)] := by kernel_rfl
theorem it3 : intTy Try.prog 3 = some .i64 := by kernel_rfl
abbrev I4 : TI := ⟨7, 1, 1, some (.bool false), [], 0, 0⟩
theorem ti4 : ti Try.prog 4 = some I4 := by kernel_rfl
theorem zc4 : zcells I4 = some [.v (.bool false)] := by kernel_rfl
theorem ki4 : kindIs Try.prog 4 7 = true := by kernel_rfl
abbrev I5 : TI := ⟨8, 1, 1, some (.int .u8 0), [], 0, 0⟩
theorem ti5 : ti Try.prog 5 = some I5 := by kernel_rfl
theorem zc5 : zcells I5 = some [.v (.int .u8 0)] := by kernel_rfl
theorem it5 : intTy Try.prog 5 = some .u8 := by kernel_rfl
abbrev I6 : TI := ⟨8, 1, 1, some (.int .u8 0), [], 0, 0⟩
theorem ti6 : ti Try.prog 6 = some I6 := by kernel_rfl
theorem zc6 : zcells I6 = some [.v (.int .u8 0)] := by kernel_rfl
theorem it6 : intTy Try.prog 6 = some .u8 := by kernel_rfl
abbrev I7 : TI := ⟨1, 4, 24, some (.agg #[(.int .i64 0), (.int .i64 0), (.bool false), (.int .u8 0)]), [(0, 2), (1, 3), (2, 4), (3, 6)], 0, 0⟩
theorem ti7 : ti Try.prog 7 = some I7 := by kernel_rfl
theorem zc7 : zcells I7 = some [.v (.int .i64 0), .v (.int .i64 0), .v (.bool false), .v (.int .u8 0)] := by kernel_rfl
abbrev I8 : TI := ⟨1, 4, 24, some (.agg #[(.int .i64 0), (.int .i64 0), (.bool false), (.int .u8 0)]), [(0, 2), (1, 3), (2, 4), (3, 6)], 0, 0⟩
theorem ti8 : ti Try.prog 8 = some I8 := by kernel_rfl
theorem zc8 : zcells I8 = some [.v (.int .i64 0), .v (.int .i64 0), .v (.bool false), .v (.int .u8 0)] := by kernel_rfl
abbrev I9 : TI := ⟨4, 1, 16, some (str []), [], 0, 0⟩
theorem ti9 : ti Try.prog 9 = some I9 := by kernel_rfl
theorem zc9 : zcells I9 = some [.v (str [])] := by kernel_rfl
theorem ki9 : kindIs Try.prog 9 4 = true := by kernel_rfl
theorem kn9 : kindIs Try.prog 9 3 = false := by kernel_rfl
abbrev I10 : TI := ⟨4, 1, 16, some (str []), [], 0, 0⟩
theorem ti10 : ti Try.prog 10 = some I10 := by kernel_rfl
theorem zc10 : zcells I10 = some [.v (str [])] := by kernel_rfl
theorem ki10 : kindIs Try.prog 10 4 = true := by kernel_rfl
theorem kn10 : kindIs Try.prog 10 3 = false := by kernel_rfl
abbrev I11 : TI := ⟨4, 1, 16, some (str []), [], 0, 0⟩
theorem ti11 : ti Try.prog 11 = some I11 := by kernel_rfl
theorem zc11 : zcells I11 = some [.v (str [])] := by kernel_rfl
theorem ki11 : kindIs Try.prog 11 4 = true := by kernel_rfl
theorem kn11 : kindIs Try.prog 11 3 = false := by kernel_rfl
abbrev I12 : TI := ⟨8, 1, 8, some (.int .u64 0), [], 0, 0⟩
theorem ti12 : ti Try.prog 12 = some I12 := by kernel_rfl
theorem zc12 : zcells I12 = some [.v (.int .u64 0)] := by kernel_rfl
theorem it12 : intTy Try.prog 12 = some .u64 := by kernel_rfl
abbrev I13 : TI := ⟨1, 2, 24, some (.agg #[(str []), (.int .u64 0)]), [(0, 9), (1, 12)], 0, 0⟩
theorem ti13 : ti Try.prog 13 = some I13 := by kernel_rfl
theorem zc13 : zcells I13 = some [.v (str []), .v (.int .u64 0)] := by kernel_rfl
abbrev I14 : TI := ⟨1, 2, 24, some (.agg #[(str []), (.int .u64 0)]), [(0, 9), (1, 12)], 0, 0⟩
theorem ti14 : ti Try.prog 14 = some I14 := by kernel_rfl
theorem zc14 : zcells I14 = some [.v (str []), .v (.int .u64 0)] := by kernel_rfl
abbrev I15 : TI := ⟨6, 1, 8, some (.pointer none), [], 155, 0⟩
theorem ti15 : ti Try.prog 15 = some I15 := by kernel_rfl
theorem zc15 : zcells I15 = some [.v (.pointer none)] := by kernel_rfl
abbrev I16 : TI := ⟨6, 1, 8, some (.pointer none), [], 158, 0⟩
theorem ti16 : ti Try.prog 16 = some I16 := by kernel_rfl
theorem zc16 : zcells I16 = some [.v (.pointer none)] := by kernel_rfl
abbrev I17 : TI := ⟨6, 1, 8, some (.pointer none), [], 167, 0⟩
theorem ti17 : ti Try.prog 17 = some I17 := by kernel_rfl
theorem zc17 : zcells I17 = some [.v (.pointer none)] := by kernel_rfl
abbrev I18 : TI := ⟨1, 1, 8, some (.agg #[(.pointer none)]), [(0, 17)], 0, 0⟩
theorem ti18 : ti Try.prog 18 = some I18 := by kernel_rfl
theorem zc18 : zcells I18 = some [.v (.pointer none)] := by kernel_rfl
abbrev I19 : TI := ⟨1, 1, 8, some (.agg #[(.pointer none)]), [(0, 17)], 0, 0⟩
theorem ti19 : ti Try.prog 19 = some I19 := by kernel_rfl
theorem zc19 : zcells I19 = some [.v (.pointer none)] := by kernel_rfl
abbrev I20 : TI := ⟨9, 1, 16, some .nilIface, [], 0, 0⟩
theorem ti20 : ti Try.prog 20 = some I20 := by kernel_rfl
theorem zc20 : zcells I20 = some [.v .nilIface] := by kernel_rfl
theorem ki20 : kindIs Try.prog 20 9 = true := by kernel_rfl
abbrev I21 : TI := ⟨8, 1, 4, some (.int .i32 0), [], 0, 0⟩
theorem ti21 : ti Try.prog 21 = some I21 := by kernel_rfl
theorem zc21 : zcells I21 = some [.v (.int .i32 0)] := by kernel_rfl
theorem it21 : intTy Try.prog 21 = some .i32 := by kernel_rfl
abbrev I22 : TI := ⟨3, 1, 24, some (.slice none 0 0), [], 3, 0⟩
theorem ti22 : ti Try.prog 22 = some I22 := by kernel_rfl
theorem zc22 : zcells I22 = some [.v (.slice none 0 0)] := by kernel_rfl
theorem ki22 : kindIs Try.prog 22 3 = true := by kernel_rfl
abbrev I23 : TI := ⟨3, 1, 24, some (.slice none 0 0), [], 45, 0⟩
theorem ti23 : ti Try.prog 23 = some I23 := by kernel_rfl
theorem zc23 : zcells I23 = some [.v (.slice none 0 0)] := by kernel_rfl
theorem ki23 : kindIs Try.prog 23 3 = true := by kernel_rfl
abbrev I24 : TI := ⟨1, 2, 48, some (.agg #[(.slice none 0 0), (.slice none 0 0)]), [(0, 22), (1, 23)], 0, 0⟩
theorem ti24 : ti Try.prog 24 = some I24 := by kernel_rfl
theorem zc24 : zcells I24 = some [.v (.slice none 0 0), .v (.slice none 0 0)] := by kernel_rfl
abbrev I25 : TI := ⟨1, 2, 48, some (.agg #[(.slice none 0 0), (.slice none 0 0)]), [(0, 22), (1, 23)], 0, 0⟩
theorem ti25 : ti Try.prog 25 = some I25 := by kernel_rfl
theorem zc25 : zcells I25 = some [.v (.slice none 0 0), .v (.slice none 0 0)] := by kernel_rfl
abbrev I26 : TI := ⟨3, 1, 24, some (.slice none 0 0), [], 62, 0⟩
theorem ti26 : ti Try.prog 26 = some I26 := by kernel_rfl
theorem zc26 : zcells I26 = some [.v (.slice none 0 0)] := by kernel_rfl
theorem ki26 : kindIs Try.prog 26 3 = true := by kernel_rfl
abbrev I27 : TI := ⟨10, 1, 8, some .nilFunc, [], 0, 0⟩
theorem ti27 : ti Try.prog 27 = some I27 := by kernel_rfl
theorem zc27 : zcells I27 = some [.v .nilFunc] := by kernel_rfl
abbrev I28 : TI := ⟨10, 1, 8, some .nilFunc, [], 0, 0⟩
theorem ti28 : ti Try.prog 28 = some I28 := by kernel_rfl
theorem zc28 : zcells I28 = some [.v .nilFunc] := by kernel_rfl
abbrev I30 : TI := ⟨10, 1, 8, some .nilFunc, [], 0, 0⟩
theorem ti30 : ti Try.prog 30 = some I30 := by kernel_rfl
theorem zc30 : zcells I30 = some [.v .nilFunc] := by kernel_rfl
abbrev I32 : TI := ⟨10, 1, 8, some .nilFunc, [], 0, 0⟩
theorem ti32 : ti Try.prog 32 = some I32 := by kernel_rfl
theorem zc32 : zcells I32 = some [.v .nilFunc] := by kernel_rfl
abbrev I33 : TI := ⟨10, 1, 8, some .nilFunc, [], 0, 0⟩
theorem ti33 : ti Try.prog 33 = some I33 := by kernel_rfl
theorem zc33 : zcells I33 = some [.v .nilFunc] := by kernel_rfl
abbrev I34 : TI := ⟨10, 1, 8, some .nilFunc, [], 0, 0⟩
theorem ti34 : ti Try.prog 34 = some I34 := by kernel_rfl
theorem zc34 : zcells I34 = some [.v .nilFunc] := by kernel_rfl
abbrev I35 : TI := ⟨10, 1, 8, some .nilFunc, [], 0, 0⟩
theorem ti35 : ti Try.prog 35 = some I35 := by kernel_rfl
theorem zc35 : zcells I35 = some [.v .nilFunc] := by kernel_rfl
abbrev I36 : TI := ⟨3, 1, 24, some (.slice none 0 0), [], 50, 0⟩
theorem ti36 : ti Try.prog 36 = some I36 := by kernel_rfl
theorem zc36 : zcells I36 = some [.v (.slice none 0 0)] := by kernel_rfl
theorem ki36 : kindIs Try.prog 36 3 = true := by kernel_rfl
abbrev I37 : TI := ⟨1, 2, 48, some (.agg #[(.slice none 0 0), (.slice none 0 0)]), [(0, 22), (1, 36)], 0, 0⟩
theorem ti37 : ti Try.prog 37 = some I37 := by kernel_rfl
theorem zc37 : zcells I37 = some [.v (.slice none 0 0), .v (.slice none 0 0)] := by kernel_rfl
abbrev I38 : TI := ⟨1, 2, 48, some (.agg #[(.slice none 0 0), (.slice none 0 0)]), [(0, 22), (1, 36)], 0, 0⟩
theorem ti38 : ti Try.prog 38 = some I38 := by kernel_rfl
theorem zc38 : zcells I38 = some [.v (.slice none 0 0), .v (.slice none 0 0)] := by kernel_rfl
abbrev I40 : TI := ⟨10, 1, 8, some .nilFunc, [], 0, 0⟩
theorem ti40 : ti Try.prog 40 = some I40 := by kernel_rfl
theorem zc40 : zcells I40 = some [.v .nilFunc] := by kernel_rfl
abbrev I42 : TI := ⟨10, 1, 8, some .nilFunc, [], 0, 0⟩
theorem ti42 : ti Try.prog 42 = some I42 := by kernel_rfl
theorem zc42 : zcells I42 = some [.v .nilFunc] := by kernel_rfl
abbrev I43 : TI := ⟨1, 5, 40, some (.agg #[(.int .i64 0), (.int .i64 0), (.int .i64 0), (.int .i64 0), (.int .i64 0)]), [(0, 3), (1, 3), (2, 3), (3, 3), (4, 3)], 0, 0⟩
theorem ti43 : ti Try.prog 43 = some I43 := by kernel_rfl
theorem zc43 : zcells I43 = some [.v (.int .i64 0), .v (.int .i64 0), .v (.int .i64 0), .v (.int .i64 0), .v (.int .i64 0)] := by kernel_rfl
abbrev I44 : TI := ⟨1, 5, 40, some (.agg #[(.int .i64 0), (.int .i64 0), (.int .i64 0), (.int .i64 0), (.int .i64 0)]), [(0, 3), (1, 3), (2, 3), (3, 3), (4, 3)], 0, 0⟩
theorem ti44 : ti Try.prog 44 = some I44 := by kernel_rfl
theorem zc44 : zcells I44 = some [.v (.int .i64 0), .v (.int .i64 0), .v (.int .i64 0), .v (.int .i64 0), .v (.int .i64 0)] := by kernel_rfl
abbrev I45 : TI := ⟨3, 1, 24, some (.slice none 0 0), [], 44, 0⟩
theorem ti45 : ti Try.prog 45 = some I45 := by kernel_rfl
theorem zc45 : zcells I45 = some [.v (.slice none 0 0)] := by kernel_rfl
theorem ki45 : kindIs Try.prog 45 3 = true := by kernel_rfl
abbrev I46 : TI := ⟨10, 1, 8, some .nilFunc, [], 0, 0⟩
theorem ti46 : ti Try.prog 46 = some I46 := by kernel_rfl
theorem zc46 : zcells I46 = some [.v .nilFunc] := by kernel_rfl
abbrev I47 : TI := ⟨10, 1, 8, some .nilFunc, [], 0, 0⟩
theorem ti47 : ti Try.prog 47 = some I47 := by kernel_rfl
theorem zc47 : zcells I47 = some [.v .nilFunc] := by kernel_rfl
abbrev I48 : TI := ⟨3, 1, 24, some (.slice none 0 0), [], 104, 0⟩
theorem ti48 : ti Try.prog 48 = some I48 := by kernel_rfl
theorem zc48 : zcells I48 = some [.v (.slice none 0 0)] := by kernel_rfl
theorem ki48 : kindIs Try.prog 48 3 = true := by kernel_rfl
abbrev I49 : TI := ⟨1, 4, 64, some (.agg #[(.int .i64 0), (.slice none 0 0), (.bool false), (.slice none 0 0)]), [(0, 3), (1, 22), (2, 4), (3, 48)], 0, 0⟩
theorem ti49 : ti Try.prog 49 = some I49 := by kernel_rfl
theorem zc49 : zcells I49 = some [.v (.int .i64 0), .v (.slice none 0 0), .v (.bool false), .v (.slice none 0 0)] := by kernel_rfl
abbrev I50 : TI := ⟨1, 4, 64, some (.agg #[(.int .i64 0), (.slice none 0 0), (.bool false), (.slice none 0 0)]), [(0, 3), (1, 22), (2, 4), (3, 48)], 0, 0⟩
theorem ti50 : ti Try.prog 50 = some I50 := by kernel_rfl
theorem zc50 : zcells I50 = some [.v (.int .i64 0), .v (.slice none 0 0), .v (.bool false), .v (.slice none 0 0)] := by kernel_rfl
abbrev I51 : TI := ⟨10, 1, 8, some .nilFunc, [], 0, 0⟩
theorem ti51 : ti Try.prog 51 = some I51 := by kernel_rfl
theorem zc51 : zcells I51 = some [.v .nilFunc] := by kernel_rfl
abbrev I52 : TI := ⟨10, 1, 8, some .nilFunc, [], 0, 0⟩
theorem ti52 : ti Try.prog 52 = some I52 := by kernel_rfl
theorem zc52 : zcells I52 = some [.v .nilFunc] := by kernel_rfl
abbrev I53 : TI := ⟨1, 2, 48, some (.agg #[(.slice none 0 0), (.slice none 0 0)]), [(0, 22), (1, 22)], 0, 0⟩
theorem ti53 : ti Try.prog 53 = some I53 := by kernel_rfl
theorem zc53 : zcells I53 = some [.v (.slice none 0 0), .v (.slice none 0 0)] := by kernel_rfl
abbrev I54 : TI := ⟨1, 2, 48, some (.agg #[(.slice none 0 0), (.slice none 0 0)]), [(0, 22), (1, 22)], 0, 0⟩
theorem ti54 : ti Try.prog 54 = some I54 := by kernel_rfl
theorem zc54 : zcells I54 = some [.v (.slice none 0 0), .v (.slice none 0 0)] := by kernel_rfl
abbrev I55 : TI := ⟨10, 1, 8, some .nilFunc, [], 0, 0⟩
theorem ti55 : ti Try.prog 55 = some I55 := by kernel_rfl
theorem zc55 : zcells I55 = some [.v .nilFunc] := by kernel_rfl
abbrev I56 : TI := ⟨10, 1, 8, some .nilFunc, [], 0, 0⟩
theorem ti56 : ti Try.prog 56 = some I56 := by kernel_rfl
theorem zc56 : zcells I56 = some [.v .nilFunc] := by kernel_rfl
abbrev I57 : TI := ⟨10, 1, 8, some .nilFunc, [], 0, 0⟩
theorem ti57 : ti Try.prog 57 = some I57 := by kernel_rfl
theorem zc57 : zcells I57 = some [.v .nilFunc] := by kernel_rfl
abbrev I58 : TI := ⟨10, 1, 8, some .nilFunc, [], 0, 0⟩
theorem ti58 : ti Try.prog 58 = some I58 := by kernel_rfl
theorem zc58 : zcells I58 = some [.v .nilFunc] := by kernel_rfl
abbrev I59 : TI := ⟨10, 1, 8, some .nilFunc, [], 0, 0⟩
theorem ti59 : ti Try.prog 59 = some I59 := by kernel_rfl
theorem zc59 : zcells I59 = some [.v .nilFunc] := by kernel_rfl
abbrev I60 : TI := ⟨10, 1, 8, some .nilFunc, [], 0, 0⟩
theorem ti60 : ti Try.prog 60 = some I60 := by kernel_rfl
theorem zc60 : zcells I60 = some [.v .nilFunc] := by kernel_rfl
abbrev I61 : TI := ⟨1, 2, 16, some (.agg #[(.int .i64 0), (.bool false)]), [(0, 3), (1, 4)], 0, 0⟩
theorem ti61 : ti Try.prog 61 = some I61 := by kernel_rfl
theorem zc61 : zcells I61 = some [.v (.int .i64 0), .v (.bool false)] := by kernel_rfl
abbrev I62 : TI := ⟨1, 2, 16, some (.agg #[(.int .i64 0), (.bool false)]), [(0, 3), (1, 4)], 0, 0⟩
theorem ti62 : ti Try.prog 62 = some I62 := by kernel_rfl
theorem zc62 : zcells I62 = some [.v (.int .i64 0), .v (.bool false)] := by kernel_rfl
abbrev I63 : TI := ⟨10, 1, 8, some .nilFunc, [], 0, 0⟩
theorem ti63 : ti Try.prog 63 = some I63 := by kernel_rfl
theorem zc63 : zcells I63 = some [.v .nilFunc] := by kernel_rfl
abbrev I64 : TI := ⟨5, 1, 8, some (.map none), [], 3, 3⟩
theorem ti64 : ti Try.prog 64 = some I64 := by kernel_rfl
theorem zc64 : zcells I64 = some [.v (.map none)] := by kernel_rfl
abbrev I65 : TI := ⟨10, 1, 8, some .nilFunc, [], 0, 0⟩
theorem ti65 : ti Try.prog 65 = some I65 := by kernel_rfl
theorem zc65 : zcells I65 = some [.v .nilFunc] := by kernel_rfl
abbrev I66 : TI := ⟨10, 1, 8, some .nilFunc, [], 0, 0⟩
theorem ti66 : ti Try.prog 66 = some I66 := by kernel_rfl
theorem zc66 : zcells I66 = some [.v .nilFunc] := by kernel_rfl
abbrev I67 : TI := ⟨10, 1, 8, some .nilFunc, [], 0, 0⟩
theorem ti67 : ti Try.prog 67 = some I67 := by kernel_rfl
theorem zc67 : zcells I67 = some [.v .nilFunc] := by kernel_rfl
abbrev I68 : TI := ⟨1, 4, 32, some (.agg #[(.int .i64 0), (.bool false), (.int .i64 0), (.bool false)]), [(0, 62), (2, 3), (3, 4)], 0, 0⟩
theorem ti68 : ti Try.prog 68 = some I68 := by kernel_rfl
theorem zc68 : zcells I68 = some [.v (.int .i64 0), .v (.bool false), .v (.int .i64 0), .v (.bool false)] := by kernel_rfl
abbrev I69 : TI := ⟨1, 4, 32, some (.agg #[(.int .i64 0), (.bool false), (.int .i64 0), (.bool false)]), [(0, 62), (2, 3), (3, 4)], 0, 0⟩
theorem ti69 : ti Try.prog 69 = some I69 := by kernel_rfl
theorem zc69 : zcells I69 = some [.v (.int .i64 0), .v (.bool false), .v (.int .i64 0), .v (.bool false)] := by kernel_rfl
abbrev I70 : TI := ⟨10, 1, 8, some .nilFunc, [], 0, 0⟩
theorem ti70 : ti Try.prog 70 = some I70 := by kernel_rfl
theorem zc70 : zcells I70 = some [.v .nilFunc] := by kernel_rfl
abbrev I71 : TI := ⟨10, 1, 8, some .nilFunc, [], 0, 0⟩
theorem ti71 : ti Try.prog 71 = some I71 := by kernel_rfl
theorem zc71 : zcells I71 = some [.v .nilFunc] := by kernel_rfl
abbrev I72 : TI := ⟨10, 1, 8, some .nilFunc, [], 0, 0⟩
theorem ti72 : ti Try.prog 72 = some I72 := by kernel_rfl
theorem zc72 : zcells I72 = some [.v .nilFunc] := by kernel_rfl
abbrev I73 : TI := ⟨10, 1, 8, some .nilFunc, [], 0, 0⟩
theorem ti73 : ti Try.prog 73 = some I73 := by kernel_rfl
theorem zc73 : zcells I73 = some [.v .nilFunc] := by kernel_rfl
abbrev I74 : TI := ⟨10, 1, 8, some .nilFunc, [], 0, 0⟩
theorem ti74 : ti Try.prog 74 = some I74 := by kernel_rfl
theorem zc74 : zcells I74 = some [.v .nilFunc] := by kernel_rfl
abbrev I75 : TI := ⟨10, 1, 8, some .nilFunc, [], 0, 0⟩
theorem ti75 : ti Try.prog 75 = some I75 := by kernel_rfl
theorem zc75 : zcells I75 = some [.v .nilFunc] := by kernel_rfl
abbrev I77 : TI := ⟨10, 1, 8, some .nilFunc, [], 0, 0⟩
theorem ti77 : ti Try.prog 77 = some I77 := by kernel_rfl
theorem zc77 : zcells I77 = some [.v .nilFunc] := by kernel_rfl
abbrev I78 : TI := ⟨10, 1, 8, some .nilFunc, [], 0, 0⟩
theorem ti78 : ti Try.prog 78 = some I78 := by kernel_rfl
theorem zc78 : zcells I78 = some [.v .nilFunc] := by kernel_rfl
abbrev I79 : TI := ⟨5, 1, 8, some (.map none), [], 3, 81⟩
theorem ti79 : ti Try.prog 79 = some I79 := by kernel_rfl
theorem zc79 : zcells I79 = some [.v (.map none)] := by kernel_rfl
abbrev I80 : TI := ⟨10, 1, 8, some .nilFunc, [], 0, 0⟩
theorem ti80 : ti Try.prog 80 = some I80 := by kernel_rfl
theorem zc80 : zcells I80 = some [.v .nilFunc] := by kernel_rfl
abbrev I81 : TI := ⟨2, 2, 16, some (.agg #[(.int .i64 0), (.int .i64 0)]), [], 3, 2⟩
theorem ti81 : ti Try.prog 81 = some I81 := by kernel_rfl
theorem zc81 : zcells I81 = some [.v (.int .i64 0), .v (.int .i64 0)] := by kernel_rfl
abbrev I82 : TI := ⟨10, 1, 8, some .nilFunc, [], 0, 0⟩
theorem ti82 : ti Try.prog 82 = some I82 := by kernel_rfl
theorem zc82 : zcells I82 = some [.v .nilFunc] := by kernel_rfl
abbrev I83 : TI := ⟨10, 1, 8, some .nilFunc, [], 0, 0⟩
theorem ti83 : ti Try.prog 83 = some I83 := by kernel_rfl
theorem zc83 : zcells I83 = some [.v .nilFunc] := by kernel_rfl
abbrev I84 : TI := ⟨10, 1, 8, some .nilFunc, [], 0, 0⟩
theorem ti84 : ti Try.prog 84 = some I84 := by kernel_rfl
theorem zc84 : zcells I84 = some [.v .nilFunc] := by kernel_rfl
abbrev I85 : TI := ⟨10, 1, 8, some .nilFunc, [], 0, 0⟩
theorem ti85 : ti Try.prog 85 = some I85 := by kernel_rfl
theorem zc85 : zcells I85 = some [.v .nilFunc] := by kernel_rfl
abbrev I86 : TI := ⟨10, 1, 8, some .nilFunc, [], 0, 0⟩
theorem ti86 : ti Try.prog 86 = some I86 := by kernel_rfl
theorem zc86 : zcells I86 = some [.v .nilFunc] := by kernel_rfl
abbrev I87 : TI := ⟨10, 1, 8, some .nilFunc, [], 0, 0⟩
theorem ti87 : ti Try.prog 87 = some I87 := by kernel_rfl
theorem zc87 : zcells I87 = some [.v .nilFunc] := by kernel_rfl
abbrev I89 : TI := ⟨10, 1, 8, some .nilFunc, [], 0, 0⟩
theorem ti89 : ti Try.prog 89 = some I89 := by kernel_rfl
theorem zc89 : zcells I89 = some [.v .nilFunc] := by kernel_rfl
abbrev I90 : TI := ⟨10, 1, 8, some .nilFunc, [], 0, 0⟩
theorem ti90 : ti Try.prog 90 = some I90 := by kernel_rfl
theorem zc90 : zcells I90 = some [.v .nilFunc] := by kernel_rfl
abbrev I91 : TI := ⟨10, 1, 8, some .nilFunc, [], 0, 0⟩
theorem ti91 : ti Try.prog 91 = some I91 := by kernel_rfl
theorem zc91 : zcells I91 = some [.v .nilFunc] := by kernel_rfl
abbrev I92 : TI := ⟨10, 1, 8, some .nilFunc, [], 0, 0⟩
theorem ti92 : ti Try.prog 92 = some I92 := by kernel_rfl
theorem zc92 : zcells I92 = some [.v .nilFunc] := by kernel_rfl
abbrev I93 : TI := ⟨10, 1, 8, some .nilFunc, [], 0, 0⟩
theorem ti93 : ti Try.prog 93 = some I93 := by kernel_rfl
theorem zc93 : zcells I93 = some [.v .nilFunc] := by kernel_rfl
abbrev I94 : TI := ⟨10, 1, 8, some .nilFunc, [], 0, 0⟩
theorem ti94 : ti Try.prog 94 = some I94 := by kernel_rfl
theorem zc94 : zcells I94 = some [.v .nilFunc] := by kernel_rfl
abbrev I95 : TI := ⟨10, 1, 8, some .nilFunc, [], 0, 0⟩
theorem ti95 : ti Try.prog 95 = some I95 := by kernel_rfl
theorem zc95 : zcells I95 = some [.v .nilFunc] := by kernel_rfl
abbrev I96 : TI := ⟨10, 1, 8, some .nilFunc, [], 0, 0⟩
theorem ti96 : ti Try.prog 96 = some I96 := by kernel_rfl
theorem zc96 : zcells I96 = some [.v .nilFunc] := by kernel_rfl
abbrev I98 : TI := ⟨10, 1, 8, some .nilFunc, [], 0, 0⟩
theorem ti98 : ti Try.prog 98 = some I98 := by kernel_rfl
theorem zc98 : zcells I98 = some [.v .nilFunc] := by kernel_rfl
abbrev I99 : TI := ⟨10, 1, 8, some .nilFunc, [], 0, 0⟩
theorem ti99 : ti Try.prog 99 = some I99 := by kernel_rfl
theorem zc99 : zcells I99 = some [.v .nilFunc] := by kernel_rfl
abbrev I101 : TI := ⟨10, 1, 8, some .nilFunc, [], 0, 0⟩
theorem ti101 : ti Try.prog 101 = some I101 := by kernel_rfl
theorem zc101 : zcells I101 = some [.v .nilFunc] := by kernel_rfl
abbrev I102 : TI := ⟨10, 1, 8, some .nilFunc, [], 0, 0⟩
theorem ti102 : ti Try.prog 102 = some I102 := by kernel_rfl
theorem zc102 : zcells I102 = some [.v .nilFunc] := by kernel_rfl
abbrev I103 : TI := ⟨1, 2, 16, some (.agg #[(.int .i64 0), (.int .i64 0)]), [(0, 3), (1, 3)], 0, 0⟩
theorem ti103 : ti Try.prog 103 = some I103 := by kernel_rfl
theorem zc103 : zcells I103 = some [.v (.int .i64 0), .v (.int .i64 0)] := by kernel_rfl
abbrev I104 : TI := ⟨1, 2, 16, some (.agg #[(.int .i64 0), (.int .i64 0)]), [(0, 3), (1, 3)], 0, 0⟩
theorem ti104 : ti Try.prog 104 = some I104 := by kernel_rfl
theorem zc104 : zcells I104 = some [.v (.int .i64 0), .v (.int .i64 0)] := by kernel_rfl
abbrev I105 : TI := ⟨10, 1, 8, some .nilFunc, [], 0, 0⟩
theorem ti105 : ti Try.prog 105 = some I105 := by kernel_rfl
theorem zc105 : zcells I105 = some [.v .nilFunc] := by kernel_rfl
abbrev I106 : TI := ⟨10, 1, 8, some .nilFunc, [], 0, 0⟩
theorem ti106 : ti Try.prog 106 = some I106 := by kernel_rfl
theorem zc106 : zcells I106 = some [.v .nilFunc] := by kernel_rfl
abbrev I107 : TI := ⟨10, 1, 8, some .nilFunc, [], 0, 0⟩
theorem ti107 : ti Try.prog 107 = some I107 := by kernel_rfl
theorem zc107 : zcells I107 = some [.v .nilFunc] := by kernel_rfl
abbrev I108 : TI := ⟨10, 1, 8, some .nilFunc, [], 0, 0⟩
theorem ti108 : ti Try.prog 108 = some I108 := by kernel_rfl
theorem zc108 : zcells I108 = some [.v .nilFunc] := by kernel_rfl
abbrev I109 : TI := ⟨10, 1, 8, some .nilFunc, [], 0, 0⟩
theorem ti109 : ti Try.prog 109 = some I109 := by kernel_rfl
theorem zc109 : zcells I109 = some [.v .nilFunc] := by kernel_rfl
abbrev I110 : TI := ⟨10, 1, 8, some .nilFunc, [], 0, 0⟩
theorem ti110 : ti Try.prog 110 = some I110 := by kernel_rfl
theorem zc110 : zcells I110 = some [.v .nilFunc] := by kernel_rfl
abbrev I111 : TI := ⟨10, 1, 8, some .nilFunc, [], 0, 0⟩
theorem ti111 : ti Try.prog 111 = some I111 := by kernel_rfl
theorem zc111 : zcells I111 = some [.v .nilFunc] := by kernel_rfl
abbrev I112 : TI := ⟨8, 1, 8, some (.int .u64 0), [], 0, 0⟩
theorem ti112 : ti Try.prog 112 = some I112 := by kernel_rfl
theorem zc112 : zcells I112 = some [.v (.int .u64 0)] := by kernel_rfl
theorem it112 : intTy Try.prog 112 = some .u64 := by kernel_rfl
abbrev I113 : TI := ⟨10, 1, 8, some .nilFunc, [], 0, 0⟩
theorem ti113 : ti Try.prog 113 = some I113 := by kernel_rfl
theorem zc113 : zcells I113 = some [.v .nilFunc] := by kernel_rfl
abbrev I114 : TI := ⟨10, 1, 8, some .nilFunc, [], 0, 0⟩
theorem ti114 : ti Try.prog 114 = some I114 := by kernel_rfl
theorem zc114 : zcells I114 = some [.v .nilFunc] := by kernel_rfl
abbrev I115 : TI := ⟨10, 1, 8, some .nilFunc, [], 0, 0⟩
theorem ti115 : ti Try.prog 115 = some I115 := by kernel_rfl
theorem zc115 : zcells I115 = some [.v .nilFunc] := by kernel_rfl
abbrev I116 : TI := ⟨6, 1, 8, some (.pointer none), [], 50, 0⟩
theorem ti116 : ti Try.prog 116 = some I116 := by kernel_rfl
theorem zc116 : zcells I116 = some [.v (.pointer none)] := by kernel_rfl
abbrev I117 : TI := ⟨10, 1, 8, some .nilFunc, [], 0, 0⟩
theorem ti117 : ti Try.prog 117 = some I117 := by kernel_rfl
theorem zc117 : zcells I117 = some [.v .nilFunc] := by kernel_rfl
abbrev I118 : TI := ⟨10, 1, 8, some .nilFunc, [], 0, 0⟩
theorem ti118 : ti Try.prog 118 = some I118 := by kernel_rfl
theorem zc118 : zcells I118 = some [.v .nilFunc] := by kernel_rfl
abbrev I119 : TI := ⟨10, 1, 8, some .nilFunc, [], 0, 0⟩
theorem ti119 : ti Try.prog 119 = some I119 := by kernel_rfl
theorem zc119 : zcells I119 = some [.v .nilFunc] := by kernel_rfl
abbrev I120 : TI := ⟨8, 1, 8, some (.int .i64 0), [], 0, 0⟩
theorem ti120 : ti Try.prog 120 = some I120 := by kernel_rfl
theorem zc120 : zcells I120 = some [.v (.int .i64 0)] := by kernel_rfl
theorem it120 : intTy Try.prog 120 = some .i64 := by kernel_rfl
abbrev I122 : TI := ⟨10, 1, 8, some .nilFunc, [], 0, 0⟩
theorem ti122 : ti Try.prog 122 = some I122 := by kernel_rfl
theorem zc122 : zcells I122 = some [.v .nilFunc] := by kernel_rfl
abbrev I123 : TI := ⟨10, 1, 8, some .nilFunc, [], 0, 0⟩
theorem ti123 : ti Try.prog 123 = some I123 := by kernel_rfl
theorem zc123 : zcells I123 = some [.v .nilFunc] := by kernel_rfl
abbrev I124 : TI := ⟨10, 1, 8, some .nilFunc, [], 0, 0⟩
theorem ti124 : ti Try.prog 124 = some I124 := by kernel_rfl
theorem zc124 : zcells I124 = some [.v .nilFunc] := by kernel_rfl
abbrev I125 : TI := ⟨10, 1, 8, some .nilFunc, [], 0, 0⟩
theorem ti125 : ti Try.prog 125 = some I125 := by kernel_rfl
theorem zc125 : zcells I125 = some [.v .nilFunc] := by kernel_rfl
abbrev I126 : TI := ⟨10, 1, 8, some .nilFunc, [], 0, 0⟩
theorem ti126 : ti Try.prog 126 = some I126 := by kernel_rfl
theorem zc126 : zcells I126 = some [.v .nilFunc] := by kernel_rfl
abbrev I127 : TI := ⟨10, 1, 8, some .nilFunc, [], 0, 0⟩
theorem ti127 : ti Try.prog 127 = some I127 := by kernel_rfl
theorem zc127 : zcells I127 = some [.v .nilFunc] := by kernel_rfl
abbrev I128 : TI := ⟨8, 1, 4, some (.int .u32 0), [], 0, 0⟩
theorem ti128 : ti Try.prog 128 = some I128 := by kernel_rfl
theorem zc128 : zcells I128 = some [.v (.int .u32 0)] := by kernel_rfl
theorem it128 : intTy Try.prog 128 = some .u32 := by kernel_rfl
abbrev I129 : TI := ⟨10, 1, 8, some .nilFunc, [], 0, 0⟩
theorem ti129 : ti Try.prog 129 = some I129 := by kernel_rfl
theorem zc129 : zcells I129 = some [.v .nilFunc] := by kernel_rfl
abbrev I130 : TI := ⟨8, 1, 8, some (.int .u64 0), [], 0, 0⟩
theorem ti130 : ti Try.prog 130 = some I130 := by kernel_rfl
theorem zc130 : zcells I130 = some [.v (.int .u64 0)] := by kernel_rfl
theorem it130 : intTy Try.prog 130 = some .u64 := by kernel_rfl
abbrev I131 : TI := ⟨10, 1, 8, some .nilFunc, [], 0, 0⟩
theorem ti131 : ti Try.prog 131 = some I131 := by kernel_rfl
theorem zc131 : zcells I131 = some [.v .nilFunc] := by kernel_rfl
abbrev I132 : TI := ⟨6, 1, 8, some (.pointer none), [], 134, 0⟩
theorem ti132 : ti Try.prog 132 = some I132 := by kernel_rfl
theorem zc132 : zcells I132 = some [.v (.pointer none)] := by kernel_rfl
abbrev I133 : TI := ⟨1, 2, 32, some (.agg #[(.pointer none), (.slice none 0 0)]), [(0, 116), (1, 22)], 0, 0⟩
theorem ti133 : ti Try.prog 133 = some I133 := by kernel_rfl
theorem zc133 : zcells I133 = some [.v (.pointer none), .v (.slice none 0 0)] := by kernel_rfl
abbrev I134 : TI := ⟨1, 2, 32, some (.agg #[(.pointer none), (.slice none 0 0)]), [(0, 116), (1, 22)], 0, 0⟩
theorem ti134 : ti Try.prog 134 = some I134 := by kernel_rfl
theorem zc134 : zcells I134 = some [.v (.pointer none), .v (.slice none 0 0)] := by kernel_rfl
abbrev I135 : TI := ⟨8, 1, 8, some (.int .u64 0), [], 0, 0⟩
theorem ti135 : ti Try.prog 135 = some I135 := by kernel_rfl
theorem zc135 : zcells I135 = some [.v (.int .u64 0)] := by kernel_rfl
theorem it135 : intTy Try.prog 135 = some .u64 := by kernel_rfl
abbrev I136 : TI := ⟨10, 1, 8, some .nilFunc, [], 0, 0⟩
theorem ti136 : ti Try.prog 136 = some I136 := by kernel_rfl
theorem zc136 : zcells I136 = some [.v .nilFunc] := by kernel_rfl
abbrev I137 : TI := ⟨10, 1, 8, some .nilFunc, [], 0, 0⟩
theorem ti137 : ti Try.prog 137 = some I137 := by kernel_rfl
theorem zc137 : zcells I137 = some [.v .nilFunc] := by kernel_rfl
abbrev I138 : TI := ⟨10, 1, 8, some .nilFunc, [], 0, 0⟩
theorem ti138 : ti Try.prog 138 = some I138 := by kernel_rfl
theorem zc138 : zcells I138 = some [.v .nilFunc] := by kernel_rfl
abbrev I139 : TI := ⟨6, 1, 8, some (.pointer none), [], 3, 0⟩
theorem ti139 : ti Try.prog 139 = some I139 := by kernel_rfl
theorem zc139 : zcells I139 = some [.v (.pointer none)] := by kernel_rfl
abbrev I140 : TI := ⟨10, 1, 8, some .nilFunc, [], 0, 0⟩
theorem ti140 : ti Try.prog 140 = some I140 := by kernel_rfl
theorem zc140 : zcells I140 = some [.v .nilFunc] := by kernel_rfl
abbrev I141 : TI := ⟨10, 1, 8, some .nilFunc, [], 0, 0⟩
theorem ti141 : ti Try.prog 141 = some I141 := by kernel_rfl
theorem zc141 : zcells I141 = some [.v .nilFunc] := by kernel_rfl
abbrev I142 : TI := ⟨10, 1, 8, some .nilFunc, [], 0, 0⟩
theorem ti142 : ti Try.prog 142 = some I142 := by kernel_rfl
theorem zc142 : zcells I142 = some [.v .nilFunc] := by kernel_rfl
abbrev I143 : TI := ⟨3, 1, 24, some (.slice none 0 0), [], 104, 0⟩
theorem ti143 : ti Try.prog 143 = some I143 := by kernel_rfl
theorem zc143 : zcells I143 = some [.v (.slice none 0 0)] := by kernel_rfl
theorem ki143 : kindIs Try.prog 143 3 = true := by kernel_rfl
abbrev I144 : TI := ⟨10, 1, 8, some .nilFunc, [], 0, 0⟩
theorem ti144 : ti Try.prog 144 = some I144 := by kernel_rfl
theorem zc144 : zcells I144 = some [.v .nilFunc] := by kernel_rfl
abbrev I145 : TI := ⟨6, 1, 8, some (.pointer none), [], 135, 0⟩
theorem ti145 : ti Try.prog 145 = some I145 := by kernel_rfl
theorem zc145 : zcells I145 = some [.v (.pointer none)] := by kernel_rfl
abbrev I147 : TI := ⟨10, 1, 8, some .nilFunc, [], 0, 0⟩
theorem ti147 : ti Try.prog 147 = some I147 := by kernel_rfl
theorem zc147 : zcells I147 = some [.v .nilFunc] := by kernel_rfl
abbrev I148 : TI := ⟨10, 1, 8, some .nilFunc, [], 0, 0⟩
theorem ti148 : ti Try.prog 148 = some I148 := by kernel_rfl
theorem zc148 : zcells I148 = some [.v .nilFunc] := by kernel_rfl
abbrev I149 : TI := ⟨10, 1, 8, some .nilFunc, [], 0, 0⟩
theorem ti149 : ti Try.prog 149 = some I149 := by kernel_rfl
theorem zc149 : zcells I149 = some [.v .nilFunc] := by kernel_rfl
abbrev I150 : TI := ⟨10, 1, 8, some .nilFunc, [], 0, 0⟩
theorem ti150 : ti Try.prog 150 = some I150 := by kernel_rfl
theorem zc150 : zcells I150 = some [.v .nilFunc] := by kernel_rfl
abbrev I151 : TI := ⟨10, 1, 8, some .nilFunc, [], 0, 0⟩
theorem ti151 : ti Try.prog 151 = some I151 := by kernel_rfl
theorem zc151 : zcells I151 = some [.v .nilFunc] := by kernel_rfl
abbrev I152 : TI := ⟨10, 1, 8, some .nilFunc, [], 0, 0⟩
theorem ti152 : ti Try.prog 152 = some I152 := by kernel_rfl
theorem zc152 : zcells I152 = some [.v .nilFunc] := by kernel_rfl
abbrev I153 : TI := ⟨10, 1, 8, some .nilFunc, [], 0, 0⟩
theorem ti153 : ti Try.prog 153 = some I153 := by kernel_rfl
theorem zc153 : zcells I153 = some [.v .nilFunc] := by kernel_rfl
abbrev I154 : TI := ⟨1, 4, 40, some (.agg #[(.pointer none), (.pointer none), (.pointer none), (str [])]), [(0, 17), (1, 17), (2, 17), (3, 9)], 0, 0⟩
theorem ti154 : ti Try.prog 154 = some I154 := by kernel_rfl
theorem zc154 : zcells I154 = some [.v (.pointer none), .v (.pointer none), .v (.pointer none), .v (str [])] := by kernel_rfl
abbrev I155 : TI := ⟨1, 4, 40, some (.agg #[(.pointer none), (.pointer none), (.pointer none), (str [])]), [(0, 17), (1, 17), (2, 17), (3, 9)], 0, 0⟩
theorem ti155 : ti Try.prog 155 = some I155 := by kernel_rfl
theorem zc155 : zcells I155 = some [.v (.pointer none), .v (.pointer none), .v (.pointer none), .v (str [])] := by kernel_rfl
abbrev I156 : TI := ⟨2, 0, 0, some (.agg #[]), [], 16, 0⟩
theorem ti156 : ti Try.prog 156 = some I156 := by kernel_rfl
theorem zc156 : zcells I156 = some [] := by kernel_rfl
abbrev I157 : TI := ⟨1, 0, 0, some (.agg #[]), [(0, 156)], 0, 0⟩
theorem ti157 : ti Try.prog 157 = some I157 := by kernel_rfl
theorem zc157 : zcells I157 = some [] := by kernel_rfl
abbrev I158 : TI := ⟨1, 0, 0, some (.agg #[]), [(0, 156)], 0, 0⟩
theorem ti158 : ti Try.prog 158 = some I158 := by kernel_rfl
theorem zc158 : zcells I158 = some [] := by kernel_rfl
abbrev I159 : TI := ⟨10, 1, 8, some .nilFunc, [], 0, 0⟩
theorem ti159 : ti Try.prog 159 = some I159 := by kernel_rfl
theorem zc159 : zcells I159 = some [.v .nilFunc] := by kernel_rfl
abbrev I160 : TI := ⟨8, 1, 1, some (.int .u8 0), [], 0, 0⟩
theorem ti160 : ti Try.prog 160 = some I160 := by kernel_rfl
theorem zc160 : zcells I160 = some [.v (.int .u8 0)] := by kernel_rfl
theorem it160 : intTy Try.prog 160 = some .u8 := by kernel_rfl
abbrev I161 : TI := ⟨8, 1, 1, some (.int .u8 0), [], 0, 0⟩
theorem ti161 : ti Try.prog 161 = some I161 := by kernel_rfl
theorem zc161 : zcells I161 = some [.v (.int .u8 0)] := by kernel_rfl
theorem it161 : intTy Try.prog 161 = some .u8 := by kernel_rfl
abbrev I162 : TI := ⟨10, 1, 8, some .nilFunc, [], 0, 0⟩
theorem ti162 : ti Try.prog 162 = some I162 := by kernel_rfl
theorem zc162 : zcells I162 = some [.v .nilFunc] := by kernel_rfl
abbrev I163 : TI := ⟨6, 1, 8, some (.pointer none), [], 5, 0⟩
theorem ti163 : ti Try.prog 163 = some I163 := by kernel_rfl
theorem zc163 : zcells I163 = some [.v (.pointer none)] := by kernel_rfl
abbrev I164 : TI := ⟨8, 1, 4, some (.int .i32 0), [], 0, 0⟩
theorem ti164 : ti Try.prog 164 = some I164 := by kernel_rfl
theorem zc164 : zcells I164 = some [.v (.int .i32 0)] := by kernel_rfl
theorem it164 : intTy Try.prog 164 = some .i32 := by kernel_rfl
abbrev I165 : TI := ⟨8, 1, 4, some (.int .i32 0), [], 0, 0⟩
theorem ti165 : ti Try.prog 165 = some I165 := by kernel_rfl
theorem zc165 : zcells I165 = some [.v (.int .i32 0)] := by kernel_rfl
theorem it165 : intTy Try.prog 165 = some .i32 := by kernel_rfl
abbrev I166 : TI := ⟨1, 11, 48, some (.agg #[(.int .u64 0), (.int .u64 0), (.int .u32 0), (.int .u8 0), (.int .u8 0), (.int .u8 0), (.int .u8 0), .nilFunc, (.pointer none), (.int .i32 0), (.int .i32 0)]), [(0, 12), (1, 12), (2, 128), (3, 160), (4, 5), (5, 5), (6, 161), (7, 162), (8, 163), (9, 164), (10, 165)], 0, 0⟩
theorem ti166 : ti Try.prog 166 = some I166 := by kernel_rfl
theorem zc166 : zcells I166 = some [.v (.int .u64 0), .v (.int .u64 0), .v (.int .u32 0), .v (.int .u8 0), .v (.int .u8 0), .v (.int .u8 0), .v (.int .u8 0), .v .nilFunc, .v (.pointer none), .v (.int .i32 0), .v (.int .i32 0)] := by kernel_rfl
abbrev I167 : TI := ⟨1, 11, 48, some (.agg #[(.int .u64 0), (.int .u64 0), (.int .u32 0), (.int .u8 0), (.int .u8 0), (.int .u8 0), (.int .u8 0), .nilFunc, (.pointer none), (.int .i32 0), (.int .i32 0)]), [(0, 12), (1, 12), (2, 128), (3, 160), (4, 5), (5, 5), (6, 161), (7, 162), (8, 163), (9, 164), (10, 165)], 0, 0⟩
theorem ti167 : ti Try.prog 167 = some I167 := by kernel_rfl
theorem zc167 : zcells I167 = some [.v (.int .u64 0), .v (.int .u64 0), .v (.int .u32 0), .v (.int .u8 0), .v (.int .u8 0), .v (.int .u8 0), .v (.int .u8 0), .v .nilFunc, .v (.pointer none), .v (.int .i32 0), .v (.int .i32 0)] := by kernel_rfl
theorem fl7_0 : fldAt Try.prog 7 0 = some (0, I2) := by kernel_rfl
theorem fl7_1 : fldAt Try.prog 7 1 = some (1, I3) := by kernel_rfl
theorem fl7_2 : fldAt Try.prog 7 2 = some (2, I4) := by kernel_rfl
theorem fl7_3 : fldAt Try.prog 7 3 = some (3, I6) := by kernel_rfl
theorem fl8_0 : fldAt Try.prog 8 0 = some (0, I2) := by kernel_rfl
theorem fl8_1 : fldAt Try.prog 8 1 = some (1, I3) := by kernel_rfl
theorem fl8_2 : fldAt Try.prog 8 2 = some (2, I4) := by kernel_rfl
theorem fl8_3 : fldAt Try.prog 8 3 = some (3, I6) := by kernel_rfl
theorem fl13_0 : fldAt Try.prog 13 0 = some (0, I9) := by kernel_rfl
theorem fl13_1 : fldAt Try.prog 13 1 = some (1, I12) := by kernel_rfl
theorem fl14_0 : fldAt Try.prog 14 0 = some (0, I9) := by kernel_rfl
theorem fl14_1 : fldAt Try.prog 14 1 = some (1, I12) := by kernel_rfl
theorem fl18_0 : fldAt Try.prog 18 0 = some (0, I17) := by kernel_rfl
theorem fl19_0 : fldAt Try.prog 19 0 = some (0, I17) := by kernel_rfl
theorem el22 : elemTI Try.prog 22 3 = some (I22, 3, I3) := by kernel_rfl
theorem el23 : elemTI Try.prog 23 3 = some (I23, 45, I45) := by kernel_rfl
theorem fl24_0 : fldAt Try.prog 24 0 = some (0, I22) := by kernel_rfl
theorem fl24_1 : fldAt Try.prog 24 1 = some (1, I23) := by kernel_rfl
theorem fl25_0 : fldAt Try.prog 25 0 = some (0, I22) := by kernel_rfl
theorem fl25_1 : fldAt Try.prog 25 1 = some (1, I23) := by kernel_rfl
theorem el26 : elemTI Try.prog 26 3 = some (I26, 62, I62) := by kernel_rfl
theorem el36 : elemTI Try.prog 36 3 = some (I36, 50, I50) := by kernel_rfl
theorem fl37_0 : fldAt Try.prog 37 0 = some (0, I22) := by kernel_rfl
theorem fl37_1 : fldAt Try.prog 37 1 = some (1, I36) := by kernel_rfl
theorem fl38_0 : fldAt Try.prog 38 0 = some (0, I22) := by kernel_rfl
theorem fl38_1 : fldAt Try.prog 38 1 = some (1, I36) := by kernel_rfl
theorem fl43_0 : fldAt Try.prog 43 0 = some (0, I3) := by kernel_rfl
theorem fl43_1 : fldAt Try.prog 43 1 = some (1, I3) := by kernel_rfl
theorem fl43_2 : fldAt Try.prog 43 2 = some (2, I3) := by kernel_rfl
theorem fl43_3 : fldAt Try.prog 43 3 = some (3, I3) := by kernel_rfl
theorem fl43_4 : fldAt Try.prog 43 4 = some (4, I3) := by kernel_rfl
theorem fl44_0 : fldAt Try.prog 44 0 = some (0, I3) := by kernel_rfl
theorem fl44_1 : fldAt Try.prog 44 1 = some (1, I3) := by kernel_rfl
theorem fl44_2 : fldAt Try.prog 44 2 = some (2, I3) := by kernel_rfl
theorem fl44_3 : fldAt Try.prog 44 3 = some (3, I3) := by kernel_rfl
theorem fl44_4 : fldAt Try.prog 44 4 = some (4, I3) := by kernel_rfl
theorem el45 : elemTI Try.prog 45 3 = some (I45, 44, I44) := by kernel_rfl
theorem el48 : elemTI Try.prog 48 3 = some (I48, 104, I104) := by kernel_rfl
theorem fl49_0 : fldAt Try.prog 49 0 = some (0, I3) := by kernel_rfl
theorem fl49_1 : fldAt Try.prog 49 1 = some (1, I22) := by kernel_rfl
theorem fl49_2 : fldAt Try.prog 49 2 = some (2, I4) := by kernel_rfl
theorem fl49_3 : fldAt Try.prog 49 3 = some (3, I48) := by kernel_rfl
theorem fl50_0 : fldAt Try.prog 50 0 = some (0, I3) := by kernel_rfl
theorem fl50_1 : fldAt Try.prog 50 1 = some (1, I22) := by kernel_rfl
theorem fl50_2 : fldAt Try.prog 50 2 = some (2, I4) := by kernel_rfl
theorem fl50_3 : fldAt Try.prog 50 3 = some (3, I48) := by kernel_rfl
theorem fl53_0 : fldAt Try.prog 53 0 = some (0, I22) := by kernel_rfl
theorem fl53_1 : fldAt Try.prog 53 1 = some (1, I22) := by kernel_rfl
theorem fl54_0 : fldAt Try.prog 54 0 = some (0, I22) := by kernel_rfl
theorem fl54_1 : fldAt Try.prog 54 1 = some (1, I22) := by kernel_rfl
theorem fl61_0 : fldAt Try.prog 61 0 = some (0, I3) := by kernel_rfl
theorem fl61_1 : fldAt Try.prog 61 1 = some (1, I4) := by kernel_rfl
theorem fl62_0 : fldAt Try.prog 62 0 = some (0, I3) := by kernel_rfl
theorem fl62_1 : fldAt Try.prog 62 1 = some (1, I4) := by kernel_rfl
theorem fl68_0 : fldAt Try.prog 68 0 = some (0, I62) := by kernel_rfl
theorem fl68_1 : fldAt Try.prog 68 1 = some (2, I3) := by kernel_rfl
theorem fl68_2 : fldAt Try.prog 68 2 = some (3, I4) := by kernel_rfl
theorem fl69_0 : fldAt Try.prog 69 0 = some (0, I62) := by kernel_rfl
theorem fl69_1 : fldAt Try.prog 69 1 = some (2, I3) := by kernel_rfl
theorem fl69_2 : fldAt Try.prog 69 2 = some (3, I4) := by kernel_rfl
theorem el81 : elemTI Try.prog 81 2 = some (I81, 3, I3) := by kernel_rfl
theorem fl103_0 : fldAt Try.prog 103 0 = some (0, I3) := by kernel_rfl
theorem fl103_1 : fldAt Try.prog 103 1 = some (1, I3) := by kernel_rfl
theorem fl104_0 : fldAt Try.prog 104 0 = some (0, I3) := by kernel_rfl
theorem fl104_1 : fldAt Try.prog 104 1 = some (1, I3) := by kernel_rfl
theorem fl133_0 : fldAt Try.prog 133 0 = some (0, I116) := by kernel_rfl
theorem fl133_1 : fldAt Try.prog 133 1 = some (1, I22) := by kernel_rfl
theorem fl134_0 : fldAt Try.prog 134 0 = some (0, I116) := by kernel_rfl
theorem fl134_1 : fldAt Try.prog 134 1 = some (1, I22) := by kernel_rfl
theorem el143 : elemTI Try.prog 143 3 = some (I143, 104, I104) := by kernel_rfl
theorem fl154_0 : fldAt Try.prog 154 0 = some (0, I17) := by kernel_rfl
theorem fl154_1 : fldAt Try.prog 154 1 = some (1, I17) := by kernel_rfl
theorem fl154_2 : fldAt Try.prog 154 2 = some (2, I17) := by kernel_rfl
theorem fl154_3 : fldAt Try.prog 154 3 = some (3, I9) := by kernel_rfl
theorem fl155_0 : fldAt Try.prog 155 0 = some (0, I17) := by kernel_rfl
theorem fl155_1 : fldAt Try.prog 155 1 = some (1, I17) := by kernel_rfl
theorem fl155_2 : fldAt Try.prog 155 2 = some (2, I17) := by kernel_rfl
theorem fl155_3 : fldAt Try.prog 155 3 = some (3, I9) := by kernel_rfl
theorem el156 : elemTI Try.prog 156 2 = some (I156, 16, I16) := by kernel_rfl
theorem fl157_0 : fldAt Try.prog 157 0 = some (0, I156) := by kernel_rfl
theorem fl158_0 : fldAt Try.prog 158 0 = some (0, I156) := by kernel_rfl
theorem fl166_0 : fldAt Try.prog 166 0 = some (0, I12) := by kernel_rfl
theorem fl166_1 : fldAt Try.prog 166 1 = some (1, I12) := by kernel_rfl
theorem fl166_2 : fldAt Try.prog 166 2 = some (2, I128) := by kernel_rfl
theorem fl166_3 : fldAt Try.prog 166 3 = some (3, I160) := by kernel_rfl
theorem fl166_4 : fldAt Try.prog 166 4 = some (4, I5) := by kernel_rfl
theorem fl166_5 : fldAt Try.prog 166 5 = some (5, I5) := by kernel_rfl
theorem fl166_6 : fldAt Try.prog 166 6 = some (6, I161) := by kernel_rfl
theorem fl166_7 : fldAt Try.prog 166 7 = some (7, I162) := by kernel_rfl
theorem fl166_8 : fldAt Try.prog 166 8 = some (8, I163) := by kernel_rfl
theorem fl166_9 : fldAt Try.prog 166 9 = some (9, I164) := by kernel_rfl
theorem fl166_10 : fldAt Try.prog 166 10 = some (10, I165) := by kernel_rfl
theorem fl167_0 : fldAt Try.prog 167 0 = some (0, I12) := by kernel_rfl
theorem fl167_1 : fldAt Try.prog 167 1 = some (1, I12) := by kernel_rfl
theorem fl167_2 : fldAt Try.prog 167 2 = some (2, I128) := by kernel_rfl
theorem fl167_3 : fldAt Try.prog 167 3 = some (3, I160) := by kernel_rfl
theorem fl167_4 : fldAt Try.prog 167 4 = some (4, I5) := by kernel_rfl
theorem fl167_5 : fldAt Try.prog 167 5 = some (5, I5) := by kernel_rfl
theorem fl167_6 : fldAt Try.prog 167 6 = some (6, I161) := by kernel_rfl
theorem fl167_7 : fldAt Try.prog 167 7 = some (7, I162) := by kernel_rfl
theorem fl167_8 : fldAt Try.prog 167 8 = some (8, I163) := by kernel_rfl
theorem fl167_9 : fldAt Try.prog 167 9 = some (9, I164) := by kernel_rfl
theorem fl167_10 : fldAt Try.prog 167 10 = some (10, I165) := by kernel_rfl
theorem eq44 : eqKinds Try.prog 44 = some [8, 8, 8, 8, 8] := by kernel_rfl
theorem eq62 : eqKinds Try.prog 62 = some [8, 7] := by kernel_rfl
theorem mt64 : mapTI Try.prog 64 = some (3, 3, (.int .i64 0)) := by kernel_rfl
theorem mt79 : mapTI Try.prog 79 = some (81, 3, (.int .i64 0)) := by kernel_rfl
theorem eq81 : eqKinds Try.prog 81 = some [8, 8] := by kernel_rfl
theorem ai81 : arrInt Try.prog 81 = some 2 := by kernel_rfl
theorem ar81 : arrTI Try.prog 81 = some 2 := by kernel_rfl
theorem eq104 : eqKinds Try.prog 104 = some [8, 8] := by kernel_rfl
theorem ar156 : arrTI Try.prog 156 = some 0 := by kernel_rfl
attribute [go_sem] ti1 zc1 ti2 zc2 it2 ti3 zc3 it3 ti4 zc4 ki4 ti5 zc5 it5 ti6 zc6 it6 ti7 zc7 ti8 zc8 ti9 zc9 ki9 kn9 ti10 zc10 ki10 kn10 ti11 zc11 ki11 kn11 ti12 zc12 it12 ti13 zc13 ti14 zc14 ti15 zc15 ti16 zc16 ti17 zc17 ti18 zc18 ti19 zc19 ti20 zc20 ki20 ti21 zc21 it21 ti22 zc22 ki22 ti23 zc23 ki23 ti24 zc24 ti25 zc25 ti26 zc26 ki26 ti27 zc27 ti28 zc28 ti30 zc30 ti32 zc32 ti33 zc33 ti34 zc34 ti35 zc35 ti36 zc36 ki36 ti37 zc37 ti38 zc38 ti40 zc40 ti42 zc42 ti43 zc43 ti44 zc44 ti45 zc45 ki45 ti46 zc46 ti47 zc47 ti48 zc48 ki48 ti49 zc49 ti50 zc50 ti51 zc51 ti52 zc52 ti53 zc53 ti54 zc54 ti55 zc55 ti56 zc56 ti57 zc57 ti58 zc58 ti59 zc59 ti60 zc60 ti61 zc61 ti62 zc62 ti63 zc63 ti64 zc64 ti65 zc65 ti66 zc66 ti67 zc67 ti68 zc68 ti69 zc69 ti70 zc70 ti71 zc71 ti72 zc72 ti73 zc73 ti74 zc74 ti75 zc75 ti77 zc77 ti78 zc78 ti79 zc79 ti80 zc80 ti81 zc81 ti82 zc82 ti83 zc83 ti84 zc84 ti85 zc85 ti86 zc86 ti87 zc87 ti89 zc89 ti90 zc90 ti91 zc91 ti92 zc92 ti93 zc93 ti94 zc94 ti95 zc95 ti96 zc96 ti98 zc98 ti99 zc99 ti101 zc101 ti102 zc102 ti103 zc103 ti104 zc104 ti105 zc105 ti106 zc106 ti107 zc107 ti108 zc108 ti109 zc109 ti110 zc110 ti111 zc111 ti112 zc112 it112 ti113 zc113 ti114 zc114 ti115 zc115 ti116 zc116 ti117 zc117 ti118 zc118 ti119 zc119 ti120 zc120 it120 ti122 zc122 ti123 zc123 ti124 zc124 ti125 zc125 ti126 zc126 ti127 zc127 ti128 zc128 it128 ti129 zc129 ti130 zc130 it130 ti131 zc131 ti132 zc132 ti133 zc133 ti134 zc134 ti135 zc135 it135 ti136 zc136 ti137 zc137 ti138 zc138 ti139 zc139 ti140 zc140 ti141 zc141 ti142 zc142 ti143 zc143 ki143 ti144 zc144 ti145 zc145 ti147 zc147 ti148 zc148 ti149 zc149 ti150 zc150 ti151 zc151 ti152 zc152 ti153 zc153 ti154 zc154 ti155 zc155 ti156 zc156 ti157 zc157 ti158 zc158 ti159 zc159 ti160 zc160 it160 ti161 zc161 it161 ti162 zc162 ti163 zc163 ti164 zc164 it164 ti165 zc165 it165 ti166 zc166 ti167 zc167 fl7_0 fl7_1 fl7_2 fl7_3 fl8_0 fl8_1 fl8_2 fl8_3 fl13_0 fl13_1 fl14_0 fl14_1 fl18_0 fl19_0 el22 el23 fl24_0 fl24_1 fl25_0 fl25_1 el26 el36 fl37_0 fl37_1 fl38_0 fl38_1 fl43_0 fl43_1 fl43_2 fl43_3 fl43_4 fl44_0 fl44_1 fl44_2 fl44_3 fl44_4 el45 el48 fl49_0 fl49_1 fl49_2 fl49_3 fl50_0 fl50_1 fl50_2 fl50_3 fl53_0 fl53_1 fl54_0 fl54_1 fl61_0 fl61_1 fl62_0 fl62_1 fl68_0 fl68_1 fl68_2 fl69_0 fl69_1 fl69_2 el81 fl103_0 fl103_1 fl104_0 fl104_1 fl133_0 fl133_1 fl134_0 fl134_1 el143 fl154_0 fl154_1 fl154_2 fl154_3 fl155_0 fl155_1 fl155_2 fl155_3 el156 fl157_0 fl158_0 fl166_0 fl166_1 fl166_2 fl166_3 fl166_4 fl166_5 fl166_6 fl166_7 fl166_8 fl166_9 fl166_10 fl167_0 fl167_1 fl167_2 fl167_3 fl167_4 fl167_5 fl167_6 fl167_7 fl167_8 fl167_9 fl167_10 eq44 eq62 mt64 mt79 eq81 ai81 ar81 eq104 ar156
end Go.Proofs.Yteieinhgdjjdoaa
namespace Go.Proofs.Yteieinhgdjjdoaa
open Go.RowKit
set_option maxRecDepth 8000
theorem follows : Try.prog.follows .mixedOrders = true := by kernel_rfl
theorem take_next {α : Type} {a b : List α} {i : Nat} {x : α} (h : a.take i = b.take i) (hx : a[i]? = some x) (hy : b[i]? = some x) : a.take (i + 1) = b.take (i + 1) := by
  rw [List.take_add_one, List.take_add_one, h, hx, hy]
theorem take_ne {α : Type} {a b : List α} {i : Nat} {x y : α} (hx : a[i]? = some x) (hy : b[i]? = some y) (e : x ≠ y) : a ≠ b := by
  rintro rfl; rw [hx] at hy; exact e (Option.some.inj hy)
theorem take_all {α : Type} {a b : List α} {i : Nat} (h : a.take i = b.take i) (hl : a.length = b.length) (hi : i = a.length) : a = b := by
  subst hi
  rwa [List.take_length, hl, List.take_length] at h
theorem vb {a b : Bool} (h : a = b) : HV.v (.bool a) = .v (.bool b) := by rw [h]
theorem len_eq {a b : Nat} : ((a : Int) = (b : Int)) = (a = b) := by simp only [eq_iff_iff]; omega
set_option maxHeartbeats 1000000 in
theorem refSameInts (a b : List Int) (ha : a.length ≤ 1000000) : HFn Try.prog 17 [.sl (ints a), .sl (ints b)] (.v (.bool (decide (a = b)))) := by
  refine HCalls_body (fn := Try.f17) 26 [4] (by kernel_rfl) rfl (by kernel_rfl) (HW.run 400 (by kernel_rfl) ?_)
  by_cases hl : a.length = b.length
  · have hl' : ((a.length : Int) = (b.length : Int)) = True := by rw [len_eq]; simp [hl]
    simp (config := { decide := true }) only [go_sem, Int.reduceToNat, Nat.reduceAdd, Nat.reduceSub, Nat.reduceMul, Nat.reduceBEq, reduceIte, reduceCtorEq, hl']
    refine HW.loopG (fun k T H => ∃ i : Nat, k = a.length - i ∧ i ≤ a.length ∧ a.take i = b.take i ∧ T 0 = .sl (ints a) ∧ T 1 = .sl (ints b) ∧ T 5 = .v (.int .i64 i) ∧ H = []) a.length ⟨_, _, Ghost.refl, 0, by simp, by omega, rfl, ?_, ?_, ?_, rfl⟩ ?_
    iterate 2 simp (config := { decide := true }) only [go_sem, Nat.reduceBEq, reduceIte]
    · simp (config := { decide := true }) only [go_sem, Nat.reduceBEq, reduceIte]; rfl
    · rintro k T H ⟨i, rfl, hi, heq, h0, h1, h5, rfl⟩
      refine HW.run 200 (by kernel_rfl) ?_
      by_cases hlt : i < a.length
      · have hlt' : ((i : Int) < (a.length : Int)) = True := by simp only [eq_iff_iff, iff_true]; omega
        have hx : a[i]? = some a[i] := List.getElem?_eq_getElem hlt
        have hy : b[i]? = some (b[i]'(by omega)) := List.getElem?_eq_getElem (by omega)
        generalize a[i] = x at hx
        generalize b[i]'(by omega) = y at hy
        have hlb : ((i : Int) < (b.length : Int)) = True := by simp only [eq_iff_iff, iff_true]; omega
        simp (config := { decide := true }) only [go_sem, Int.reduceToNat, Nat.reduceAdd, Nat.reduceSub, Nat.reduceMul, Nat.reduceBEq, reduceIte, reduceCtorEq, h0, h1, h5, hlt']
        refine HW.quiet 60 follows (by kernel_rfl) ?_
        by_cases hxy : x = y
        · subst hxy
          simp (config := { decide := true }) only [go_sem, Int.reduceToNat, Nat.reduceAdd, Nat.reduceSub, Nat.reduceMul, Nat.reduceBEq, reduceIte, reduceCtorEq, h0, h1, h5, hx, hy, hlt', hlb]
          refine ⟨_, _, Ghost.refl, a.length - (i + 1), by omega, i + 1, rfl, by omega, take_next heq hx hy, ?_, ?_, ?_, rfl⟩
          all_goals first | (simp (config := { decide := true }) only [go_sem, Nat.reduceBEq, reduceIte, h0, h1]; done) | (simp (config := { decide := true }) only [go_sem, Nat.reduceBEq, reduceIte]; rw [w64 (by omega) (by omega)]; rfl)
        · have hne := take_ne hx hy hxy
          simp (config := { decide := true }) only [go_sem, Int.reduceToNat, Nat.reduceAdd, Nat.reduceSub, Nat.reduceMul, Nat.reduceBEq, reduceIte, reduceCtorEq, h0, h1, h5, hx, hy, hlt', hlb, hxy]
          exact vb (by simp [hne])
      · have hlt' : ((i : Int) < (a.length : Int)) = False := by simp only [eq_iff_iff, iff_false]; omega
        simp (config := { decide := true }) only [go_sem, Int.reduceToNat, Nat.reduceAdd, Nat.reduceSub, Nat.reduceMul, Nat.reduceBEq, reduceIte, reduceCtorEq, h0, h1, h5, hlt']
        exact vb (by rw [take_all heq hl (by omega)]; simp)
  · have hl' : ((a.length : Int) = (b.length : Int)) = False := by rw [len_eq]; simp [hl]
    simp (config := { decide := true }) only [go_sem, Int.reduceToNat, Nat.reduceAdd, Nat.reduceSub, Nat.reduceMul, Nat.reduceBEq, reduceIte, reduceCtorEq, hl']
    exact vb (by symm; rw [decide_eq_false_iff_not]; rintro rfl; exact hl rfl)
set_option maxHeartbeats 1000000 in
theorem refSameWrts (a b : List (Int × Int)) (ha : a.length ≤ 1000000) : HFn Try.prog 46 [.sl (wrts a), .sl (wrts b)] (.v (.bool (decide (a = b)))) := by
  refine HCalls_body (fn := Try.f46) 26 [4] (by kernel_rfl) rfl (by kernel_rfl) (HW.run 400 (by kernel_rfl) ?_)
  by_cases hl : a.length = b.length
  · have hl' : ((a.length : Int) = (b.length : Int)) = True := by rw [len_eq]; simp [hl]
    simp (config := { decide := true }) only [go_sem, Int.reduceToNat, Nat.reduceAdd, Nat.reduceSub, Nat.reduceMul, Nat.reduceBEq, reduceIte, reduceCtorEq, hl']
    refine HW.loopG (fun k T H => ∃ i : Nat, k = a.length - i ∧ i ≤ a.length ∧ a.take i = b.take i ∧ T 0 = .sl (wrts a) ∧ T 1 = .sl (wrts b) ∧ T 5 = .v (.int .i64 i) ∧ H = []) a.length ⟨_, _, Ghost.refl, 0, by simp, by omega, rfl, ?_, ?_, ?_, rfl⟩ ?_
    iterate 2 simp (config := { decide := true }) only [go_sem, Nat.reduceBEq, reduceIte]
    · simp (config := { decide := true }) only [go_sem, Nat.reduceBEq, reduceIte]; rfl
    · rintro k T H ⟨i, rfl, hi, heq, h0, h1, h5, rfl⟩
      refine HW.run 200 (by kernel_rfl) ?_
      by_cases hlt : i < a.length
      · have hlt' : ((i : Int) < (a.length : Int)) = True := by simp only [eq_iff_iff, iff_true]; omega
        have hx : a[i]? = some a[i] := List.getElem?_eq_getElem hlt
        have hy : b[i]? = some (b[i]'(by omega)) := List.getElem?_eq_getElem (by omega)
        generalize a[i] = x at hx
        generalize b[i]'(by omega) = y at hy
        have hlb : ((i : Int) < (b.length : Int)) = True := by simp only [eq_iff_iff, iff_true]; omega
        simp (config := { decide := true }) only [go_sem, Int.reduceToNat, Nat.reduceAdd, Nat.reduceSub, Nat.reduceMul, Nat.reduceBEq, reduceIte, reduceCtorEq, h0, h1, h5, hlt']
        refine HW.quiet 60 follows (by kernel_rfl) ?_
        by_cases hxy : x = y
        · subst hxy
          simp (config := { decide := true }) only [go_sem, Int.reduceToNat, Nat.reduceAdd, Nat.reduceSub, Nat.reduceMul, Nat.reduceBEq, reduceIte, reduceCtorEq, h0, h1, h5, hx, hy, hlt', hlb]
          refine ⟨_, _, Ghost.refl, a.length - (i + 1), by omega, i + 1, rfl, by omega, take_next heq hx hy, ?_, ?_, ?_, rfl⟩
          all_goals first | (simp (config := { decide := true }) only [go_sem, Nat.reduceBEq, reduceIte, h0, h1]; done) | (simp (config := { decide := true }) only [go_sem, Nat.reduceBEq, reduceIte]; rw [w64 (by omega) (by omega)]; rfl)
        · have hne := take_ne hx hy hxy
          have hd : (decide (x.1 = y.1) && decide (x.2 = y.2)) = false := by
            rw [Bool.eq_false_iff]
            simp only [ne_eq, Bool.and_eq_true, decide_eq_true_eq]
            exact fun h => hxy (Prod.ext h.1 h.2)
          simp (config := { decide := true }) only [go_sem, Int.reduceToNat, Nat.reduceAdd, Nat.reduceSub, Nat.reduceMul, Nat.reduceBEq, reduceIte, reduceCtorEq, h0, h1, h5, hx, hy, hlt', hlb, hxy, hd]
          exact vb (by simp [hne])
      · have hlt' : ((i : Int) < (a.length : Int)) = False := by simp only [eq_iff_iff, iff_false]; omega
        simp (config := { decide := true }) only [go_sem, Int.reduceToNat, Nat.reduceAdd, Nat.reduceSub, Nat.reduceMul, Nat.reduceBEq, reduceIte, reduceCtorEq, h0, h1, h5, hlt']
        exact vb (by rw [take_all heq hl (by omega)]; simp)
  · have hl' : ((a.length : Int) = (b.length : Int)) = False := by rw [len_eq]; simp [hl]
    simp (config := { decide := true }) only [go_sem, Int.reduceToNat, Nat.reduceAdd, Nat.reduceSub, Nat.reduceMul, Nat.reduceBEq, reduceIte, reduceCtorEq, hl']
    exact vb (by symm; rw [decide_eq_false_iff_not]; rintro rfl; exact hl rfl)
set_option maxHeartbeats 1000000 in
theorem refSamePicks (a b : List Pck) (ha : a.length ≤ 1000000) : HFn Try.prog 18 [.sl (pcks a), .sl (pcks b)] (.v (.bool (decide (a = b)))) := by
  refine HCalls_body (fn := Try.f18) 26 [4] (by kernel_rfl) rfl (by kernel_rfl) (HW.run 400 (by kernel_rfl) ?_)
  by_cases hl : a.length = b.length
  · have hl' : ((a.length : Int) = (b.length : Int)) = True := by rw [len_eq]; simp [hl]
    simp (config := { decide := true }) only [go_sem, Int.reduceToNat, Nat.reduceAdd, Nat.reduceSub, Nat.reduceMul, Nat.reduceBEq, reduceIte, reduceCtorEq, hl']
    refine HW.loopG (fun k T H => ∃ i : Nat, k = a.length - i ∧ i ≤ a.length ∧ a.take i = b.take i ∧ T 0 = .sl (pcks a) ∧ T 1 = .sl (pcks b) ∧ T 5 = .v (.int .i64 i) ∧ H = []) a.length ⟨_, _, Ghost.refl, 0, by simp, by omega, rfl, ?_, ?_, ?_, rfl⟩ ?_
    iterate 2 simp (config := { decide := true }) only [go_sem, Nat.reduceBEq, reduceIte]
    · simp (config := { decide := true }) only [go_sem, Nat.reduceBEq, reduceIte]; rfl
    · rintro k T H ⟨i, rfl, hi, heq, h0, h1, h5, rfl⟩
      refine HW.run 200 (by kernel_rfl) ?_
      by_cases hlt : i < a.length
      · have hlt' : ((i : Int) < (a.length : Int)) = True := by simp only [eq_iff_iff, iff_true]; omega
        have hx : a[i]? = some a[i] := List.getElem?_eq_getElem hlt
        have hy : b[i]? = some (b[i]'(by omega)) := List.getElem?_eq_getElem (by omega)
        generalize a[i] = x at hx
        generalize b[i]'(by omega) = y at hy
        have hlb : ((i : Int) < (b.length : Int)) = True := by simp only [eq_iff_iff, iff_true]; omega
        simp (config := { decide := true }) only [go_sem, Int.reduceToNat, Nat.reduceAdd, Nat.reduceSub, Nat.reduceMul, Nat.reduceBEq, reduceIte, reduceCtorEq, h0, h1, h5, hlt']
        refine HW.quiet 60 follows (by kernel_rfl) ?_
        by_cases hxy : x = y
        · subst hxy
          simp (config := { decide := true }) only [go_sem, Int.reduceToNat, Nat.reduceAdd, Nat.reduceSub, Nat.reduceMul, Nat.reduceBEq, reduceIte, reduceCtorEq, h0, h1, h5, hx, hy, hlt', hlb]
          refine ⟨_, _, Ghost.refl, a.length - (i + 1), by omega, i + 1, rfl, by omega, take_next heq hx hy, ?_, ?_, ?_, rfl⟩
          all_goals first | (simp (config := { decide := true }) only [go_sem, Nat.reduceBEq, reduceIte, h0, h1]; done) | (simp (config := { decide := true }) only [go_sem, Nat.reduceBEq, reduceIte]; rw [w64 (by omega) (by omega)]; rfl)
        · have hne := take_ne hx hy hxy
          have hd : (decide (x.th = y.th) && decide (x.dr = y.dr)) = false := by
            rw [Bool.eq_false_iff]
            simp only [ne_eq, Bool.and_eq_true, decide_eq_true_eq]
            exact fun h => hxy (by cases x; cases y; simp at h; simp [h])
          simp (config := { decide := true }) only [go_sem, Int.reduceToNat, Nat.reduceAdd, Nat.reduceSub, Nat.reduceMul, Nat.reduceBEq, reduceIte, reduceCtorEq, h0, h1, h5, hx, hy, hlt', hlb, hxy, hd]
          exact vb (by simp [hne])
      · have hlt' : ((i : Int) < (a.length : Int)) = False := by simp only [eq_iff_iff, iff_false]; omega
        simp (config := { decide := true }) only [go_sem, Int.reduceToNat, Nat.reduceAdd, Nat.reduceSub, Nat.reduceMul, Nat.reduceBEq, reduceIte, reduceCtorEq, h0, h1, h5, hlt']
        exact vb (by rw [take_all heq hl (by omega)]; simp)
  · have hl' : ((a.length : Int) = (b.length : Int)) = False := by rw [len_eq]; simp [hl]
    simp (config := { decide := true }) only [go_sem, Int.reduceToNat, Nat.reduceAdd, Nat.reduceSub, Nat.reduceMul, Nat.reduceBEq, reduceIte, reduceCtorEq, hl']
    exact vb (by symm; rw [decide_eq_false_iff_not]; rintro rfl; exact hl rfl)
end Go.Proofs.Yteieinhgdjjdoaa
namespace Go.Proofs.Yteieinhgdjjdoaa
open Go.RowKit
set_option maxRecDepth 8000
theorem int_lt (a b : Nat) : ((a : Int) < (b : Int)) = (a < b) := by simp only [eq_iff_iff]; omega
def hasB (g : List Int) (n : Int) : Bool := decide (n ∈ g)
theorem refHasS (g : List Int) (n : Int) (hg : g.length ≤ 1000000) : HFn Try.prog 43 [.sl (ints g), .v (.int .i64 n)] (.v (.bool (hasB g n))) := by
  refine HCalls_body (fn := Try.f43) 18 [4] (by kernel_rfl) rfl (by kernel_rfl) (HW.run 400 (by kernel_rfl) ?_)
  simp (config := { decide := true }) only [go_sem, Int.reduceToNat, Nat.reduceAdd, Nat.reduceSub, Nat.reduceMul, Nat.reduceBEq, reduceIte, reduceCtorEq]
  refine HW.loopG (fun k T H => ∃ i : Nat, k = g.length - i ∧ i ≤ g.length ∧ n ∉ g.take i ∧ T 0 = .sl (ints g) ∧ T 1 = .v (.int .i64 n) ∧ T 5 = .v (.int .i64 i) ∧ H = []) g.length ⟨_, _, Ghost.refl, 0, rfl, by omega, by simp, rfl, rfl, rfl, rfl⟩ ?_
  rintro k T H ⟨i, rfl, hi, hno, h0, h1, h5, rfl⟩
  refine HW.run 200 (by kernel_rfl) ?_
  by_cases hlt : i < g.length
  · have hlt' : ((i : Int) < (g.length : Int)) = True := by rw [int_lt]; simp [hlt]
    have hx : g[i]? = some g[i] := List.getElem?_eq_getElem hlt
    generalize g[i] = x at hx
    by_cases hxn : x = n
    · simp (config := { decide := true }) only [go_sem, Int.reduceToNat, Nat.reduceAdd, Nat.reduceSub, Nat.reduceMul, Nat.reduceBEq, reduceIte, reduceCtorEq, h0, h1, h5, hlt', hx, hxn]
      have : n ∈ g := List.mem_of_getElem? (hxn ▸ hx)
      exact vb (by simp [hasB, this])
    · simp (config := { decide := true }) only [go_sem, Int.reduceToNat, Nat.reduceAdd, Nat.reduceSub, Nat.reduceMul, Nat.reduceBEq, reduceIte, reduceCtorEq, h0, h1, h5, hlt', hx, hxn]
      refine ⟨_, _, Ghost.refl, g.length - (i + 1), by omega, i + 1, rfl, by omega, ?_, ?_, ?_, ?_, rfl⟩
      · rw [List.take_add_one, hx]
        simp only [Option.toList_some, List.mem_append, List.mem_singleton, not_or]
        exact ⟨hno, fun e => hxn e.symm⟩
      all_goals first | (simp (config := { decide := true }) only [go_sem, Nat.reduceBEq, reduceIte, h0, h1]; done) | (simp (config := { decide := true }) only [go_sem, Nat.reduceBEq, reduceIte]; rw [w64 (by omega) (by omega)]; rfl)
  · have hlt' : ((i : Int) < (g.length : Int)) = False := by rw [int_lt]; simp [hlt]
    simp (config := { decide := true }) only [go_sem, Int.reduceToNat, Nat.reduceAdd, Nat.reduceSub, Nat.reduceMul, Nat.reduceBEq, reduceIte, reduceCtorEq, h0, h1, h5, hlt']
    have e : i = g.length := by omega
    rw [e, List.take_length] at hno
    exact vb (by simp [hasB, hno])
def countB (g : List Int) (a : Int) : Nat → Nat
  | 0 => 0
  | k + 1 => countB g a k + (if hasB g (a + k) = true then 1 else 0)
theorem countB_le (g : List Int) (a : Int) : ∀ k, countB g a k ≤ k
  | 0 => Nat.le_refl _
  | k + 1 => by
    have := countB_le g a k
    unfold countB; split <;> omega
theorem refCount (g : List Int) (a : Int) (m : Nat) (hg : g.length ≤ 1000000) (ha : -1000000 ≤ a ∧ a ≤ 1000000) (hm : m ≤ 1000000) : HFn Try.prog 45 [.sl (ints g), .v (.int .i64 a), .v (.int .i64 m)] (.v (.int .i64 (countB g a m))) := by
  refine HCalls_body (fn := Try.f45) 22 [6] (by kernel_rfl) rfl (by kernel_rfl) (HW.run 400 (by kernel_rfl) ?_)
  simp (config := { decide := true }) only [go_sem, Int.reduceToNat, Nat.reduceAdd, Nat.reduceSub, Nat.reduceMul, Nat.reduceBEq, reduceIte, reduceCtorEq]
  refine HW.loopG (fun k T H => ∃ i : Nat, k = m - i ∧ i ≤ m ∧ T 0 = .sl (ints g) ∧ T 1 = .v (.int .i64 a) ∧ T 2 = .v (.int .i64 m) ∧ T 7 = .v (.int .i64 (countB g a i)) ∧ T 8 = .v (.int .i64 i) ∧ H = []) m ⟨_, _, Ghost.refl, 0, rfl, by omega, rfl, rfl, rfl, rfl, rfl, rfl⟩ ?_
  rintro k T H ⟨i, rfl, hi, h0, h1, h2, h7, h8, rfl⟩
  refine HW.run 200 (by kernel_rfl) ?_
  have hci := countB_le g a i
  by_cases hlt : i < m
  · have hlt' : ((i : Int) < (m : Int)) = True := by rw [int_lt]; simp [hlt]
    have hw : IntKind.i64.wrap (a + (i : Int)) = a + (i : Int) := w64 (by omega) (by omega)
    simp (config := { decide := true }) only [go_sem, Int.reduceToNat, Nat.reduceAdd, Nat.reduceSub, Nat.reduceMul, Nat.reduceBEq, reduceIte, reduceCtorEq, h0, h1, h2, h7, h8, hlt', hw]
    refine callX_fn 3 (refHasS g (a + i) hg) (by simp only [go_sem]) rfl ?_
    cases hb : hasB g (a + i) with
    | true =>
      simp (config := { decide := true }) only [go_sem, Int.reduceToNat, Nat.reduceAdd, Nat.reduceSub, Nat.reduceMul, Nat.reduceBEq, reduceIte, reduceCtorEq, h0, h1, h2, h7, h8]
      have hn : countB g a (i + 1) = countB g a i + 1 := by rw [countB, if_pos hb]
      refine ⟨_, _, Ghost.refl, m - (i + 1), by omega, i + 1, rfl, by omega, ?_, ?_, ?_, ?_, ?_, rfl⟩
      all_goals first | (simp (config := { decide := true }) only [go_sem, Nat.reduceBEq, reduceIte, h0, h1, h2, h7]; done) | (simp (config := { decide := true }) only [go_sem, Nat.reduceBEq, reduceIte, hn]; rw [w64 (by omega) (by omega)]; rfl)
    | false =>
      simp (config := { decide := true }) only [go_sem, Int.reduceToNat, Nat.reduceAdd, Nat.reduceSub, Nat.reduceMul, Nat.reduceBEq, reduceIte, reduceCtorEq, h0, h1, h2, h7, h8]
      have hn : countB g a (i + 1) = countB g a i := by rw [countB, if_neg (by simp [hb])]; rfl
      refine ⟨_, _, Ghost.refl, m - (i + 1), by omega, i + 1, rfl, by omega, ?_, ?_, ?_, ?_, ?_, rfl⟩
      all_goals first | (simp (config := { decide := true }) only [go_sem, Nat.reduceBEq, reduceIte, h0, h1, h2, h7, hn]; done) | (simp (config := { decide := true }) only [go_sem, Nat.reduceBEq, reduceIte]; rw [w64 (by omega) (by omega)]; rfl)
  · have hlt' : ((i : Int) < (m : Int)) = False := by rw [int_lt]; simp [hlt]
    have e : i = m := by omega
    simp (config := { decide := true }) only [go_sem, Int.reduceToNat, Nat.reduceAdd, Nat.reduceSub, Nat.reduceMul, Nat.reduceBEq, reduceIte, reduceCtorEq, h0, h1, h2, h7, h8, hlt']
    rw [e]
structure SmallP (p : Prg) : Prop where
  init : p.init.length ≤ 60
  thr : p.thr.length ≤ 9
  len : ∀ l ∈ p.thr, l.length ≤ 300
def startB (l : List (List Stp)) : Nat → Nat
  | 0 => 0
  | t + 1 => startB l t + ((l[t]?).getD []).length
theorem startB_le {p : Prg} (h : SmallP p) : ∀ t, startB p.thr t ≤ 300 * t
  | 0 => Nat.le_refl _
  | t + 1 => by
    have := startB_le h t
    have h2 : ((p.thr[t]?).getD []).length ≤ 300 := by
      cases ht : p.thr[t]? with
      | none => simp
      | some l => exact h.len l (List.mem_of_getElem? ht)
    unfold startB; omega
def numS (p : Prg) (th at_ : Int) : Int :=
  if 0 ≤ th ∧ th < p.thr.length ∧ 0 ≤ at_ ∧ at_ < (((p.thr[th.toNat]?).getD []).length : Int) then at_ + startB p.thr th.toNat else -1
end Go.Proofs.Yteieinhgdjjdoaa
namespace Go.Proofs.Yteieinhgdjjdoaa
open Go.RowKit
set_option maxRecDepth 8000
def throwO (x : Thd) : List HV := [.v (.int .i64 x.pc), .ow 3 1 (ints x.regs), .v (.bool x.eq), .ow 104 2 (wrts x.buf)]
def thdsO (l : List Thd) : List (List HV) := l.map throwO
abbrev staO (s : Sta) : HV := .ag [.ow 3 1 (ints s.mem), .ow 50 4 (thdsO s.ths)]
theorem thdsO_nil : thdsO [] = [] := rfl
theorem thdsO_snoc {l : List Thd} {x : Thd} : thdsO l ++ [throwO x] = thdsO (l ++ [x]) := by simp [thdsO]
theorem thdsO_append {a b : List Thd} : thdsO a ++ thdsO b = thdsO (a ++ b) := by simp [thdsO]
theorem thdsO_length {l : List Thd} : (thdsO l).length = l.length := by simp [thdsO]
theorem thdsO_get {l : List Thd} {i : Nat} : (thdsO l)[i]? = l[i]?.map throwO := by simp [thdsO]
theorem thdsO_drop {l : List Thd} {i : Nat} : (thdsO l).drop i = thdsO (l.drop i) := by simp [thdsO, List.map_drop]
theorem thdsO_take {l : List Thd} {i : Nat} : (thdsO l).take i = thdsO (l.take i) := by simp [thdsO, List.map_take]
theorem thdsO_rowsLen {l : List Thd} : RowsLen (thdsO l) 4 = True := by
  simp only [RowsLen, thdsO, List.mem_map, eq_iff_iff, iff_true]
  rintro r ⟨a, _, rfl⟩; rfl
theorem thdsO_nmR {m : Nat} : ∀ {l : List Thd}, nmR m (thdsO l) = true
  | [] => rfl
  | x :: l => by
    show nmR m (throwO x :: thdsO l) = true
    simp only [nmR, throwO, nmL, nm, thdsO_nmR, Bool.and_self]
theorem thdsO_nzR : ∀ {l : List Thd}, nzR (thdsO l) = true
  | [] => rfl
  | x :: l => by
    show nzR (throwO x :: thdsO l) = true
    simp only [nzR, throwO, nzL, nz, ints_nzR, wrts_nzR, thdsO_nzR, Bool.and_self]
theorem throwO_fzo (x : Thd) : fzoL (throwO x) = throw x := by
  simp only [throwO, throw, fzoL, fzo, ints_fzoR, wrts_fzoR]
theorem thdsO_fzoR : ∀ {l : List Thd}, fzoR (thdsO l) = thds l
  | [] => rfl
  | x :: l => by
    show fzoR (throwO x :: thdsO l) = throw x :: thds l
    simp only [fzoR, throwO_fzo, thdsO_fzoR]
theorem throwO_fz (x : Thd) {k : Nat} {H : Heap} : (throwO x).map (fz k H) = throw x := by
  cases k <;> simp only [throwO, throw, List.map_cons, List.map_nil, fz, fzo, ints_fzoR, wrts_fzoR]
theorem thdsO_fz {l : List Thd} {k : Nat} {H : Heap} : (thdsO l).map (fun r => r.map (fz k H)) = thds l := by
  simp only [thdsO, thds, List.map_map]
  apply List.map_congr_left
  intro x _
  exact throwO_fz x
abbrev owWrts (l : List (Int × Int)) : HV := .ow 104 2 (wrts l)
theorem thdsO_snocL {l : List Thd} {a : Int} {r : List Int} {e : Bool} {b : List (Int × Int)} : thdsO l ++ [[.v (.int .i64 a), .ow 3 1 (ints r), .v (.bool e), .ow 104 2 (wrts b)]] = thdsO (l ++ [⟨a, r, e, b⟩]) := by simp [thdsO, throwO]
theorem thdsO_setL {l : List Thd} {i : Nat} {a : Int} {r : List Int} {e : Bool} {b : List (Int × Int)} : (thdsO l).set i [.v (.int .i64 a), .ow 3 1 (ints r), .v (.bool e), .ow 104 2 (wrts b)] = thdsO (l.set i ⟨a, r, e, b⟩) := by simp [thdsO, throwO, List.map_set]
attribute [go_sem] thdsO_snocL thdsO_setL
attribute [go_sem] thdsO_nil thdsO_append thdsO_length thdsO_get thdsO_drop thdsO_take thdsO_rowsLen thdsO_nmR thdsO_nzR thdsO_fzoR thdsO_fz throwO
def getI (l : List Int) (i : Int) : Int := (l[i.toNat]?).getD 0
def setI (l : List Int) (i x : Int) : List Int := l.set i.toNat x
def lastB (b : List (Int × Int)) (loc : Int) : Option Int := (b.reverse.find? fun w => decide (w.1 = loc)).map (·.2)
def viewB (b : List (Int × Int)) (mem : List Int) (loc : Int) : Int × Bool :=
  match lastB b loc with
  | some n => (n, true)
  | none => if 0 ≤ loc ∧ loc < mem.length then (getI mem loc, true) else (0, false)
def drainB (b : List (Int × Int)) (mem : List Int) : List (Int × Int) × List Int × Bool :=
  match b with
  | [] => ([], mem, false)
  | w :: r => if 0 ≤ w.1 ∧ w.1 < mem.length then (r, setI mem w.1 w.2, true) else (b, mem, false)
def jumpsB (x : Stp) (eq : Bool) : Bool := decide (x.op = 8) || (decide (x.op = 9) && eq) || (decide (x.op = 10) && !eq)
def thStep (x : Stp) (mem : List Int) (t : Thd) : List Int × Thd :=
  let pc' := if jumpsB x t.eq = true then x.to else t.pc + 1
  if x.op = 1 then (mem, { t with pc := pc', regs := setI t.regs x.reg x.n })
  else if x.op = 2 then (mem, { t with pc := pc', regs := setI t.regs x.reg (getI mem x.loc) })
  else if x.op = 3 then (setI mem x.loc (getI t.regs x.reg), { t with pc := pc' })
  else if x.op = 4 then (setI mem x.loc x.n, { t with pc := pc' })
  else if x.op = 5 then (setI mem x.loc (getI t.regs x.reg), { t with pc := pc', regs := setI t.regs x.reg (getI mem x.loc) })
  else if x.op = 7 then (mem, { t with pc := pc', eq := decide (getI t.regs x.reg = x.n) })
  else (mem, { t with pc := pc' })
def thd0 : Thd := ⟨0, [], false, []⟩
def thAt (s : Sta) (th : Int) : Thd := (s.ths[th.toNat]?).getD thd0
def atS (p : Prg) (s : Sta) (th : Int) : Option Stp :=
  if 0 ≤ th ∧ th < s.ths.length then ((p.thr[th.toNat]?).getD [])[(thAt s th).pc.toNat]? else none
def setTh (s : Sta) (th : Int) (mem : List Int) (t : Thd) : Sta := ⟨mem, s.ths.set th.toNat t⟩
def stepS (p : Prg) (s : Sta) (th : Int) : Sta × Bool :=
  match atS p s th with
  | none => (s, false)
  | some x => (setTh s th (thStep x s.mem (thAt s th)).1 (thStep x s.mem (thAt s th)).2, true)
def stepW (p : Prg) (s : Sta) (k : Pck) : Sta × Bool :=
  if ¬ (0 ≤ k.th ∧ k.th < s.ths.length) then (s, false)
  else if k.dr = true then
    (if (drainB (thAt s k.th).buf s.mem).2.2 = true then (setTh s k.th (drainB (thAt s k.th).buf s.mem).2.1 { thAt s k.th with buf := (drainB (thAt s k.th).buf s.mem).1 }, true) else (s, false))
  else
    match atS p s k.th with
    | none => (s, false)
    | some x =>
      if (thAt s k.th).buf ≠ [] ∧ (x.op = 6 ∨ x.op = 5) then (s, false)
      else if x.op = 2 then (setTh s k.th s.mem { (thStep x s.mem (thAt s k.th)).2 with regs := setI (thAt s k.th).regs x.reg (viewB (thAt s k.th).buf s.mem x.loc).1 }, true)
      else if x.op = 3 then (setTh s k.th s.mem { (thStep x s.mem (thAt s k.th)).2 with buf := (thAt s k.th).buf ++ [(x.loc, getI (thAt s k.th).regs x.reg)] }, true)
      else if x.op = 4 then (setTh s k.th s.mem { (thStep x s.mem (thAt s k.th)).2 with buf := (thAt s k.th).buf ++ [(x.loc, x.n)] }, true)
      else (setTh s k.th (thStep x s.mem (thAt s k.th)).1 (thStep x s.mem (thAt s k.th)).2, true)
def hasR (op : Int) : Bool := decide (op = 1) || decide (op = 2) || decide (op = 3) || decide (op = 5) || decide (op = 7)
def hasL (op : Int) : Bool := decide (op = 2) || decide (op = 3) || decide (op = 4) || decide (op = 5)
def hasM (op : Int) : Bool := decide (op = 1) || decide (op = 4) || decide (op = 7)
structure RightX (p : Prg) (x : Stp) (at_ many : Nat) : Prop where
  op : 1 ≤ x.op ∧ x.op ≤ 10
  reg : 0 ≤ x.reg ∧ x.reg ≤ 3 ∧ (hasR x.op = true ∨ x.reg = 0) ∧ (hasM x.op = true ∨ x.n = 0)
  loc : (hasL x.op = true → 0 ≤ x.loc ∧ x.loc < p.init.length) ∧ (hasL x.op = false → x.loc = 0)
  to : (8 ≤ x.op → (at_ : Int) < x.to ∧ x.to ≤ many) ∧ (x.op < 8 → x.to = 0)
structure RightP (p : Prg) : Prop where
  init : p.init.length ≤ 4
  thr : 1 ≤ p.thr.length ∧ p.thr.length ≤ 3
  len : ∀ l ∈ p.thr, l.length ≤ 80
  x : ∀ (t : Nat) l, p.thr[t]? = some l → ∀ (i : Nat) x, l[i]? = some x → RightX p x i l.length
structure RightT (p : Prg) (l : List Stp) (t : Thd) : Prop where
  pc : 0 ≤ t.pc ∧ t.pc ≤ l.length
  regs : t.regs.length = 4
  buf : ∀ w ∈ t.buf, 0 ≤ w.1 ∧ w.1 < p.init.length
structure RightS (p : Prg) (s : Sta) : Prop where
  mem : s.mem.length = p.init.length
  ths : s.ths.length = p.thr.length
  t : ∀ (i : Nat) l t, p.thr[i]? = some l → s.ths[i]? = some t → RightT p l t
theorem RightP.small {p : Prg} (h : RightP p) : SmallP p := ⟨by have := h.init; omega, by have := h.thr; omega, fun l hl => by have := h.len l hl; omega⟩
def beginS (p : Prg) : Sta := ⟨p.init, p.thr.map fun _ => ⟨0, [0, 0, 0, 0], false, []⟩⟩
theorem begin_right {p : Prg} : RightS p (beginS p) := by
  refine ⟨rfl, by simp [beginS], fun i l t hl ht => ?_⟩
  simp only [beginS, List.getElem?_map, hl, Option.map_some, Option.some.injEq] at ht
  subst ht
  exact ⟨⟨by simp, by simp⟩, rfl, by simp⟩
end Go.Proofs.Yteieinhgdjjdoaa
namespace Go.Proofs.Yteieinhgdjjdoaa
open Go.RowKit
set_option maxRecDepth 8000
theorem lastB_take {b : List (Int × Int)} {m : Nat} {w : Int × Int} (loc : Int) (h : b[m]? = some w) : lastB (b.take (m + 1)) loc = if w.1 = loc then some w.2 else lastB (b.take m) loc := by
  unfold lastB
  rw [List.take_add_one, h]
  simp only [Option.toList_some, List.reverse_append, List.reverse_cons, List.reverse_nil, List.nil_append, List.cons_append, List.find?_cons]
  by_cases e : w.1 = loc <;> simp [e]
theorem lastB_none (loc : Int) : lastB [] loc = none := rfl
def lastR (b : List (Int × Int)) (loc : Int) : Int × Bool := match lastB b loc with | some n => (n, true) | none => (0, false)
theorem refLast (b : List (Int × Int)) (loc : Int) (hb : b.length ≤ 1000000) : HFn Try.prog 73 [.sl (wrts b), .v (.int .i64 loc)] (.tu [.v (.int .i64 (lastR b loc).1), .v (.bool (lastR b loc).2)]) := by
  refine HCalls_body (fn := Try.f73) 26 [4, 5] (by kernel_rfl) rfl (by kernel_rfl) (HW.run 400 (by kernel_rfl) ?_)
  simp (config := { decide := true }) only [go_sem, Int.reduceToNat, Nat.reduceAdd, Nat.reduceSub, Nat.reduceMul, Nat.reduceBEq, reduceIte, reduceCtorEq]
  refine HW.loopG (fun k T H => ∃ m : Nat, k = m ∧ m ≤ b.length ∧ lastB b loc = lastB (b.take m) loc ∧ T 0 = .sl (wrts b) ∧ T 1 = .v (.int .i64 loc) ∧ T 6 = .v (.int .i64 ((m : Int) - 1)) ∧ H = []) b.length ⟨_, _, Ghost.refl, b.length, rfl, Nat.le_refl _, by rw [List.take_length], rfl, rfl, ?_, rfl⟩ ?_
  · simp (config := { decide := true }) only [go_sem, Nat.reduceBEq, reduceIte]; rw [w64 (by omega) (by omega)]
  rintro m T H ⟨_, rfl, hm, he, h0, h1, h6, rfl⟩
  refine HW.run 200 (by kernel_rfl) ?_
  cases m with
  | zero =>
    have hlt' : ((0 : Int) ≤ ((0 : Nat) : Int) - 1) = False := by simp
    simp (config := { decide := true }) only [go_sem, Int.reduceToNat, Nat.reduceAdd, Nat.reduceSub, Nat.reduceMul, Nat.reduceBEq, reduceIte, reduceCtorEq, h0, h1, h6, hlt']
    rw [List.take_zero, lastB_none] at he
    unfold lastR; rw [he]
  | succ m =>
    have hlt' : ((0 : Int) ≤ ((m + 1 : Nat) : Int) - 1) = True := by simp only [eq_iff_iff, iff_true]; omega
    have hx : b[m]? = some b[m] := List.getElem?_eq_getElem (by omega)
    generalize b[m] = w at hx
    have hn : (((m + 1 : Nat) : Int) - 1).toNat = m := by omega
    have hc : (((m + 1 : Nat) : Int) - 1 < (b.length : Int)) = True := by simp only [eq_iff_iff, iff_true]; omega
    rw [lastB_take loc hx] at he
    by_cases hw : w.1 = loc
    · rw [if_pos hw] at he
      simp (config := { decide := true }) only [go_sem, Int.reduceToNat, Nat.reduceAdd, Nat.reduceSub, Nat.reduceMul, Nat.reduceBEq, reduceIte, reduceCtorEq, h0, h1, h6, hlt', hx, hn, hc, hw]
      unfold lastR; rw [he]
    · rw [if_neg hw] at he
      simp (config := { decide := true }) only [go_sem, Int.reduceToNat, Nat.reduceAdd, Nat.reduceSub, Nat.reduceMul, Nat.reduceBEq, reduceIte, reduceCtorEq, h0, h1, h6, hlt', hx, hn, hc, hw]
      refine ⟨_, _, Ghost.refl, m, by omega, m, rfl, by omega, he, ?_, ?_, ?_, rfl⟩
      all_goals first | (simp (config := { decide := true }) only [go_sem, Nat.reduceBEq, reduceIte, h0, h1]; done) | (simp (config := { decide := true }) only [go_sem, Nat.reduceBEq, reduceIte]; rw [w64 (by omega) (by omega)]; exact congrArg (fun z => HV.v (.int .i64 z)) (by omega))
theorem refView (b : List (Int × Int)) (mem : List Int) (loc : Int) (hb : b.length ≤ 1000000) : HFn Try.prog 60 [.sl (wrts b), .sl (ints mem), .v (.int .i64 loc)] (.tu [.v (.int .i64 (viewB b mem loc).1), .v (.bool (viewB b mem loc).2)]) := by
  refine HCalls_body (fn := Try.f60) 30 [6, 7] (by kernel_rfl) rfl (by kernel_rfl) (HW.run 400 (by kernel_rfl) ?_)
  simp (config := { decide := true }) only [go_sem, Int.reduceToNat, Nat.reduceAdd, Nat.reduceSub, Nat.reduceMul, Nat.reduceBEq, reduceIte, reduceCtorEq]
  refine callX_fn 3 (refLast b loc hb) (by simp only [go_sem]) rfl ?_
  unfold viewB lastR
  cases hl : lastB b loc with
  | some n => simp (config := { decide := true }) only [go_sem, Int.reduceToNat, Nat.reduceAdd, Nat.reduceSub, Nat.reduceMul, Nat.reduceBEq, reduceIte, reduceCtorEq, hl]
  | none =>
    by_cases c1 : 0 ≤ loc
    case neg =>
      have c1' : (loc < 0) = True := by simp only [eq_iff_iff, iff_true]; omega
      rw [if_neg (fun h => c1 h.1)]
      simp (config := { decide := true }) only [go_sem, Int.reduceToNat, Nat.reduceAdd, Nat.reduceSub, Nat.reduceMul, Nat.reduceBEq, reduceIte, reduceCtorEq, hl, c1']
    have c1' : (loc < 0) = False := by simp only [eq_iff_iff, iff_false]; omega
    by_cases c2 : loc < mem.length
    case neg =>
      have c2' : ((mem.length : Int) ≤ loc) = True := by simp only [eq_iff_iff, iff_true]; omega
      rw [if_neg (fun h => c2 h.2)]
      simp (config := { decide := true }) only [go_sem, Int.reduceToNat, Nat.reduceAdd, Nat.reduceSub, Nat.reduceMul, Nat.reduceBEq, reduceIte, reduceCtorEq, hl, c1', c2']
    have c2' : ((mem.length : Int) ≤ loc) = False := by simp only [eq_iff_iff, iff_false]; omega
    rw [if_pos ⟨c1, c2⟩]
    have c1t : (0 ≤ loc) = True := by simp [c1]
    have c2t : (loc < (mem.length : Int)) = True := by simp [c2]
    have hx : mem[loc.toNat]? = some (mem[loc.toNat]'(by omega)) := List.getElem?_eq_getElem (by omega)
    have hg : getI mem loc = mem[loc.toNat]'(by omega) := by unfold getI; rw [hx]; rfl
    rw [hg]
    simp (config := { decide := true }) only [go_sem, Int.reduceToNat, Nat.reduceAdd, Nat.reduceSub, Nat.reduceMul, Nat.reduceBEq, reduceIte, reduceCtorEq, hl, c1', c2', c1t, c2t, hx]
theorem refPush (b : List (Int × Int)) (x y : Int) (hb : b.length ≤ 1000000) : HFn Try.prog 61 [.sl (wrts b), .ag [.v (.int .i64 x), .v (.int .i64 y)]] (owWrts (b ++ [(x, y)])) := by
  refine HCalls_body (fn := Try.f61) 11 [4] (by kernel_rfl) rfl (by kernel_rfl) (HW.run 400 (by kernel_rfl) ?_)
  simp (config := { decide := true }) only [go_sem, Int.reduceToNat, Nat.reduceAdd, Nat.reduceSub, Nat.reduceMul, Nat.reduceBEq, reduceIte, reduceCtorEq]
  refine HW.mixed 80 7 (1, 0) [0, 2, 5] follows (by kernel_rfl) (by decide) ?_
  simp (config := { decide := true }) only [go_sem, Int.reduceToNat, Nat.reduceAdd, Nat.reduceSub, Nat.reduceMul, Nat.reduceBEq, reduceIte, reduceCtorEq]
  (with_reducible and_intros) <;> first | omega | rfl
theorem drainB_no {w : Int × Int} {r : List (Int × Int)} {mem : List Int} (h : ¬ (0 ≤ w.1 ∧ w.1 < mem.length)) : drainB (w :: r) mem = (w :: r, mem, false) := if_neg h
theorem drainB_yes {w : Int × Int} {r : List (Int × Int)} {mem : List Int} (h : 0 ≤ w.1 ∧ w.1 < mem.length) : drainB (w :: r) mem = (r, setI mem w.1 w.2, true) := if_pos h
theorem refDrain (b : List (Int × Int)) (mem : List Int) (hb : b.length ≤ 1000000) (hm : mem.length ≤ 1000000) : HFn Try.prog 58 [.sl (wrts b), .sl (ints mem)] (.tu [owWrts (drainB b mem).1, owInts (drainB b mem).2.1, .v (.bool (drainB b mem).2.2)]) := by
  refine HCalls_body (fn := Try.f58) 49 [4, 5, 6] (by kernel_rfl) rfl (by kernel_rfl) (HW.run 400 (by kernel_rfl) ?_)
  cases b with
  | nil =>
    have e : drainB [] mem = ([], mem, false) := rfl
    simp (config := { decide := true }) only [go_sem, Int.reduceToNat, Nat.reduceAdd, Nat.reduceSub, Nat.reduceMul, Nat.reduceBEq, reduceIte, reduceCtorEq, e]
    (with_reducible and_intros) <;> first | omega | rfl
  | cons w r =>
    rw [List.length_cons] at hb
    have c0 : (((r.length + 1 : Nat) : Int) = 0) = False := by simp only [eq_iff_iff, iff_false]; omega
    have c0' : ((0 : Int) < ((r.length + 1 : Nat) : Int)) = True := by simp only [eq_iff_iff, iff_true]; omega
    have c1s : ((1 : Int) ≤ ((r.length + 1 : Nat) : Int)) = True := by simp only [eq_iff_iff, iff_true]; omega
    have hx : (w :: r)[(0 : Int).toNat]? = some w := rfl
    by_cases c1 : 0 ≤ w.1
    case neg =>
      have c1' : (w.1 < 0) = True := by simp only [eq_iff_iff, iff_true]; omega
      have e := drainB_no (r := r) (fun h => c1 h.1 : ¬ (0 ≤ w.1 ∧ w.1 < mem.length))
      simp (config := { decide := true }) only [go_sem, Int.reduceToNat, Nat.reduceAdd, Nat.reduceSub, Nat.reduceMul, Nat.reduceBEq, reduceIte, reduceCtorEq, c0, c0', hx, c1', e]
      (with_reducible and_intros) <;> first | omega | rfl
    have c1' : (w.1 < 0) = False := by simp only [eq_iff_iff, iff_false]; omega
    by_cases c2 : w.1 < mem.length
    case neg =>
      have c2' : ((mem.length : Int) ≤ w.1) = True := by simp only [eq_iff_iff, iff_true]; omega
      have e := drainB_no (r := r) (fun h => c2 h.2 : ¬ (0 ≤ w.1 ∧ w.1 < mem.length))
      simp (config := { decide := true }) only [go_sem, Int.reduceToNat, Nat.reduceAdd, Nat.reduceSub, Nat.reduceMul, Nat.reduceBEq, reduceIte, reduceCtorEq, c0, c0', hx, c1', c2', e]
      (with_reducible and_intros) <;> first | omega | rfl
    have c2' : ((mem.length : Int) ≤ w.1) = False := by simp only [eq_iff_iff, iff_false]; omega
    have e := drainB_yes (r := r) ⟨c1, c2⟩
    have c1t : (0 ≤ w.1) = True := by simp [c1]
    have c2t : (w.1 < (mem.length : Int)) = True := by simp [c2]
    have hy : mem[w.1.toNat]? = some (mem[w.1.toNat]'(by omega)) := List.getElem?_eq_getElem (by omega)
    simp (config := { decide := true }) only [go_sem, Int.reduceToNat, Nat.reduceAdd, Nat.reduceSub, Nat.reduceMul, Nat.reduceBEq, reduceIte, reduceCtorEq, c0, c0', hx, c1', c2', c1t, c2t, e, hy]
    repeat (with_reducible refine And.intro ?_ ?_; · (with_reducible and_intros) <;> omega)
    refine HW.anyLate 80 10 follows (by kernel_rfl) (by decide) ?_
    simp (config := { decide := true }) only [go_sem, Int.reduceToNat, Nat.reduceAdd, Nat.reduceSub, Nat.reduceMul, Nat.reduceBEq, reduceIte, reduceCtorEq, c0, c0', c1s, hx, c1', c2', c1t, c2t, e, hy, Nat.add_sub_cancel, List.length_set]
    repeat (with_reducible refine And.intro ?_ ?_; · (with_reducible and_intros) <;> omega)
    rfl
end Go.Proofs.Yteieinhgdjjdoaa
namespace Go.Proofs.Yteieinhgdjjdoaa
open Go.RowKit
section
variable {F : Fence} {n : Nat} {P : Program} {Q : Exit → Act → World → Prop} {a : Act} {w : World} {b : Frame} {k : List Go.Item} {cs : List Frame}
theorem stepR_scope {c : Code} : step P (lone (b.atR a (.code (.scope c) :: k)) cs w) = .next (lone (b.atR a (.code c :: .inScope c :: k)) cs w) :=
  step_lone_go (by simp [stepG, stepG.exec, Frame.atR])
theorem stepR_inScope {c : Code} : step P (lone (b.atR a (.inScope c :: k)) cs w) = .next (lone (b.atR a k) cs w) :=
  step_lone_go (by simp [stepG, stepG.exec, Frame.atR])
theorem wpIn_scope_jumps {c rest : Code} (l : Nat) (J : Act → World → Prop) (μ : Act → World → Nat) (hf : findLabel c l = some rest)
    (first : c.wpIn F n P (Exit.jump l J Q) a w)
    (pass : ∀ a w, J a w → rest.wpIn F n P (Exit.jump l (fun a' w' => J a' w' ∧ μ a' w' < μ a w) Q) a w) : (Code.scope c).wpIn F n P Q a w := by
  intro b k cs hro hb hr
  have h0 : (lone (b.atR a (.code (.scope c) :: k)) cs w).fenced P F := fenced_calm hb hr rfl
  have hg : gotoIn l (.inScope c :: k) = some (.code rest :: .inScope c :: k) := by simp [gotoIn, hf]
  have hx : ∀ id, exitTo id (.inScope c :: k) = exitTo id k := fun id => by simp [exitTo]
  have key : ∀ j a w, μ a w = j → J a w → ∃ e a' w', Q e a' w' ∧ ArrivesIn (Machine.fenced P F) P (lone (b.atR a (.code rest :: .inScope c :: k)) cs w) b k cs e a' w' := by
    intro j
    induction j using Nat.strongRecOn with
    | _ j ih =>
      intro a w hj hJ
      obtain ⟨e, a₁, w₁, hq, harr⟩ := pass a w hJ b (.inScope c :: k) cs hro hb hr
      cases e with
      | normal => exact ⟨.normal, a₁, w₁, hq, StepsIn.trans harr (.one (fenced_calm hb hr rfl) stepR_inScope)⟩
      | exit id => exact ⟨.exit id, a₁, w₁, hq, fun k' hk => harr.1 k' (by rw [hx]; exact hk), fun hr' hk => harr.2 hr' (by rw [hx]; exact hk)⟩
      | goto l' =>
        obtain ⟨rfl, hJ', hlt⟩ := hq
        obtain ⟨e₂, a₂, w₂, hq₂, harr₂⟩ := ih _ (by omega) a₁ w₁ rfl hJ'
        exact ⟨e₂, a₂, w₂, hq₂, .of_steps (harr.1 _ hg) harr₂⟩
      | ret => exact ⟨_, a₁, w₁, hq, harr⟩
      | panic ch => exact ⟨_, a₁, w₁, hq, harr⟩
      | outgrown => exact ⟨_, a₁, w₁, hq, harr⟩
  obtain ⟨e, a₁, w₁, hq, harr⟩ := first b (.inScope c :: k) cs hro hb hr
  cases e with
  | normal => exact ⟨.normal, a₁, w₁, hq, .head h0 stepR_scope (StepsIn.trans harr (.one (fenced_calm hb hr rfl) stepR_inScope))⟩
  | exit id => exact ⟨.exit id, a₁, w₁, hq, fun k' hk => .head h0 stepR_scope (harr.1 k' (by rw [hx]; exact hk)), fun hr' hk => let ⟨k₁, h1, h2⟩ := harr.2 hr' (by rw [hx]; exact hk); ⟨k₁, h1, .head h0 stepR_scope h2⟩⟩
  | goto l' =>
    obtain ⟨rfl, hJ'⟩ := hq
    obtain ⟨e₂, a₂, w₂, hq₂, harr₂⟩ := key _ a₁ w₁ rfl hJ'
    exact ⟨e₂, a₂, w₂, hq₂, .of_steps (.head h0 stepR_scope (harr.1 _ hg)) harr₂⟩
  | ret => exact ⟨_, a₁, w₁, hq, .of_steps (.one h0 stepR_scope) harr⟩
  | panic ch => exact ⟨_, a₁, w₁, hq, .of_steps (.one h0 stepR_scope) harr⟩
  | outgrown => exact ⟨_, a₁, w₁, hq, .of_steps (.one h0 stepR_scope) harr⟩
end
def jumpQ (l : Nat) (J : KS) (Q : Exit → KS) : Exit → KS
  | .goto l' => fun T H => l' = l ∧ J T H
  | e => Q e
section
variable {P : Program} {N L : Nat} {Q : Exit → KS} {T : Nat → HV} {H : Heap}
theorem jumpQ_goto {l l' : Nat} {J : KS} : jumpQ l J Q (.goto l') T H = (l' = l ∧ J T H) := rfl
theorem jumpQ_normal {l : Nat} {J : KS} : jumpQ l J Q .normal T H = Q .normal T H := rfl
theorem jumpQ_exit {l i : Nat} {J : KS} : jumpQ l J Q (.exit i) T H = Q (.exit i) T H := rfl
theorem jumpQ_ret {l : Nat} {J : KS} : jumpQ l J Q .ret T H = Q .ret T H := rfl
theorem HW.scope {c rest : Code} (l : Nat) (I : Nat → KS) (hf : findLabel c l = some rest) (first : HW P N L c (jumpQ l (fun T H => ∃ k, I k T H) Q) T H)
    (pass : ∀ k T H, I k T H → HW P N L rest (jumpQ l (fun T' H' => ∃ k', k' < k ∧ I k' T' H') Q) T H) : HW P N L (.scope c) Q T H := by
  intro ro n B Z G FP ds a w hB hL hs
  classical
  let J : Nat → Act → World → Prop := fun k a' w' => ∃ T' H' Z' G' FP' ds', I k T' H' ∧ St N B Z' G' FP' ds' T' H' a' w' ∧ GLt L G G' ∧ Evo Z FP w Z' FP' w'
  let μ : Act → World → Nat := fun a' w' => if h : ∃ k, J k a' w' then Classical.choose (exists_least h) else 0
  refine wpIn_scope_jumps l (fun a' w' => ∃ k, J k a' w') μ hf (wpIn_mono (first ro n B Z G FP ds a w hB hL hs) ?_) ?_
  · rintro e a' w' ⟨T', H', Z', G', FP', ds', h1, h2, h3, h4⟩
    cases e with
    | goto l' => obtain ⟨rfl, k, hk⟩ := h1; exact ⟨rfl, k, T', H', Z', G', FP', ds', hk, h2, h3, h4⟩
    | _ => exact ⟨T', H', Z', G', FP', ds', h1, h2, h3, h4⟩
  · intro a1 w1 hJ
    have hμ : μ a1 w1 = Classical.choose (exists_least hJ) := by simp only [μ]; rw [dif_pos hJ]
    obtain ⟨T1, H1, Z1, G1, FP1, ds1, hI, hs1, hG1, hE1⟩ := (Classical.choose_spec (exists_least hJ)).1
    refine wpIn_mono (pass _ T1 H1 hI ro n B Z1 G1 FP1 ds1 a1 w1 (hB.evo hE1) hG1.len hs1) ?_
    rintro e a' w' ⟨T', H', Z', G', FP', ds', h1, h2, h3, h4⟩
    cases e with
    | goto l' =>
      obtain ⟨rfl, k', hk', hI'⟩ := h1
      have hJ' : J k' a' w' := ⟨T', H', Z', G', FP', ds', hI', h2, hG1.trans h3, hE1.trans h4⟩
      refine ⟨rfl, ⟨k', hJ'⟩, ?_⟩
      rw [hμ]
      have e : ∃ k, J k a' w' := ⟨k', hJ'⟩
      have : μ a' w' = Classical.choose (exists_least e) := by simp only [μ]; rw [dif_pos e]
      rw [this]
      exact Nat.lt_of_le_of_lt ((Classical.choose_spec (exists_least e)).2 _ hJ') hk'
    | _ => exact ⟨T', H', Z', G', FP', ds', h1, h2, hG1.trans h3, hE1.trans h4⟩
end
attribute [go_sem ↓] jumpQ_goto jumpQ_normal jumpQ_exit jumpQ_ret
end Go.Proofs.Yteieinhgdjjdoaa
namespace Go.Proofs.Yteieinhgdjjdoaa
open Go.RowKit
section
variable {Z Z' : Nat → Prop} {w w' : World}
theorem HInv.join {G G' : List (Option OG)} {FP FP' : Nat → List Nat} {H H' : Heap} {m : Nat} (h : HInv Z G FP H w) (hml : m ≤ H.length) (h' : HInv Z' G' FP' H' w') (hlen : H'.length = m)
    (hG : GLe (G.take m) G') (hE : Evo Z (fun j => if j < m then FP j else []) w Z' FP' w') :
    HInv Z' (G' ++ G.drop m) (fun j => if j < m then FP' j else FP j) (H' ++ H.drop m) w' ∧ GLe G (G' ++ G.drop m) ∧ Evo Z FP w Z' (fun j => if j < m then FP' j else FP j) w' := by
  have hG'l : G'.length = m := h'.len.trans hlen
  have hGl : m ≤ G.length := by rw [h.len]; exact hml
  have hout : ∀ j, m ≤ j → FP' j = [] := fun j hj => h'.nofp j (fun o ho => by have := (List.getElem?_eq_some_iff.1 ho).1; omega)
  have hle : GLe G (G' ++ G.drop m) := by
    refine ⟨by simp; omega, fun id hid => ?_⟩
    by_cases e : id < m
    · rw [List.getElem?_append_left (by omega)]
      have k := hG.at_ id (by simp; omega)
      simp only [take_get (l := G) e] at k
      exact k
    · right; left
      rw [List.getElem?_append_right (by omega), List.getElem?_drop, hG'l]
      congr 1; omega
  have hZk : ∀ b, Z b → w'.heap[b]? = w.heap[b]? := fun b hb => hE.keep b (h.zlt b hb) (fun id hc => by
    by_cases e : id < m
    · simp only [if_pos e] at hc; exact h.zfp id b hc hb
    · simp [e] at hc)
  have hnot : ∀ j, ¬ j < m → ∀ b, b ∈ FP j → ∀ id, b ∉ (if id < m then FP id else []) := fun j hj b hb id hc => by
    by_cases e : id < m
    · simp only [if_pos e] at hc
      have := h.disj id j b hc hb
      omega
    · simp [e] at hc
  have hkj : ∀ j, ¬ j < m → ∀ b, b ∈ FP j → w'.heap[b]? = w.heap[b]? := fun j hj b hb => hE.keep b (h.flt j b hb) (hnot j hj b hb)
  have hcross : ∀ i j b, ¬ j < m → b ∈ FP' i → b ∈ FP j → False := fun i j b hj hi hb => by
    rcases hE.fnew i b hi with k | ⟨id, k⟩
    · have := h.flt j b hb; omega
    · exact hnot j hj b hb id k
  have get1 : ∀ {j : Nat}, j < m → (H' ++ H.drop m)[j]? = H'[j]? := fun hj => List.getElem?_append_left (by omega)
  have get2 : ∀ {j : Nat}, ¬ j < m → (H' ++ H.drop m)[j]? = H[j]? := fun hj => by
    rw [List.getElem?_append_right (by omega), List.getElem?_drop, hlen]; congr 1; omega
  have gg1 : ∀ {j : Nat}, j < m → (G' ++ G.drop m)[j]? = G'[j]? := fun hj => List.getElem?_append_left (by omega)
  have gg2 : ∀ {j : Nat}, ¬ j < m → (G' ++ G.drop m)[j]? = G[j]? := fun hj => by
    rw [List.getElem?_append_right (by omega), List.getElem?_drop, hG'l]; congr 1; omega
  refine ⟨⟨by simp [hlen, hG'l, h.len], fun j hj => ?_, fun j hj => ?_, fun j o hj => ?_, fun j => ?_, fun i j b hi hj => ?_, h'.zlt, fun j b hb => ?_, fun j b hb => ?_, h'.glob⟩, hle, ⟨hE.os, hE.tape, hE.output, hE.size, fun b hb hf => ?_, hE.zle, fun b hb => ?_, fun j b hb => ?_⟩⟩
  · by_cases e : j < m
    · rw [get1 e] at hj; rw [gg1 e]; exact h'.dead j hj
    · rw [get2 e] at hj; rw [gg2 e]; exact h.dead j hj
  · by_cases e : j < m
    · simp only [if_pos e]; exact h'.nofp j (fun o => by have := hj o; rwa [get1 e] at this)
    · simp only [if_neg e]; exact h.nofp j (fun o => by have := hj o; rwa [get2 e] at this)
  · by_cases e : j < m
    · rw [get1 e] at hj
      obtain ⟨g, hg, hob⟩ := h'.live j o hj
      refine ⟨g, by rw [gg1 e]; exact hg, ?_⟩
      simp only [if_pos e]
      exact hob.keep (fun _ _ => rfl) (fun _ h => h) (GLe.more _) (fun _ _ => rfl)
    · rw [get2 e] at hj
      obtain ⟨g, hg, hob⟩ := h.live j o hj
      refine ⟨g, by rw [gg2 e]; exact hg, ?_⟩
      simp only [if_neg e]
      exact hob.keep hZk hE.zle hle (hkj j e)
  · by_cases e : j < m
    · simp only [if_pos e]; exact h'.nodup j
    · simp only [if_neg e]; exact h.nodup j
  · by_cases e1 : i < m <;> by_cases e2 : j < m
    · simp only [if_pos e1] at hi; simp only [if_pos e2] at hj; exact h'.disj i j b hi hj
    · simp only [if_pos e1] at hi; simp only [if_neg e2] at hj; exact (hcross i j b e2 hi hj).elim
    · simp only [if_neg e1] at hi; simp only [if_pos e2] at hj; exact (hcross j i b e1 hj hi).elim
    · simp only [if_neg e1] at hi; simp only [if_neg e2] at hj; exact h.disj i j b hi hj
  · by_cases e : j < m
    · simp only [if_pos e] at hb; exact h'.flt j b hb
    · simp only [if_neg e] at hb; exact Nat.lt_of_lt_of_le (h.flt j b hb) hE.size
  · by_cases e : j < m
    · simp only [if_pos e] at hb; exact h'.zfp j b hb
    · simp only [if_neg e] at hb
      intro hz
      rcases hE.znew b hz with k | k | ⟨id, k⟩
      · exact h.zfp j b hb k
      · have := h.flt j b hb; omega
      · exact hnot j e b hb id k
  · exact hE.keep b hb (fun id hc => by
      by_cases e : id < m
      · simp only [if_pos e] at hc; exact hf id hc
      · simp [e] at hc)
  · rcases hE.znew b hb with k | k | ⟨id, k⟩
    · exact .inl k
    · exact .inr (.inl k)
    · by_cases e : id < m
      · simp only [if_pos e] at k; exact .inr (.inr ⟨id, k⟩)
      · simp [e] at k
  · by_cases e : j < m
    · simp only [if_pos e] at hb
      rcases hE.fnew j b hb with k | ⟨id, k⟩
      · exact .inl k
      · by_cases e' : id < m
        · simp only [if_pos e'] at k; exact .inr ⟨id, k⟩
        · simp [e'] at k
    · simp only [if_neg e] at hb; exact .inr ⟨j, hb⟩
end
section
variable {P : Program}
theorem HYield.frame {id : Nat} {H : Heap} {args : List HV} {Kb : Bool → Heap → Prop} (m : Nat) (h : HYield P id (H.take m) args Kb) (hid : id < m) (hml : m ≤ H.length) (hnm : nmH m H = true) (hargs : nmL m args = true) :
    HYield P id H args (fun b H' => ∃ Hc, H' = Hc ++ H.drop m ∧ Hc.length = m ∧ Kb b Hc) := by
  intro ro n Z G FP w l vals hi hy ha
  have hmg : m ≤ G.length := by rw [hi.len]; exact hml
  have hi' := hi.trunc m hnm
  have hy' := nm_spec (.yl id) m G _ [] (by simpa [nm] using hid) hy
  have ha' := nmL_spec args m G _ [] hargs ha
  obtain ⟨fn, tmps, assign, body, h1, h2⟩ := h ro n Z _ _ w l vals hi' hy' ha'
  refine ⟨fn, tmps, assign, body, h1, h2.mono ?_⟩
  rintro e w' ⟨v, r, H', Z', G', FP', fr, rfl, ⟨b, rfl, hQ⟩, hlen, hi2, hr, hnd, hfr1, hfr2, hG, hE⟩
  simp only [RV] at hr
  obtain ⟨rfl, rfl⟩ := hr
  have hlm : H'.length = m := by rw [hlen]; simp; omega
  obtain ⟨j1, j2, j3⟩ := hi.join hml hi2 hlm hG hE
  exact ⟨_, .v (.bool b), _, Z', _, _, [], rfl, ⟨b, rfl, H', rfl, hlm, hQ⟩, by simp; omega, j1, by simp [RV], by simp, by simp, by simp, j2, j3⟩
def HSeq (P : Program) (gf : Nat) (Hc : Heap) (caps : List HV) (Hc0 : Heap) (xs : List (List HV)) : Prop :=
  ∀ (id : Nat) (J K : Nat → Heap → Prop), id < Hc.length →
    (∀ i H, J i H → H.length = Hc.length ∧ nmH Hc.length H = true) → (∀ i H, K i H → nmH Hc.length H = true) →
    (∀ i x H, xs[i]? = some x → J i H → HYield P id H x (fun b H' => if b = true then J (i + 1) H' else K (i + 1) H')) →
    J 0 Hc0 → HCalls P gf Hc (.yl id :: caps) (fun _ H' => J xs.length H' ∨ ∃ i, K i H')
end
end Go.Proofs.Yteieinhgdjjdoaa
