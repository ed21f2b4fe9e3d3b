/- Facts on the types of the seat's program. Printed by a program of my own. -/
import Derived.Test.YtdajmbjgbpbidaaHiS
import Derived.Test.YtdajmbjgbpbidaaProg
namespace Go.Proofs.Ytdajmbjgbpbidaa
open Go.RowKit
set_option linter.unusedVariables false

abbrev I1 : TI := ⟨10, 1, 8, some .nilFunc, [], 0, 0⟩
theorem ti1 : ti Try.prog 1 = some I1 := by kernel_rfl
theorem zc1 : zcells I1 = some [.v .nilFunc] := by kernel_rfl
abbrev I2 : TI := ⟨8, 1, 8, some (.int .i64 0), [], 0, 0⟩
theorem ti2 : ti Try.prog 2 = some I2 := by kernel_rfl
theorem zc2 : zcells I2 = some [.v (.int .i64 0)] := by kernel_rfl
theorem it2 : intTy Try.prog 2 = some .i64 := by kernel_rfl
abbrev I3 : TI := ⟨8, 1, 8, some (.int .i64 0), [], 0, 0⟩
theorem ti3 : ti Try.prog 3 = some I3 := by kernel_rfl
theorem zc3 : zcells I3 = some [.v (.int .i64 0)] := by kernel_rfl
theorem it3 : intTy Try.prog 3 = some .i64 := by kernel_rfl
abbrev I4 : TI := ⟨7, 1, 1, some (.bool false), [], 0, 0⟩
theorem ti4 : ti Try.prog 4 = some I4 := by kernel_rfl
theorem zc4 : zcells I4 = some [.v (.bool false)] := by kernel_rfl
theorem ki4 : kindIs Try.prog 4 7 = true := by kernel_rfl
abbrev I5 : TI := ⟨8, 1, 1, some (.int .u8 0), [], 0, 0⟩
theorem ti5 : ti Try.prog 5 = some I5 := by kernel_rfl
theorem zc5 : zcells I5 = some [.v (.int .u8 0)] := by kernel_rfl
theorem it5 : intTy Try.prog 5 = some .u8 := by kernel_rfl
abbrev I6 : TI := ⟨8, 1, 1, some (.int .u8 0), [], 0, 0⟩
theorem ti6 : ti Try.prog 6 = some I6 := by kernel_rfl
theorem zc6 : zcells I6 = some [.v (.int .u8 0)] := by kernel_rfl
theorem it6 : intTy Try.prog 6 = some .u8 := by kernel_rfl
abbrev I7 : TI := ⟨1, 4, 24, some (.agg #[(.int .i64 0), (.int .i64 0), (.bool false), (.int .u8 0)]), [(0, 2), (1, 3), (2, 4), (3, 6)], 0, 0⟩
theorem ti7 : ti Try.prog 7 = some I7 := by kernel_rfl
theorem zc7 : zcells I7 = some [.v (.int .i64 0), .v (.int .i64 0), .v (.bool false), .v (.int .u8 0)] := by kernel_rfl
abbrev I9 : TI := ⟨4, 1, 16, some (str []), [], 0, 0⟩
theorem ti9 : ti Try.prog 9 = some I9 := by kernel_rfl
theorem zc9 : zcells I9 = some [.v (str [])] := by kernel_rfl
theorem ki9 : kindIs Try.prog 9 4 = true := by kernel_rfl
abbrev I12 : TI := ⟨8, 1, 8, some (.int .u64 0), [], 0, 0⟩
theorem ti12 : ti Try.prog 12 = some I12 := by kernel_rfl
theorem zc12 : zcells I12 = some [.v (.int .u64 0)] := by kernel_rfl
theorem it12 : intTy Try.prog 12 = some .u64 := by kernel_rfl
abbrev I13 : TI := ⟨1, 2, 24, some (.agg #[(str []), (.int .u64 0)]), [(0, 9), (1, 12)], 0, 0⟩
theorem ti13 : ti Try.prog 13 = some I13 := by kernel_rfl
theorem zc13 : zcells I13 = some [.v (str []), .v (.int .u64 0)] := by kernel_rfl
abbrev I18 : TI := ⟨1, 1, 8, some (.agg #[(.pointer none)]), [(0, 17)], 0, 0⟩
theorem ti18 : ti Try.prog 18 = some I18 := by kernel_rfl
theorem zc18 : zcells I18 = some [.v (.pointer none)] := by kernel_rfl
abbrev I20 : TI := ⟨9, 1, 16, some .nilIface, [], 0, 0⟩
theorem ti20 : ti Try.prog 20 = some I20 := by kernel_rfl
theorem zc20 : zcells I20 = some [.v .nilIface] := by kernel_rfl
theorem ki20 : kindIs Try.prog 20 9 = true := by kernel_rfl
abbrev I21 : TI := ⟨8, 1, 4, some (.int .i32 0), [], 0, 0⟩
theorem ti21 : ti Try.prog 21 = some I21 := by kernel_rfl
theorem zc21 : zcells I21 = some [.v (.int .i32 0)] := by kernel_rfl
theorem it21 : intTy Try.prog 21 = some .i32 := by kernel_rfl
abbrev I22 : TI := ⟨10, 1, 8, some .nilFunc, [], 0, 0⟩
theorem ti22 : ti Try.prog 22 = some I22 := by kernel_rfl
theorem zc22 : zcells I22 = some [.v .nilFunc] := by kernel_rfl
abbrev I23 : TI := ⟨10, 1, 8, some .nilFunc, [], 0, 0⟩
theorem ti23 : ti Try.prog 23 = some I23 := by kernel_rfl
theorem zc23 : zcells I23 = some [.v .nilFunc] := by kernel_rfl
abbrev I24 : TI := ⟨3, 1, 24, some (.slice none 0 0), [], 9, 0⟩
theorem ti24 : ti Try.prog 24 = some I24 := by kernel_rfl
theorem zc24 : zcells I24 = some [.v (.slice none 0 0)] := by kernel_rfl
theorem ki24 : kindIs Try.prog 24 3 = true := by kernel_rfl
abbrev I25 : TI := ⟨10, 1, 8, some .nilFunc, [], 0, 0⟩
theorem ti25 : ti Try.prog 25 = some I25 := by kernel_rfl
theorem zc25 : zcells I25 = some [.v .nilFunc] := by kernel_rfl
abbrev I26 : TI := ⟨10, 1, 8, some .nilFunc, [], 0, 0⟩
theorem ti26 : ti Try.prog 26 = some I26 := by kernel_rfl
theorem zc26 : zcells I26 = some [.v .nilFunc] := by kernel_rfl
abbrev I27 : TI := ⟨10, 1, 8, some .nilFunc, [], 0, 0⟩
theorem ti27 : ti Try.prog 27 = some I27 := by kernel_rfl
theorem zc27 : zcells I27 = some [.v .nilFunc] := by kernel_rfl
abbrev I28 : TI := ⟨10, 1, 8, some .nilFunc, [], 0, 0⟩
theorem ti28 : ti Try.prog 28 = some I28 := by kernel_rfl
theorem zc28 : zcells I28 = some [.v .nilFunc] := by kernel_rfl
abbrev I29 : TI := ⟨10, 1, 8, some .nilFunc, [], 0, 0⟩
theorem ti29 : ti Try.prog 29 = some I29 := by kernel_rfl
theorem zc29 : zcells I29 = some [.v .nilFunc] := by kernel_rfl
abbrev I30 : TI := ⟨10, 1, 8, some .nilFunc, [], 0, 0⟩
theorem ti30 : ti Try.prog 30 = some I30 := by kernel_rfl
theorem zc30 : zcells I30 = some [.v .nilFunc] := by kernel_rfl
abbrev I31 : TI := ⟨10, 1, 8, some .nilFunc, [], 0, 0⟩
theorem ti31 : ti Try.prog 31 = some I31 := by kernel_rfl
theorem zc31 : zcells I31 = some [.v .nilFunc] := by kernel_rfl
abbrev I32 : TI := ⟨3, 1, 24, some (.slice none 0 0), [], 5, 0⟩
theorem ti32 : ti Try.prog 32 = some I32 := by kernel_rfl
theorem zc32 : zcells I32 = some [.v (.slice none 0 0)] := by kernel_rfl
theorem ki32 : kindIs Try.prog 32 3 = true := by kernel_rfl
abbrev I33 : TI := ⟨10, 1, 8, some .nilFunc, [], 0, 0⟩
theorem ti33 : ti Try.prog 33 = some I33 := by kernel_rfl
theorem zc33 : zcells I33 = some [.v .nilFunc] := by kernel_rfl
abbrev I35 : TI := ⟨10, 1, 8, some .nilFunc, [], 0, 0⟩
theorem ti35 : ti Try.prog 35 = some I35 := by kernel_rfl
theorem zc35 : zcells I35 = some [.v .nilFunc] := by kernel_rfl
abbrev I36 : TI := ⟨10, 1, 8, some .nilFunc, [], 0, 0⟩
theorem ti36 : ti Try.prog 36 = some I36 := by kernel_rfl
theorem zc36 : zcells I36 = some [.v .nilFunc] := by kernel_rfl
abbrev I37 : TI := ⟨10, 1, 8, some .nilFunc, [], 0, 0⟩
theorem ti37 : ti Try.prog 37 = some I37 := by kernel_rfl
theorem zc37 : zcells I37 = some [.v .nilFunc] := by kernel_rfl
abbrev I38 : TI := ⟨10, 1, 8, some .nilFunc, [], 0, 0⟩
theorem ti38 : ti Try.prog 38 = some I38 := by kernel_rfl
theorem zc38 : zcells I38 = some [.v .nilFunc] := by kernel_rfl
abbrev I39 : TI := ⟨10, 1, 8, some .nilFunc, [], 0, 0⟩
theorem ti39 : ti Try.prog 39 = some I39 := by kernel_rfl
theorem zc39 : zcells I39 = some [.v .nilFunc] := by kernel_rfl
abbrev I40 : TI := ⟨10, 1, 8, some .nilFunc, [], 0, 0⟩
theorem ti40 : ti Try.prog 40 = some I40 := by kernel_rfl
theorem zc40 : zcells I40 = some [.v .nilFunc] := by kernel_rfl
abbrev I41 : TI := ⟨10, 1, 8, some .nilFunc, [], 0, 0⟩
theorem ti41 : ti Try.prog 41 = some I41 := by kernel_rfl
theorem zc41 : zcells I41 = some [.v .nilFunc] := by kernel_rfl
abbrev I42 : TI := ⟨10, 1, 8, some .nilFunc, [], 0, 0⟩
theorem ti42 : ti Try.prog 42 = some I42 := by kernel_rfl
theorem zc42 : zcells I42 = some [.v .nilFunc] := by kernel_rfl
abbrev I43 : TI := ⟨10, 1, 8, some .nilFunc, [], 0, 0⟩
theorem ti43 : ti Try.prog 43 = some I43 := by kernel_rfl
theorem zc43 : zcells I43 = some [.v .nilFunc] := by kernel_rfl
abbrev I44 : TI := ⟨10, 1, 8, some .nilFunc, [], 0, 0⟩
theorem ti44 : ti Try.prog 44 = some I44 := by kernel_rfl
theorem zc44 : zcells I44 = some [.v .nilFunc] := by kernel_rfl
abbrev I45 : TI := ⟨10, 1, 8, some .nilFunc, [], 0, 0⟩
theorem ti45 : ti Try.prog 45 = some I45 := by kernel_rfl
theorem zc45 : zcells I45 = some [.v .nilFunc] := by kernel_rfl
abbrev I46 : TI := ⟨10, 1, 8, some .nilFunc, [], 0, 0⟩
theorem ti46 : ti Try.prog 46 = some I46 := by kernel_rfl
theorem zc46 : zcells I46 = some [.v .nilFunc] := by kernel_rfl
abbrev I47 : TI := ⟨8, 1, 8, some (.int .u64 0), [], 0, 0⟩
theorem ti47 : ti Try.prog 47 = some I47 := by kernel_rfl
theorem zc47 : zcells I47 = some [.v (.int .u64 0)] := by kernel_rfl
theorem it47 : intTy Try.prog 47 = some .u64 := by kernel_rfl
abbrev I48 : TI := ⟨8, 1, 4, some (.int .u32 0), [], 0, 0⟩
theorem ti48 : ti Try.prog 48 = some I48 := by kernel_rfl
theorem zc48 : zcells I48 = some [.v (.int .u32 0)] := by kernel_rfl
theorem it48 : intTy Try.prog 48 = some .u32 := by kernel_rfl
abbrev I50 : TI := ⟨10, 1, 8, some .nilFunc, [], 0, 0⟩
theorem ti50 : ti Try.prog 50 = some I50 := by kernel_rfl
theorem zc50 : zcells I50 = some [.v .nilFunc] := by kernel_rfl
abbrev I51 : TI := ⟨10, 1, 8, some .nilFunc, [], 0, 0⟩
theorem ti51 : ti Try.prog 51 = some I51 := by kernel_rfl
theorem zc51 : zcells I51 = some [.v .nilFunc] := by kernel_rfl
abbrev I52 : TI := ⟨1, 4, 40, some (.agg #[(.pointer none), (.pointer none), (.pointer none), (str [])]), [(0, 17), (1, 17), (2, 17), (3, 9)], 0, 0⟩
theorem ti52 : ti Try.prog 52 = some I52 := by kernel_rfl
theorem zc52 : zcells I52 = some [.v (.pointer none), .v (.pointer none), .v (.pointer none), .v (str [])] := by kernel_rfl
abbrev I53 : TI := ⟨1, 4, 40, some (.agg #[(.pointer none), (.pointer none), (.pointer none), (str [])]), [(0, 17), (1, 17), (2, 17), (3, 9)], 0, 0⟩
theorem ti53 : ti Try.prog 53 = some I53 := by kernel_rfl
theorem zc53 : zcells I53 = some [.v (.pointer none), .v (.pointer none), .v (.pointer none), .v (str [])] := by kernel_rfl
abbrev I54 : TI := ⟨2, 0, 0, some (.agg #[]), [], 16, 0⟩
theorem ti54 : ti Try.prog 54 = some I54 := by kernel_rfl
theorem zc54 : zcells I54 = some [] := by kernel_rfl
abbrev I55 : TI := ⟨1, 0, 0, some (.agg #[]), [(0, 54)], 0, 0⟩
theorem ti55 : ti Try.prog 55 = some I55 := by kernel_rfl
theorem zc55 : zcells I55 = some [] := by kernel_rfl
abbrev I56 : TI := ⟨1, 0, 0, some (.agg #[]), [(0, 54)], 0, 0⟩
theorem ti56 : ti Try.prog 56 = some I56 := by kernel_rfl
theorem zc56 : zcells I56 = some [] := by kernel_rfl
abbrev I57 : TI := ⟨10, 1, 8, some .nilFunc, [], 0, 0⟩
theorem ti57 : ti Try.prog 57 = some I57 := by kernel_rfl
theorem zc57 : zcells I57 = some [.v .nilFunc] := by kernel_rfl
abbrev I58 : TI := ⟨8, 1, 1, some (.int .u8 0), [], 0, 0⟩
theorem ti58 : ti Try.prog 58 = some I58 := by kernel_rfl
theorem zc58 : zcells I58 = some [.v (.int .u8 0)] := by kernel_rfl
theorem it58 : intTy Try.prog 58 = some .u8 := by kernel_rfl
abbrev I60 : TI := ⟨10, 1, 8, some .nilFunc, [], 0, 0⟩
theorem ti60 : ti Try.prog 60 = some I60 := by kernel_rfl
theorem zc60 : zcells I60 = some [.v .nilFunc] := by kernel_rfl
abbrev I61 : TI := ⟨6, 1, 8, some (.pointer none), [], 5, 0⟩
theorem ti61 : ti Try.prog 61 = some I61 := by kernel_rfl
theorem zc61 : zcells I61 = some [.v (.pointer none)] := by kernel_rfl
abbrev I62 : TI := ⟨8, 1, 4, some (.int .i32 0), [], 0, 0⟩
theorem ti62 : ti Try.prog 62 = some I62 := by kernel_rfl
theorem zc62 : zcells I62 = some [.v (.int .i32 0)] := by kernel_rfl
theorem it62 : intTy Try.prog 62 = some .i32 := by kernel_rfl
abbrev I63 : TI := ⟨8, 1, 4, some (.int .i32 0), [], 0, 0⟩
theorem ti63 : ti Try.prog 63 = some I63 := by kernel_rfl
theorem zc63 : zcells I63 = some [.v (.int .i32 0)] := by kernel_rfl
theorem it63 : intTy Try.prog 63 = some .i32 := by kernel_rfl
abbrev I64 : TI := ⟨1, 11, 48, some (.agg #[(.int .u64 0), (.int .u64 0), (.int .u32 0), (.int .u8 0), (.int .u8 0), (.int .u8 0), (.int .u8 0), .nilFunc, (.pointer none), (.int .i32 0), (.int .i32 0)]), [(0, 12), (1, 12), (2, 48), (3, 58), (4, 5), (5, 5), (6, 59), (7, 60), (8, 61), (9, 62), (10, 63)], 0, 0⟩
theorem ti64 : ti Try.prog 64 = some I64 := by kernel_rfl
theorem zc64 : zcells I64 = some [.v (.int .u64 0), .v (.int .u64 0), .v (.int .u32 0), .v (.int .u8 0), .v (.int .u8 0), .v (.int .u8 0), .v (.int .u8 0), .v .nilFunc, .v (.pointer none), .v (.int .i32 0), .v (.int .i32 0)] := by kernel_rfl
abbrev I65 : TI := ⟨1, 11, 48, some (.agg #[(.int .u64 0), (.int .u64 0), (.int .u32 0), (.int .u8 0), (.int .u8 0), (.int .u8 0), (.int .u8 0), .nilFunc, (.pointer none), (.int .i32 0), (.int .i32 0)]), [(0, 12), (1, 12), (2, 48), (3, 58), (4, 5), (5, 5), (6, 59), (7, 60), (8, 61), (9, 62), (10, 63)], 0, 0⟩
theorem ti65 : ti Try.prog 65 = some I65 := by kernel_rfl
theorem zc65 : zcells I65 = some [.v (.int .u64 0), .v (.int .u64 0), .v (.int .u32 0), .v (.int .u8 0), .v (.int .u8 0), .v (.int .u8 0), .v (.int .u8 0), .v .nilFunc, .v (.pointer none), .v (.int .i32 0), .v (.int .i32 0)] := by kernel_rfl
theorem fl7_0 : fldAt Try.prog 7 0 = some (0, I2) := by kernel_rfl
theorem fl7_1 : fldAt Try.prog 7 1 = some (1, I3) := by kernel_rfl
theorem fl7_2 : fldAt Try.prog 7 2 = some (2, I4) := by kernel_rfl
theorem fl7_3 : fldAt Try.prog 7 3 = some (3, I6) := by kernel_rfl
theorem fl13_0 : fldAt Try.prog 13 0 = some (0, I9) := by kernel_rfl
theorem fl13_1 : fldAt Try.prog 13 1 = some (1, I12) := by kernel_rfl
theorem el24 : elemTI Try.prog 24 3 = some (I24, 9, I9) := by kernel_rfl
theorem el32 : elemTI Try.prog 32 3 = some (I32, 5, I5) := by kernel_rfl
theorem fl52_3 : fldAt Try.prog 52 3 = some (3, I9) := by kernel_rfl
theorem fl53_3 : fldAt Try.prog 53 3 = some (3, I9) := by kernel_rfl
theorem fl55_0 : fldAt Try.prog 55 0 = some (0, I54) := by kernel_rfl
theorem fl56_0 : fldAt Try.prog 56 0 = some (0, I54) := by kernel_rfl
theorem fl64_0 : fldAt Try.prog 64 0 = some (0, I12) := by kernel_rfl
theorem fl64_1 : fldAt Try.prog 64 1 = some (1, I12) := by kernel_rfl
theorem fl64_2 : fldAt Try.prog 64 2 = some (2, I48) := by kernel_rfl
theorem fl64_3 : fldAt Try.prog 64 3 = some (3, I58) := by kernel_rfl
theorem fl64_4 : fldAt Try.prog 64 4 = some (4, I5) := by kernel_rfl
theorem fl64_5 : fldAt Try.prog 64 5 = some (5, I5) := by kernel_rfl
theorem fl64_7 : fldAt Try.prog 64 7 = some (7, I60) := by kernel_rfl
theorem fl64_8 : fldAt Try.prog 64 8 = some (8, I61) := by kernel_rfl
theorem fl64_9 : fldAt Try.prog 64 9 = some (9, I62) := by kernel_rfl
theorem fl64_10 : fldAt Try.prog 64 10 = some (10, I63) := by kernel_rfl
theorem fl65_0 : fldAt Try.prog 65 0 = some (0, I12) := by kernel_rfl
theorem fl65_1 : fldAt Try.prog 65 1 = some (1, I12) := by kernel_rfl
theorem fl65_2 : fldAt Try.prog 65 2 = some (2, I48) := by kernel_rfl
theorem fl65_3 : fldAt Try.prog 65 3 = some (3, I58) := by kernel_rfl
theorem fl65_4 : fldAt Try.prog 65 4 = some (4, I5) := by kernel_rfl
theorem fl65_5 : fldAt Try.prog 65 5 = some (5, I5) := by kernel_rfl
theorem fl65_7 : fldAt Try.prog 65 7 = some (7, I60) := by kernel_rfl
theorem fl65_8 : fldAt Try.prog 65 8 = some (8, I61) := by kernel_rfl
theorem fl65_9 : fldAt Try.prog 65 9 = some (9, I62) := by kernel_rfl
theorem fl65_10 : fldAt Try.prog 65 10 = some (10, I63) := by kernel_rfl

attribute [go_sem] ti1 zc1 ti2 zc2 it2 ti3 zc3 it3 ti4 zc4 ki4 ti5 zc5 it5 ti6 zc6 it6 ti7 zc7 ti9 zc9 ki9 ti12 zc12 it12 ti13 zc13 ti18 zc18 ti20 zc20 ki20 ti21 zc21 it21 ti22 zc22 ti23 zc23 ti24 zc24 ki24 ti25 zc25 ti26 zc26 ti27 zc27 ti28 zc28 ti29 zc29 ti30 zc30 ti31 zc31 ti32 zc32 ki32 ti33 zc33 ti35 zc35 ti36 zc36 ti37 zc37 ti38 zc38 ti39 zc39 ti40 zc40 ti41 zc41 ti42 zc42 ti43 zc43 ti44 zc44 ti45 zc45 ti46 zc46 ti47 zc47 it47 ti48 zc48 it48 ti50 zc50 ti51 zc51 ti52 zc52 ti53 zc53 ti54 zc54 ti55 zc55 ti56 zc56 ti57 zc57 ti58 zc58 it58 ti60 zc60 ti61 zc61 ti62 zc62 it62 ti63 zc63 it63 ti64 zc64 ti65 zc65 fl7_0 fl7_1 fl7_2 fl7_3 fl13_0 fl13_1 el24 el32 fl52_3 fl53_3 fl55_0 fl56_0 fl64_0 fl64_1 fl64_2 fl64_3 fl64_4 fl64_5 fl64_7 fl64_8 fl64_9 fl64_10 fl65_0 fl65_1 fl65_2 fl65_3 fl65_4 fl65_5 fl65_7 fl65_8 fl65_9 fl65_10
end Go.Proofs.Ytdajmbjgbpbidaa
