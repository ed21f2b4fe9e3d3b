/- Parts of the proof: Ty, Wp, Wa, Fo, Wb, Wc, Wd, We, Wf, Wg, Wh. -/
import Derived.Test.YtmapdjdnnhlpiaaGreatDoorZs05
import Derived.Test.YtmapdjdnnhlpiaaGreatDoorProg
import Derived.Shelf.Strings.Cut
import Derived.KernelRfl
import Derived.Lib.IndexMore
set_option linter.unusedSectionVars false
set_option linter.unusedVariables false
set_option linter.unusedSimpArgs false
namespace Go.Proofs.YtmapdjdnnhlpiaaGreatDoor
open Go.RowKit
set_option maxRecDepth 8000
abbrev I1:TI:=⟨10,1,8,some .nilFunc,[],0,0⟩
theorem ti1:ti Tryz.prog 1=some I1:=by kernel_rfl
theorem zc1:zcells I1=some [.v .nilFunc]:=by kernel_rfl
abbrev I2:TI:=⟨8,1,8,some (.int .i64 0),[],0,0⟩
theorem ti2:ti Tryz.prog 2=some I2:=by kernel_rfl
theorem zc2:zcells I2=some [.v (.int .i64 0)]:=by kernel_rfl
theorem it2:intTy Tryz.prog 2=some .i64:=by kernel_rfl
abbrev I3:TI:=⟨8,1,8,some (.int .i64 0),[],0,0⟩
theorem ti3:ti Tryz.prog 3=some I3:=by kernel_rfl
theorem zc3:zcells I3=some [.v (.int .i64 0)]:=by kernel_rfl
theorem it3:intTy Tryz.prog 3=some .i64:=by kernel_rfl
abbrev I4:TI:=⟨7,1,1,some (.bool false),[],0,0⟩
theorem ti4:ti Tryz.prog 4=some I4:=by kernel_rfl
theorem zc4:zcells I4=some [.v (.bool false)]:=by kernel_rfl
theorem ki4:kindIs Tryz.prog 4 7=true:=by kernel_rfl
abbrev I5:TI:=⟨8,1,1,some (.int .u8 0),[],0,0⟩
theorem ti5:ti Tryz.prog 5=some I5:=by kernel_rfl
theorem zc5:zcells I5=some [.v (.int .u8 0)]:=by kernel_rfl
theorem it5:intTy Tryz.prog 5=some .u8:=by kernel_rfl
abbrev I6:TI:=⟨8,1,1,some (.int .u8 0),[],0,0⟩
theorem ti6:ti Tryz.prog 6=some I6:=by kernel_rfl
theorem zc6:zcells I6=some [.v (.int .u8 0)]:=by kernel_rfl
theorem it6:intTy Tryz.prog 6=some .u8:=by kernel_rfl
abbrev I7:TI:=⟨1,4,24,some (.agg #[(.int .i64 0),(.int .i64 0),(.bool false),(.int .u8 0)]),[(0,2),(1,3),(2,4),(3,6)],0,0⟩
theorem ti7:ti Tryz.prog 7=some I7:=by kernel_rfl
theorem zc7:zcells I7=some [.v (.int .i64 0),.v (.int .i64 0),.v (.bool false),.v (.int .u8 0)]:=by kernel_rfl
abbrev I8:TI:=⟨1,4,24,some (.agg #[(.int .i64 0),(.int .i64 0),(.bool false),(.int .u8 0)]),[(0,2),(1,3),(2,4),(3,6)],0,0⟩
theorem ti8:ti Tryz.prog 8=some I8:=by kernel_rfl
theorem zc8:zcells I8=some [.v (.int .i64 0),.v (.int .i64 0),.v (.bool false),.v (.int .u8 0)]:=by kernel_rfl
abbrev I9:TI:=⟨4,1,16,some (str []),[],0,0⟩
theorem ti9:ti Tryz.prog 9=some I9:=by kernel_rfl
theorem zc9:zcells I9=some [.v (str [])]:=by kernel_rfl
theorem ki9:kindIs Tryz.prog 9 4=true:=by kernel_rfl
theorem kn9:kindIs Tryz.prog 9 3=false:=by kernel_rfl
abbrev I10:TI:=⟨4,1,16,some (str []),[],0,0⟩
theorem ti10:ti Tryz.prog 10=some I10:=by kernel_rfl
theorem zc10:zcells I10=some [.v (str [])]:=by kernel_rfl
theorem ki10:kindIs Tryz.prog 10 4=true:=by kernel_rfl
theorem kn10:kindIs Tryz.prog 10 3=false:=by kernel_rfl
abbrev I11:TI:=⟨4,1,16,some (str []),[],0,0⟩
theorem ti11:ti Tryz.prog 11=some I11:=by kernel_rfl
theorem zc11:zcells I11=some [.v (str [])]:=by kernel_rfl
theorem ki11:kindIs Tryz.prog 11 4=true:=by kernel_rfl
theorem kn11:kindIs Tryz.prog 11 3=false:=by kernel_rfl
abbrev I12:TI:=⟨8,1,8,some (.int .u64 0),[],0,0⟩
theorem ti12:ti Tryz.prog 12=some I12:=by kernel_rfl
theorem zc12:zcells I12=some [.v (.int .u64 0)]:=by kernel_rfl
theorem it12:intTy Tryz.prog 12=some .u64:=by kernel_rfl
abbrev I13:TI:=⟨1,2,24,some (.agg #[(str []),(.int .u64 0)]),[(0,9),(1,12)],0,0⟩
theorem ti13:ti Tryz.prog 13=some I13:=by kernel_rfl
theorem zc13:zcells I13=some [.v (str []),.v (.int .u64 0)]:=by kernel_rfl
abbrev I14:TI:=⟨1,2,24,some (.agg #[(str []),(.int .u64 0)]),[(0,9),(1,12)],0,0⟩
theorem ti14:ti Tryz.prog 14=some I14:=by kernel_rfl
theorem zc14:zcells I14=some [.v (str []),.v (.int .u64 0)]:=by kernel_rfl
abbrev I15:TI:=⟨6,1,8,some (.pointer none),[],215,0⟩
theorem ti15:ti Tryz.prog 15=some I15:=by kernel_rfl
theorem zc15:zcells I15=some [.v (.pointer none)]:=by kernel_rfl
abbrev I16:TI:=⟨6,1,8,some (.pointer none),[],218,0⟩
theorem ti16:ti Tryz.prog 16=some I16:=by kernel_rfl
theorem zc16:zcells I16=some [.v (.pointer none)]:=by kernel_rfl
abbrev I17:TI:=⟨6,1,8,some (.pointer none),[],226,0⟩
theorem ti17:ti Tryz.prog 17=some I17:=by kernel_rfl
theorem zc17:zcells I17=some [.v (.pointer none)]:=by kernel_rfl
abbrev I18:TI:=⟨1,1,8,some (.agg #[(.pointer none)]),[(0,17)],0,0⟩
theorem ti18:ti Tryz.prog 18=some I18:=by kernel_rfl
theorem zc18:zcells I18=some [.v (.pointer none)]:=by kernel_rfl
abbrev I19:TI:=⟨1,1,8,some (.agg #[(.pointer none)]),[(0,17)],0,0⟩
theorem ti19:ti Tryz.prog 19=some I19:=by kernel_rfl
theorem zc19:zcells I19=some [.v (.pointer none)]:=by kernel_rfl
abbrev I20:TI:=⟨9,1,16,some .nilIface,[],0,0⟩
theorem ti20:ti Tryz.prog 20=some I20:=by kernel_rfl
theorem zc20:zcells I20=some [.v .nilIface]:=by kernel_rfl
theorem ki20:kindIs Tryz.prog 20 9=true:=by kernel_rfl
abbrev I21:TI:=⟨8,1,4,some (.int .i32 0),[],0,0⟩
theorem ti21:ti Tryz.prog 21=some I21:=by kernel_rfl
theorem zc21:zcells I21=some [.v (.int .i32 0)]:=by kernel_rfl
theorem it21:intTy Tryz.prog 21=some .i32:=by kernel_rfl
abbrev I22:TI:=⟨10,1,8,some .nilFunc,[],0,0⟩
theorem ti22:ti Tryz.prog 22=some I22:=by kernel_rfl
theorem zc22:zcells I22=some [.v .nilFunc]:=by kernel_rfl
abbrev I23:TI:=⟨3,1,24,some (.slice none 0 0),[],44,0⟩
theorem ti23:ti Tryz.prog 23=some I23:=by kernel_rfl
theorem zc23:zcells I23=some [.v (.slice none 0 0)]:=by kernel_rfl
theorem ki23:kindIs Tryz.prog 23 3=true:=by kernel_rfl
abbrev I24:TI:=⟨3,1,24,some (.slice none 0 0),[],47,0⟩
theorem ti24:ti Tryz.prog 24=some I24:=by kernel_rfl
theorem zc24:zcells I24=some [.v (.slice none 0 0)]:=by kernel_rfl
theorem ki24:kindIs Tryz.prog 24 3=true:=by kernel_rfl
abbrev I25:TI:=⟨3,1,24,some (.slice none 0 0),[],53,0⟩
theorem ti25:ti Tryz.prog 25=some I25:=by kernel_rfl
theorem zc25:zcells I25=some [.v (.slice none 0 0)]:=by kernel_rfl
theorem ki25:kindIs Tryz.prog 25 3=true:=by kernel_rfl
abbrev I26:TI:=⟨1,5,96,some (.agg #[(str []),(.slice none 0 0),(.slice none 0 0),(.bool false),(.slice none 0 0)]),[(0,9),(1,23),(2,24),(3,4),(4,25)],0,0⟩
theorem ti26:ti Tryz.prog 26=some I26:=by kernel_rfl
theorem zc26:zcells I26=some [.v (str []),.v (.slice none 0 0),.v (.slice none 0 0),.v (.bool false),.v (.slice none 0 0)]:=by kernel_rfl
abbrev I27:TI:=⟨1,5,96,some (.agg #[(str []),(.slice none 0 0),(.slice none 0 0),(.bool false),(.slice none 0 0)]),[(0,9),(1,23),(2,24),(3,4),(4,25)],0,0⟩
theorem ti27:ti Tryz.prog 27=some I27:=by kernel_rfl
theorem zc27:zcells I27=some [.v (str []),.v (.slice none 0 0),.v (.slice none 0 0),.v (.bool false),.v (.slice none 0 0)]:=by kernel_rfl
abbrev I28:TI:=⟨8,1,8,some (.int .i64 0),[],0,0⟩
theorem ti28:ti Tryz.prog 28=some I28:=by kernel_rfl
theorem zc28:zcells I28=some [.v (.int .i64 0)]:=by kernel_rfl
theorem it28:intTy Tryz.prog 28=some .i64:=by kernel_rfl
abbrev I30:TI:=⟨10,1,8,some .nilFunc,[],0,0⟩
theorem ti30:ti Tryz.prog 30=some I30:=by kernel_rfl
theorem zc30:zcells I30=some [.v .nilFunc]:=by kernel_rfl
abbrev I31:TI:=⟨10,1,8,some .nilFunc,[],0,0⟩
theorem ti31:ti Tryz.prog 31=some I31:=by kernel_rfl
theorem zc31:zcells I31=some [.v .nilFunc]:=by kernel_rfl
abbrev I32:TI:=⟨10,1,8,some .nilFunc,[],0,0⟩
theorem ti32:ti Tryz.prog 32=some I32:=by kernel_rfl
theorem zc32:zcells I32=some [.v .nilFunc]:=by kernel_rfl
abbrev I33:TI:=⟨10,1,8,some .nilFunc,[],0,0⟩
theorem ti33:ti Tryz.prog 33=some I33:=by kernel_rfl
theorem zc33:zcells I33=some [.v .nilFunc]:=by kernel_rfl
abbrev I34:TI:=⟨3,1,24,some (.slice none 0 0),[],9,0⟩
theorem ti34:ti Tryz.prog 34=some I34:=by kernel_rfl
theorem zc34:zcells I34=some [.v (.slice none 0 0)]:=by kernel_rfl
theorem ki34:kindIs Tryz.prog 34 3=true:=by kernel_rfl
abbrev I35:TI:=⟨10,1,8,some .nilFunc,[],0,0⟩
theorem ti35:ti Tryz.prog 35=some I35:=by kernel_rfl
theorem zc35:zcells I35=some [.v .nilFunc]:=by kernel_rfl
abbrev I36:TI:=⟨10,1,8,some .nilFunc,[],0,0⟩
theorem ti36:ti Tryz.prog 36=some I36:=by kernel_rfl
theorem zc36:zcells I36=some [.v .nilFunc]:=by kernel_rfl
abbrev I37:TI:=⟨3,1,24,some (.slice none 0 0),[],5,0⟩
theorem ti37:ti Tryz.prog 37=some I37:=by kernel_rfl
theorem zc37:zcells I37=some [.v (.slice none 0 0)]:=by kernel_rfl
theorem ki37:kindIs Tryz.prog 37 3=true:=by kernel_rfl
abbrev I38:TI:=⟨3,1,24,some (.slice none 0 0),[],3,0⟩
theorem ti38:ti Tryz.prog 38=some I38:=by kernel_rfl
theorem zc38:zcells I38=some [.v (.slice none 0 0)]:=by kernel_rfl
theorem ki38:kindIs Tryz.prog 38 3=true:=by kernel_rfl
abbrev I39:TI:=⟨10,1,8,some .nilFunc,[],0,0⟩
theorem ti39:ti Tryz.prog 39=some I39:=by kernel_rfl
theorem zc39:zcells I39=some [.v .nilFunc]:=by kernel_rfl
abbrev I40:TI:=⟨10,1,8,some .nilFunc,[],0,0⟩
theorem ti40:ti Tryz.prog 40=some I40:=by kernel_rfl
theorem zc40:zcells I40=some [.v .nilFunc]:=by kernel_rfl
abbrev I42:TI:=⟨10,1,8,some .nilFunc,[],0,0⟩
theorem ti42:ti Tryz.prog 42=some I42:=by kernel_rfl
theorem zc42:zcells I42=some [.v .nilFunc]:=by kernel_rfl
abbrev I43:TI:=⟨1,2,24,some (.agg #[(str []),(.int .i64 0)]),[(0,9),(1,3)],0,0⟩
theorem ti43:ti Tryz.prog 43=some I43:=by kernel_rfl
theorem zc43:zcells I43=some [.v (str []),.v (.int .i64 0)]:=by kernel_rfl
abbrev I44:TI:=⟨1,2,24,some (.agg #[(str []),(.int .i64 0)]),[(0,9),(1,3)],0,0⟩
theorem ti44:ti Tryz.prog 44=some I44:=by kernel_rfl
theorem zc44:zcells I44=some [.v (str []),.v (.int .i64 0)]:=by kernel_rfl
abbrev I45:TI:=⟨3,1,24,some (.slice none 0 0),[],50,0⟩
theorem ti45:ti Tryz.prog 45=some I45:=by kernel_rfl
theorem zc45:zcells I45=some [.v (.slice none 0 0)]:=by kernel_rfl
theorem ki45:kindIs Tryz.prog 45 3=true:=by kernel_rfl
abbrev I46:TI:=⟨1,1,24,some (.agg #[(.slice none 0 0)]),[(0,45)],0,0⟩
theorem ti46:ti Tryz.prog 46=some I46:=by kernel_rfl
theorem zc46:zcells I46=some [.v (.slice none 0 0)]:=by kernel_rfl
abbrev I47:TI:=⟨1,1,24,some (.agg #[(.slice none 0 0)]),[(0,45)],0,0⟩
theorem ti47:ti Tryz.prog 47=some I47:=by kernel_rfl
theorem zc47:zcells I47=some [.v (.slice none 0 0)]:=by kernel_rfl
abbrev I48:TI:=⟨10,1,8,some .nilFunc,[],0,0⟩
theorem ti48:ti Tryz.prog 48=some I48:=by kernel_rfl
theorem zc48:zcells I48=some [.v .nilFunc]:=by kernel_rfl
abbrev I49:TI:=⟨1,5,64,some (.agg #[(.int .i64 0),(str []),(str []),(str []),(.int .i64 0)]),[(0,3),(1,9),(2,9),(3,9),(4,3)],0,0⟩
theorem ti49:ti Tryz.prog 49=some I49:=by kernel_rfl
theorem zc49:zcells I49=some [.v (.int .i64 0),.v (str []),.v (str []),.v (str []),.v (.int .i64 0)]:=by kernel_rfl
abbrev I50:TI:=⟨1,5,64,some (.agg #[(.int .i64 0),(str []),(str []),(str []),(.int .i64 0)]),[(0,3),(1,9),(2,9),(3,9),(4,3)],0,0⟩
theorem ti50:ti Tryz.prog 50=some I50:=by kernel_rfl
theorem zc50:zcells I50=some [.v (.int .i64 0),.v (str []),.v (str []),.v (str []),.v (.int .i64 0)]:=by kernel_rfl
abbrev I51:TI:=⟨10,1,8,some .nilFunc,[],0,0⟩
theorem ti51:ti Tryz.prog 51=some I51:=by kernel_rfl
theorem zc51:zcells I51=some [.v .nilFunc]:=by kernel_rfl
abbrev I52:TI:=⟨1,3,32,some (.agg #[(.int .i64 0),(str []),(.int .i64 0)]),[(0,3),(1,9),(2,3)],0,0⟩
theorem ti52:ti Tryz.prog 52=some I52:=by kernel_rfl
theorem zc52:zcells I52=some [.v (.int .i64 0),.v (str []),.v (.int .i64 0)]:=by kernel_rfl
abbrev I53:TI:=⟨1,3,32,some (.agg #[(.int .i64 0),(str []),(.int .i64 0)]),[(0,3),(1,9),(2,3)],0,0⟩
theorem ti53:ti Tryz.prog 53=some I53:=by kernel_rfl
theorem zc53:zcells I53=some [.v (.int .i64 0),.v (str []),.v (.int .i64 0)]:=by kernel_rfl
abbrev I54:TI:=⟨10,1,8,some .nilFunc,[],0,0⟩
theorem ti54:ti Tryz.prog 54=some I54:=by kernel_rfl
theorem zc54:zcells I54=some [.v .nilFunc]:=by kernel_rfl
abbrev I55:TI:=⟨6,1,8,some (.pointer none),[],58,0⟩
theorem ti55:ti Tryz.prog 55=some I55:=by kernel_rfl
theorem zc55:zcells I55=some [.v (.pointer none)]:=by kernel_rfl
abbrev I56:TI:=⟨3,1,24,some (.slice none 0 0),[],38,0⟩
theorem ti56:ti Tryz.prog 56=some I56:=by kernel_rfl
theorem zc56:zcells I56=some [.v (.slice none 0 0)]:=by kernel_rfl
theorem ki56:kindIs Tryz.prog 56 3=true:=by kernel_rfl
abbrev I57:TI:=⟨1,9,144,some (.agg #[(str []),(.slice none 0 0),(.slice none 0 0),(.bool false),(.slice none 0 0),(.int .i64 0),(.slice none 0 0),(.int .i64 0),(.int .i64 0)]),[(0,27),(5,3),(6,56),(7,3),(8,3)],0,0⟩
theorem ti57:ti Tryz.prog 57=some I57:=by kernel_rfl
theorem zc57:zcells I57=some [.v (str []),.v (.slice none 0 0),.v (.slice none 0 0),.v (.bool false),.v (.slice none 0 0),.v (.int .i64 0),.v (.slice none 0 0),.v (.int .i64 0),.v (.int .i64 0)]:=by kernel_rfl
abbrev I58:TI:=⟨1,9,144,some (.agg #[(str []),(.slice none 0 0),(.slice none 0 0),(.bool false),(.slice none 0 0),(.int .i64 0),(.slice none 0 0),(.int .i64 0),(.int .i64 0)]),[(0,27),(5,3),(6,56),(7,3),(8,3)],0,0⟩
theorem ti58:ti Tryz.prog 58=some I58:=by kernel_rfl
theorem zc58:zcells I58=some [.v (str []),.v (.slice none 0 0),.v (.slice none 0 0),.v (.bool false),.v (.slice none 0 0),.v (.int .i64 0),.v (.slice none 0 0),.v (.int .i64 0),.v (.int .i64 0)]:=by kernel_rfl
abbrev I59:TI:=⟨10,1,8,some .nilFunc,[],0,0⟩
theorem ti59:ti Tryz.prog 59=some I59:=by kernel_rfl
theorem zc59:zcells I59=some [.v .nilFunc]:=by kernel_rfl
abbrev I60:TI:=⟨10,1,8,some .nilFunc,[],0,0⟩
theorem ti60:ti Tryz.prog 60=some I60:=by kernel_rfl
theorem zc60:zcells I60=some [.v .nilFunc]:=by kernel_rfl
abbrev I61:TI:=⟨6,1,8,some (.pointer none),[],63,0⟩
theorem ti61:ti Tryz.prog 61=some I61:=by kernel_rfl
theorem zc61:zcells I61=some [.v (.pointer none)]:=by kernel_rfl
abbrev I62:TI:=⟨1,9,144,some (.agg #[(str []),(.slice none 0 0),(.slice none 0 0),(.bool false),(.slice none 0 0),(.int .i64 0),(.int .i64 0),(.int .i64 0),(.slice none 0 0)]),[(0,27),(5,3),(6,3),(7,3),(8,56)],0,0⟩
theorem ti62:ti Tryz.prog 62=some I62:=by kernel_rfl
theorem zc62:zcells I62=some [.v (str []),.v (.slice none 0 0),.v (.slice none 0 0),.v (.bool false),.v (.slice none 0 0),.v (.int .i64 0),.v (.int .i64 0),.v (.int .i64 0),.v (.slice none 0 0)]:=by kernel_rfl
abbrev I63:TI:=⟨1,9,144,some (.agg #[(str []),(.slice none 0 0),(.slice none 0 0),(.bool false),(.slice none 0 0),(.int .i64 0),(.int .i64 0),(.int .i64 0),(.slice none 0 0)]),[(0,27),(5,3),(6,3),(7,3),(8,56)],0,0⟩
theorem ti63:ti Tryz.prog 63=some I63:=by kernel_rfl
theorem zc63:zcells I63=some [.v (str []),.v (.slice none 0 0),.v (.slice none 0 0),.v (.bool false),.v (.slice none 0 0),.v (.int .i64 0),.v (.int .i64 0),.v (.int .i64 0),.v (.slice none 0 0)]:=by kernel_rfl
abbrev I64:TI:=⟨10,1,8,some .nilFunc,[],0,0⟩
theorem ti64:ti Tryz.prog 64=some I64:=by kernel_rfl
theorem zc64:zcells I64=some [.v .nilFunc]:=by kernel_rfl
abbrev I65:TI:=⟨10,1,8,some .nilFunc,[],0,0⟩
theorem ti65:ti Tryz.prog 65=some I65:=by kernel_rfl
theorem zc65:zcells I65=some [.v .nilFunc]:=by kernel_rfl
abbrev I66:TI:=⟨10,1,8,some .nilFunc,[],0,0⟩
theorem ti66:ti Tryz.prog 66=some I66:=by kernel_rfl
theorem zc66:zcells I66=some [.v .nilFunc]:=by kernel_rfl
abbrev I67:TI:=⟨10,1,8,some .nilFunc,[],0,0⟩
theorem ti67:ti Tryz.prog 67=some I67:=by kernel_rfl
theorem zc67:zcells I67=some [.v .nilFunc]:=by kernel_rfl
abbrev I68:TI:=⟨10,1,8,some .nilFunc,[],0,0⟩
theorem ti68:ti Tryz.prog 68=some I68:=by kernel_rfl
theorem zc68:zcells I68=some [.v .nilFunc]:=by kernel_rfl
abbrev I69:TI:=⟨10,1,8,some .nilFunc,[],0,0⟩
theorem ti69:ti Tryz.prog 69=some I69:=by kernel_rfl
theorem zc69:zcells I69=some [.v .nilFunc]:=by kernel_rfl
abbrev I71:TI:=⟨10,1,8,some .nilFunc,[],0,0⟩
theorem ti71:ti Tryz.prog 71=some I71:=by kernel_rfl
theorem zc71:zcells I71=some [.v .nilFunc]:=by kernel_rfl
abbrev I72:TI:=⟨10,1,8,some .nilFunc,[],0,0⟩
theorem ti72:ti Tryz.prog 72=some I72:=by kernel_rfl
theorem zc72:zcells I72=some [.v .nilFunc]:=by kernel_rfl
abbrev I73:TI:=⟨10,1,8,some .nilFunc,[],0,0⟩
theorem ti73:ti Tryz.prog 73=some I73:=by kernel_rfl
theorem zc73:zcells I73=some [.v .nilFunc]:=by kernel_rfl
abbrev I75:TI:=⟨10,1,8,some .nilFunc,[],0,0⟩
theorem ti75:ti Tryz.prog 75=some I75:=by kernel_rfl
theorem zc75:zcells I75=some [.v .nilFunc]:=by kernel_rfl
abbrev I76:TI:=⟨10,1,8,some .nilFunc,[],0,0⟩
theorem ti76:ti Tryz.prog 76=some I76:=by kernel_rfl
theorem zc76:zcells I76=some [.v .nilFunc]:=by kernel_rfl
abbrev I77:TI:=⟨10,1,8,some .nilFunc,[],0,0⟩
theorem ti77:ti Tryz.prog 77=some I77:=by kernel_rfl
theorem zc77:zcells I77=some [.v .nilFunc]:=by kernel_rfl
abbrev I78:TI:=⟨10,1,8,some .nilFunc,[],0,0⟩
theorem ti78:ti Tryz.prog 78=some I78:=by kernel_rfl
theorem zc78:zcells I78=some [.v .nilFunc]:=by kernel_rfl
abbrev I79:TI:=⟨1,3,24,some (.agg #[(.int .i64 0),(.int .i64 0),(.int .i64 0)]),[(0,3),(1,3),(2,28)],0,0⟩
theorem ti79:ti Tryz.prog 79=some I79:=by kernel_rfl
theorem zc79:zcells I79=some [.v (.int .i64 0),.v (.int .i64 0),.v (.int .i64 0)]:=by kernel_rfl
abbrev I80:TI:=⟨1,3,24,some (.agg #[(.int .i64 0),(.int .i64 0),(.int .i64 0)]),[(0,3),(1,3),(2,28)],0,0⟩
theorem ti80:ti Tryz.prog 80=some I80:=by kernel_rfl
theorem zc80:zcells I80=some [.v (.int .i64 0),.v (.int .i64 0),.v (.int .i64 0)]:=by kernel_rfl
abbrev I81:TI:=⟨10,1,8,some .nilFunc,[],0,0⟩
theorem ti81:ti Tryz.prog 81=some I81:=by kernel_rfl
theorem zc81:zcells I81=some [.v .nilFunc]:=by kernel_rfl
abbrev I82:TI:=⟨9,1,16,some .nilIface,[],0,0⟩
theorem ti82:ti Tryz.prog 82=some I82:=by kernel_rfl
theorem zc82:zcells I82=some [.v .nilIface]:=by kernel_rfl
theorem ki82:kindIs Tryz.prog 82 9=true:=by kernel_rfl
abbrev I83:TI:=⟨9,1,16,some .nilIface,[],0,0⟩
theorem ti83:ti Tryz.prog 83=some I83:=by kernel_rfl
theorem zc83:zcells I83=some [.v .nilIface]:=by kernel_rfl
theorem ki83:kindIs Tryz.prog 83 9=true:=by kernel_rfl
abbrev I84:TI:=⟨10,1,8,some .nilFunc,[],0,0⟩
theorem ti84:ti Tryz.prog 84=some I84:=by kernel_rfl
theorem zc84:zcells I84=some [.v .nilFunc]:=by kernel_rfl
abbrev I85:TI:=⟨6,1,8,some (.pointer none),[],80,0⟩
theorem ti85:ti Tryz.prog 85=some I85:=by kernel_rfl
theorem zc85:zcells I85=some [.v (.pointer none)]:=by kernel_rfl
abbrev I87:TI:=⟨10,1,8,some .nilFunc,[],0,0⟩
theorem ti87:ti Tryz.prog 87=some I87:=by kernel_rfl
theorem zc87:zcells I87=some [.v .nilFunc]:=by kernel_rfl
abbrev I88:TI:=⟨10,1,8,some .nilFunc,[],0,0⟩
theorem ti88:ti Tryz.prog 88=some I88:=by kernel_rfl
theorem zc88:zcells I88=some [.v .nilFunc]:=by kernel_rfl
abbrev I89:TI:=⟨10,1,8,some .nilFunc,[],0,0⟩
theorem ti89:ti Tryz.prog 89=some I89:=by kernel_rfl
theorem zc89:zcells I89=some [.v .nilFunc]:=by kernel_rfl
abbrev I90:TI:=⟨10,1,8,some .nilFunc,[],0,0⟩
theorem ti90:ti Tryz.prog 90=some I90:=by kernel_rfl
theorem zc90:zcells I90=some [.v .nilFunc]:=by kernel_rfl
abbrev I92:TI:=⟨10,1,8,some .nilFunc,[],0,0⟩
theorem ti92:ti Tryz.prog 92=some I92:=by kernel_rfl
theorem zc92:zcells I92=some [.v .nilFunc]:=by kernel_rfl
abbrev I94:TI:=⟨10,1,8,some .nilFunc,[],0,0⟩
theorem ti94:ti Tryz.prog 94=some I94:=by kernel_rfl
theorem zc94:zcells I94=some [.v .nilFunc]:=by kernel_rfl
abbrev I96:TI:=⟨10,1,8,some .nilFunc,[],0,0⟩
theorem ti96:ti Tryz.prog 96=some I96:=by kernel_rfl
theorem zc96:zcells I96=some [.v .nilFunc]:=by kernel_rfl
abbrev I98:TI:=⟨8,1,8,some (.int .u64 0),[],0,0⟩
theorem ti98:ti Tryz.prog 98=some I98:=by kernel_rfl
theorem zc98:zcells I98=some [.v (.int .u64 0)]:=by kernel_rfl
theorem it98:intTy Tryz.prog 98=some .u64:=by kernel_rfl
abbrev I99:TI:=⟨1,3,24,some (.agg #[(.pointer none),(.pointer none),(.int .u64 0)]),[(0,17),(1,97),(2,98)],0,0⟩
theorem ti99:ti Tryz.prog 99=some I99:=by kernel_rfl
theorem zc99:zcells I99=some [.v (.pointer none),.v (.pointer none),.v (.int .u64 0)]:=by kernel_rfl
abbrev I100:TI:=⟨1,3,24,some (.agg #[(.pointer none),(.pointer none),(.int .u64 0)]),[(0,17),(1,97),(2,98)],0,0⟩
theorem ti100:ti Tryz.prog 100=some I100:=by kernel_rfl
theorem zc100:zcells I100=some [.v (.pointer none),.v (.pointer none),.v (.int .u64 0)]:=by kernel_rfl
abbrev I101:TI:=⟨10,1,8,some .nilFunc,[],0,0⟩
theorem ti101:ti Tryz.prog 101=some I101:=by kernel_rfl
theorem zc101:zcells I101=some [.v .nilFunc]:=by kernel_rfl
abbrev I102:TI:=⟨9,1,16,some .nilIface,[],0,0⟩
theorem ti102:ti Tryz.prog 102=some I102:=by kernel_rfl
theorem zc102:zcells I102=some [.v .nilIface]:=by kernel_rfl
theorem ki102:kindIs Tryz.prog 102 9=true:=by kernel_rfl
abbrev I103:TI:=⟨9,1,16,some .nilIface,[],0,0⟩
theorem ti103:ti Tryz.prog 103=some I103:=by kernel_rfl
theorem zc103:zcells I103=some [.v .nilIface]:=by kernel_rfl
theorem ki103:kindIs Tryz.prog 103 9=true:=by kernel_rfl
abbrev I104:TI:=⟨10,1,8,some .nilFunc,[],0,0⟩
theorem ti104:ti Tryz.prog 104=some I104:=by kernel_rfl
theorem zc104:zcells I104=some [.v .nilFunc]:=by kernel_rfl
abbrev I105:TI:=⟨8,1,1,some (.int .u8 0),[],0,0⟩
theorem ti105:ti Tryz.prog 105=some I105:=by kernel_rfl
theorem zc105:zcells I105=some [.v (.int .u8 0)]:=by kernel_rfl
theorem it105:intTy Tryz.prog 105=some .u8:=by kernel_rfl
abbrev I106:TI:=⟨10,1,8,some .nilFunc,[],0,0⟩
theorem ti106:ti Tryz.prog 106=some I106:=by kernel_rfl
theorem zc106:zcells I106=some [.v .nilFunc]:=by kernel_rfl
abbrev I107:TI:=⟨10,1,8,some .nilFunc,[],0,0⟩
theorem ti107:ti Tryz.prog 107=some I107:=by kernel_rfl
theorem zc107:zcells I107=some [.v .nilFunc]:=by kernel_rfl
abbrev I108:TI:=⟨10,1,8,some .nilFunc,[],0,0⟩
theorem ti108:ti Tryz.prog 108=some I108:=by kernel_rfl
theorem zc108:zcells I108=some [.v .nilFunc]:=by kernel_rfl
abbrev I109:TI:=⟨10,1,8,some .nilFunc,[],0,0⟩
theorem ti109:ti Tryz.prog 109=some I109:=by kernel_rfl
theorem zc109:zcells I109=some [.v .nilFunc]:=by kernel_rfl
abbrev I111:TI:=⟨10,1,8,some .nilFunc,[],0,0⟩
theorem ti111:ti Tryz.prog 111=some I111:=by kernel_rfl
theorem zc111:zcells I111=some [.v .nilFunc]:=by kernel_rfl
abbrev I113:TI:=⟨10,1,8,some .nilFunc,[],0,0⟩
theorem ti113:ti Tryz.prog 113=some I113:=by kernel_rfl
theorem zc113:zcells I113=some [.v .nilFunc]:=by kernel_rfl
abbrev I114:TI:=⟨10,1,8,some .nilFunc,[],0,0⟩
theorem ti114:ti Tryz.prog 114=some I114:=by kernel_rfl
theorem zc114:zcells I114=some [.v .nilFunc]:=by kernel_rfl
abbrev I115:TI:=⟨10,1,8,some .nilFunc,[],0,0⟩
theorem ti115:ti Tryz.prog 115=some I115:=by kernel_rfl
theorem zc115:zcells I115=some [.v .nilFunc]:=by kernel_rfl
abbrev I116:TI:=⟨1,1,8,some (.agg #[(.pointer none)]),[(0,17)],0,0⟩
theorem ti116:ti Tryz.prog 116=some I116:=by kernel_rfl
theorem zc116:zcells I116=some [.v (.pointer none)]:=by kernel_rfl
abbrev I117:TI:=⟨1,1,8,some (.agg #[(.pointer none)]),[(0,17)],0,0⟩
theorem ti117:ti Tryz.prog 117=some I117:=by kernel_rfl
theorem zc117:zcells I117=some [.v (.pointer none)]:=by kernel_rfl
abbrev I118:TI:=⟨6,1,8,some (.pointer none),[],230,0⟩
theorem ti118:ti Tryz.prog 118=some I118:=by kernel_rfl
theorem zc118:zcells I118=some [.v (.pointer none)]:=by kernel_rfl
abbrev I119:TI:=⟨10,1,8,some .nilFunc,[],0,0⟩
theorem ti119:ti Tryz.prog 119=some I119:=by kernel_rfl
theorem zc119:zcells I119=some [.v .nilFunc]:=by kernel_rfl
abbrev I120:TI:=⟨10,1,8,some .nilFunc,[],0,0⟩
theorem ti120:ti Tryz.prog 120=some I120:=by kernel_rfl
theorem zc120:zcells I120=some [.v .nilFunc]:=by kernel_rfl
abbrev I121:TI:=⟨10,1,8,some .nilFunc,[],0,0⟩
theorem ti121:ti Tryz.prog 121=some I121:=by kernel_rfl
theorem zc121:zcells I121=some [.v .nilFunc]:=by kernel_rfl
abbrev I122:TI:=⟨9,1,16,some .nilIface,[],0,0⟩
theorem ti122:ti Tryz.prog 122=some I122:=by kernel_rfl
theorem zc122:zcells I122=some [.v .nilIface]:=by kernel_rfl
theorem ki122:kindIs Tryz.prog 122 9=true:=by kernel_rfl
abbrev I124:TI:=⟨10,1,8,some .nilFunc,[],0,0⟩
theorem ti124:ti Tryz.prog 124=some I124:=by kernel_rfl
theorem zc124:zcells I124=some [.v .nilFunc]:=by kernel_rfl
abbrev I125:TI:=⟨9,1,16,some .nilIface,[],0,0⟩
theorem ti125:ti Tryz.prog 125=some I125:=by kernel_rfl
theorem zc125:zcells I125=some [.v .nilIface]:=by kernel_rfl
theorem ki125:kindIs Tryz.prog 125 9=true:=by kernel_rfl
abbrev I126:TI:=⟨10,1,8,some .nilFunc,[],0,0⟩
theorem ti126:ti Tryz.prog 126=some I126:=by kernel_rfl
theorem zc126:zcells I126=some [.v .nilFunc]:=by kernel_rfl
abbrev I127:TI:=⟨9,1,16,some .nilIface,[],0,0⟩
theorem ti127:ti Tryz.prog 127=some I127:=by kernel_rfl
theorem zc127:zcells I127=some [.v .nilIface]:=by kernel_rfl
theorem ki127:kindIs Tryz.prog 127 9=true:=by kernel_rfl
abbrev I128:TI:=⟨3,1,24,some (.slice none 0 0),[],83,0⟩
theorem ti128:ti Tryz.prog 128=some I128:=by kernel_rfl
theorem zc128:zcells I128=some [.v (.slice none 0 0)]:=by kernel_rfl
theorem ki128:kindIs Tryz.prog 128 3=true:=by kernel_rfl
abbrev I129:TI:=⟨10,1,8,some .nilFunc,[],0,0⟩
theorem ti129:ti Tryz.prog 129=some I129:=by kernel_rfl
theorem zc129:zcells I129=some [.v .nilFunc]:=by kernel_rfl
abbrev I130:TI:=⟨10,1,8,some .nilFunc,[],0,0⟩
theorem ti130:ti Tryz.prog 130=some I130:=by kernel_rfl
theorem zc130:zcells I130=some [.v .nilFunc]:=by kernel_rfl
abbrev I131:TI:=⟨2,3,24,some (.agg #[(.int .i64 0),(.int .i64 0),(.int .i64 0)]),[],3,3⟩
theorem ti131:ti Tryz.prog 131=some I131:=by kernel_rfl
theorem zc131:zcells I131=some [.v (.int .i64 0),.v (.int .i64 0),.v (.int .i64 0)]:=by kernel_rfl
abbrev I132:TI:=⟨5,1,8,some (.map none),[],3,9⟩
theorem ti132:ti Tryz.prog 132=some I132:=by kernel_rfl
theorem zc132:zcells I132=some [.v (.map none)]:=by kernel_rfl
abbrev I133:TI:=⟨10,1,8,some .nilFunc,[],0,0⟩
theorem ti133:ti Tryz.prog 133=some I133:=by kernel_rfl
theorem zc133:zcells I133=some [.v .nilFunc]:=by kernel_rfl
abbrev I134:TI:=⟨10,1,8,some .nilFunc,[],0,0⟩
theorem ti134:ti Tryz.prog 134=some I134:=by kernel_rfl
theorem zc134:zcells I134=some [.v .nilFunc]:=by kernel_rfl
abbrev I135:TI:=⟨10,1,8,some .nilFunc,[],0,0⟩
theorem ti135:ti Tryz.prog 135=some I135:=by kernel_rfl
theorem zc135:zcells I135=some [.v .nilFunc]:=by kernel_rfl
abbrev I136:TI:=⟨10,1,8,some .nilFunc,[],0,0⟩
theorem ti136:ti Tryz.prog 136=some I136:=by kernel_rfl
theorem zc136:zcells I136=some [.v .nilFunc]:=by kernel_rfl
abbrev I137:TI:=⟨10,1,8,some .nilFunc,[],0,0⟩
theorem ti137:ti Tryz.prog 137=some I137:=by kernel_rfl
theorem zc137:zcells I137=some [.v .nilFunc]:=by kernel_rfl
abbrev I138:TI:=⟨10,1,8,some .nilFunc,[],0,0⟩
theorem ti138:ti Tryz.prog 138=some I138:=by kernel_rfl
theorem zc138:zcells I138=some [.v .nilFunc]:=by kernel_rfl
abbrev I140:TI:=⟨10,1,8,some .nilFunc,[],0,0⟩
theorem ti140:ti Tryz.prog 140=some I140:=by kernel_rfl
theorem zc140:zcells I140=some [.v .nilFunc]:=by kernel_rfl
abbrev I141:TI:=⟨10,1,8,some .nilFunc,[],0,0⟩
theorem ti141:ti Tryz.prog 141=some I141:=by kernel_rfl
theorem zc141:zcells I141=some [.v .nilFunc]:=by kernel_rfl
abbrev I142:TI:=⟨10,1,8,some .nilFunc,[],0,0⟩
theorem ti142:ti Tryz.prog 142=some I142:=by kernel_rfl
theorem zc142:zcells I142=some [.v .nilFunc]:=by kernel_rfl
abbrev I143:TI:=⟨9,1,16,some .nilIface,[],0,0⟩
theorem ti143:ti Tryz.prog 143=some I143:=by kernel_rfl
theorem zc143:zcells I143=some [.v .nilIface]:=by kernel_rfl
theorem ki143:kindIs Tryz.prog 143 9=true:=by kernel_rfl
abbrev I144:TI:=⟨9,1,16,some .nilIface,[],0,0⟩
theorem ti144:ti Tryz.prog 144=some I144:=by kernel_rfl
theorem zc144:zcells I144=some [.v .nilIface]:=by kernel_rfl
theorem ki144:kindIs Tryz.prog 144 9=true:=by kernel_rfl
abbrev I145:TI:=⟨10,1,8,some .nilFunc,[],0,0⟩
theorem ti145:ti Tryz.prog 145=some I145:=by kernel_rfl
theorem zc145:zcells I145=some [.v .nilFunc]:=by kernel_rfl
abbrev I146:TI:=⟨10,1,8,some .nilFunc,[],0,0⟩
theorem ti146:ti Tryz.prog 146=some I146:=by kernel_rfl
theorem zc146:zcells I146=some [.v .nilFunc]:=by kernel_rfl
abbrev I147:TI:=⟨10,1,8,some .nilFunc,[],0,0⟩
theorem ti147:ti Tryz.prog 147=some I147:=by kernel_rfl
theorem zc147:zcells I147=some [.v .nilFunc]:=by kernel_rfl
abbrev I148:TI:=⟨10,1,8,some .nilFunc,[],0,0⟩
theorem ti148:ti Tryz.prog 148=some I148:=by kernel_rfl
theorem zc148:zcells I148=some [.v .nilFunc]:=by kernel_rfl
abbrev I149:TI:=⟨8,1,8,some (.int .u64 0),[],0,0⟩
theorem ti149:ti Tryz.prog 149=some I149:=by kernel_rfl
theorem zc149:zcells I149=some [.v (.int .u64 0)]:=by kernel_rfl
theorem it149:intTy Tryz.prog 149=some .u64:=by kernel_rfl
abbrev I150:TI:=⟨10,1,8,some .nilFunc,[],0,0⟩
theorem ti150:ti Tryz.prog 150=some I150:=by kernel_rfl
theorem zc150:zcells I150=some [.v .nilFunc]:=by kernel_rfl
abbrev I151:TI:=⟨10,1,8,some .nilFunc,[],0,0⟩
theorem ti151:ti Tryz.prog 151=some I151:=by kernel_rfl
theorem zc151:zcells I151=some [.v .nilFunc]:=by kernel_rfl
abbrev I152:TI:=⟨10,1,8,some .nilFunc,[],0,0⟩
theorem ti152:ti Tryz.prog 152=some I152:=by kernel_rfl
theorem zc152:zcells I152=some [.v .nilFunc]:=by kernel_rfl
abbrev I153:TI:=⟨8,1,8,some (.int .i64 0),[],0,0⟩
theorem ti153:ti Tryz.prog 153=some I153:=by kernel_rfl
theorem zc153:zcells I153=some [.v (.int .i64 0)]:=by kernel_rfl
theorem it153:intTy Tryz.prog 153=some .i64:=by kernel_rfl
abbrev I155:TI:=⟨10,1,8,some .nilFunc,[],0,0⟩
theorem ti155:ti Tryz.prog 155=some I155:=by kernel_rfl
theorem zc155:zcells I155=some [.v .nilFunc]:=by kernel_rfl
abbrev I156:TI:=⟨6,1,8,some (.pointer none),[],176,0⟩
theorem ti156:ti Tryz.prog 156=some I156:=by kernel_rfl
theorem zc156:zcells I156=some [.v (.pointer none)]:=by kernel_rfl
abbrev I157:TI:=⟨10,1,8,some .nilFunc,[],0,0⟩
theorem ti157:ti Tryz.prog 157=some I157:=by kernel_rfl
theorem zc157:zcells I157=some [.v .nilFunc]:=by kernel_rfl
abbrev I158:TI:=⟨10,1,8,some .nilFunc,[],0,0⟩
theorem ti158:ti Tryz.prog 158=some I158:=by kernel_rfl
theorem zc158:zcells I158=some [.v .nilFunc]:=by kernel_rfl
abbrev I159:TI:=⟨1,5,64,some (.agg #[(.int .i64 0),(str []),(str []),(str []),(.int .i64 0)]),[(0,50)],0,0⟩
theorem ti159:ti Tryz.prog 159=some I159:=by kernel_rfl
theorem zc159:zcells I159=some [.v (.int .i64 0),.v (str []),.v (str []),.v (str []),.v (.int .i64 0)]:=by kernel_rfl
abbrev I160:TI:=⟨1,5,64,some (.agg #[(.int .i64 0),(str []),(str []),(str []),(.int .i64 0)]),[(0,50)],0,0⟩
theorem ti160:ti Tryz.prog 160=some I160:=by kernel_rfl
theorem zc160:zcells I160=some [.v (.int .i64 0),.v (str []),.v (str []),.v (str []),.v (.int .i64 0)]:=by kernel_rfl
abbrev I161:TI:=⟨1,5,64,some (.agg #[(.int .i64 0),(str []),(str []),(str []),(.int .i64 0)]),[(0,160)],0,0⟩
theorem ti161:ti Tryz.prog 161=some I161:=by kernel_rfl
theorem zc161:zcells I161=some [.v (.int .i64 0),.v (str []),.v (str []),.v (str []),.v (.int .i64 0)]:=by kernel_rfl
abbrev I162:TI:=⟨1,5,64,some (.agg #[(.int .i64 0),(str []),(str []),(str []),(.int .i64 0)]),[(0,160)],0,0⟩
theorem ti162:ti Tryz.prog 162=some I162:=by kernel_rfl
theorem zc162:zcells I162=some [.v (.int .i64 0),.v (str []),.v (str []),.v (str []),.v (.int .i64 0)]:=by kernel_rfl
abbrev I163:TI:=⟨1,5,64,some (.agg #[(.int .i64 0),(str []),(str []),(str []),(.int .i64 0)]),[(0,160)],0,0⟩
theorem ti163:ti Tryz.prog 163=some I163:=by kernel_rfl
theorem zc163:zcells I163=some [.v (.int .i64 0),.v (str []),.v (str []),.v (str []),.v (.int .i64 0)]:=by kernel_rfl
abbrev I164:TI:=⟨1,5,64,some (.agg #[(.int .i64 0),(str []),(str []),(str []),(.int .i64 0)]),[(0,160)],0,0⟩
theorem ti164:ti Tryz.prog 164=some I164:=by kernel_rfl
theorem zc164:zcells I164=some [.v (.int .i64 0),.v (str []),.v (str []),.v (str []),.v (.int .i64 0)]:=by kernel_rfl
abbrev I165:TI:=⟨8,1,4,some (.int .u32 0),[],0,0⟩
theorem ti165:ti Tryz.prog 165=some I165:=by kernel_rfl
theorem zc165:zcells I165=some [.v (.int .u32 0)]:=by kernel_rfl
theorem it165:intTy Tryz.prog 165=some .u32:=by kernel_rfl
abbrev I167:TI:=⟨10,1,8,some .nilFunc,[],0,0⟩
theorem ti167:ti Tryz.prog 167=some I167:=by kernel_rfl
theorem zc167:zcells I167=some [.v .nilFunc]:=by kernel_rfl
abbrev I168:TI:=⟨10,1,8,some .nilFunc,[],0,0⟩
theorem ti168:ti Tryz.prog 168=some I168:=by kernel_rfl
theorem zc168:zcells I168=some [.v .nilFunc]:=by kernel_rfl
abbrev I169:TI:=⟨10,1,8,some .nilFunc,[],0,0⟩
theorem ti169:ti Tryz.prog 169=some I169:=by kernel_rfl
theorem zc169:zcells I169=some [.v .nilFunc]:=by kernel_rfl
abbrev I170:TI:=⟨10,1,8,some .nilFunc,[],0,0⟩
theorem ti170:ti Tryz.prog 170=some I170:=by kernel_rfl
theorem zc170:zcells I170=some [.v .nilFunc]:=by kernel_rfl
abbrev I171:TI:=⟨10,1,8,some .nilFunc,[],0,0⟩
theorem ti171:ti Tryz.prog 171=some I171:=by kernel_rfl
theorem zc171:zcells I171=some [.v .nilFunc]:=by kernel_rfl
abbrev I172:TI:=⟨8,1,8,some (.int .u64 0),[],0,0⟩
theorem ti172:ti Tryz.prog 172=some I172:=by kernel_rfl
theorem zc172:zcells I172=some [.v (.int .u64 0)]:=by kernel_rfl
theorem it172:intTy Tryz.prog 172=some .u64:=by kernel_rfl
abbrev I174:TI:=⟨10,1,8,some .nilFunc,[],0,0⟩
theorem ti174:ti Tryz.prog 174=some I174:=by kernel_rfl
theorem zc174:zcells I174=some [.v .nilFunc]:=by kernel_rfl
abbrev I175:TI:=⟨1,3,48,some (.agg #[(str []),(str []),.nilIface]),[(0,9),(1,9),(2,83)],0,0⟩
theorem ti175:ti Tryz.prog 175=some I175:=by kernel_rfl
theorem zc175:zcells I175=some [.v (str []),.v (str []),.v .nilIface]:=by kernel_rfl
abbrev I176:TI:=⟨1,3,48,some (.agg #[(str []),(str []),.nilIface]),[(0,9),(1,9),(2,83)],0,0⟩
theorem ti176:ti Tryz.prog 176=some I176:=by kernel_rfl
theorem zc176:zcells I176=some [.v (str []),.v (str []),.v .nilIface]:=by kernel_rfl
abbrev I177:TI:=⟨10,1,8,some .nilFunc,[],0,0⟩
theorem ti177:ti Tryz.prog 177=some I177:=by kernel_rfl
theorem zc177:zcells I177=some [.v .nilFunc]:=by kernel_rfl
abbrev I178:TI:=⟨10,1,8,some .nilFunc,[],0,0⟩
theorem ti178:ti Tryz.prog 178=some I178:=by kernel_rfl
theorem zc178:zcells I178=some [.v .nilFunc]:=by kernel_rfl
abbrev I179:TI:=⟨10,1,8,some .nilFunc,[],0,0⟩
theorem ti179:ti Tryz.prog 179=some I179:=by kernel_rfl
theorem zc179:zcells I179=some [.v .nilFunc]:=by kernel_rfl
abbrev I180:TI:=⟨8,1,8,some (.int .i64 0),[],0,0⟩
theorem ti180:ti Tryz.prog 180=some I180:=by kernel_rfl
theorem zc180:zcells I180=some [.v (.int .i64 0)]:=by kernel_rfl
theorem it180:intTy Tryz.prog 180=some .i64:=by kernel_rfl
abbrev I182:TI:=⟨10,1,8,some .nilFunc,[],0,0⟩
theorem ti182:ti Tryz.prog 182=some I182:=by kernel_rfl
theorem zc182:zcells I182=some [.v .nilFunc]:=by kernel_rfl
abbrev I183:TI:=⟨10,1,8,some .nilFunc,[],0,0⟩
theorem ti183:ti Tryz.prog 183=some I183:=by kernel_rfl
theorem zc183:zcells I183=some [.v .nilFunc]:=by kernel_rfl
abbrev I184:TI:=⟨10,1,8,some .nilFunc,[],0,0⟩
theorem ti184:ti Tryz.prog 184=some I184:=by kernel_rfl
theorem zc184:zcells I184=some [.v .nilFunc]:=by kernel_rfl
abbrev I185:TI:=⟨10,1,8,some .nilFunc,[],0,0⟩
theorem ti185:ti Tryz.prog 185=some I185:=by kernel_rfl
theorem zc185:zcells I185=some [.v .nilFunc]:=by kernel_rfl
abbrev I186:TI:=⟨10,1,8,some .nilFunc,[],0,0⟩
theorem ti186:ti Tryz.prog 186=some I186:=by kernel_rfl
theorem zc186:zcells I186=some [.v .nilFunc]:=by kernel_rfl
abbrev I187:TI:=⟨10,1,8,some .nilFunc,[],0,0⟩
theorem ti187:ti Tryz.prog 187=some I187:=by kernel_rfl
theorem zc187:zcells I187=some [.v .nilFunc]:=by kernel_rfl
abbrev I188:TI:=⟨10,1,8,some .nilFunc,[],0,0⟩
theorem ti188:ti Tryz.prog 188=some I188:=by kernel_rfl
theorem zc188:zcells I188=some [.v .nilFunc]:=by kernel_rfl
abbrev I189:TI:=⟨6,1,8,some (.pointer none),[],5,0⟩
theorem ti189:ti Tryz.prog 189=some I189:=by kernel_rfl
theorem zc189:zcells I189=some [.v (.pointer none)]:=by kernel_rfl
abbrev I190:TI:=⟨6,1,8,some (.pointer none),[],192,0⟩
theorem ti190:ti Tryz.prog 190=some I190:=by kernel_rfl
theorem zc190:zcells I190=some [.v (.pointer none)]:=by kernel_rfl
abbrev I191:TI:=⟨1,1,16,some (.agg #[(str [])]),[(0,9)],0,0⟩
theorem ti191:ti Tryz.prog 191=some I191:=by kernel_rfl
theorem zc191:zcells I191=some [.v (str [])]:=by kernel_rfl
abbrev I192:TI:=⟨1,1,16,some (.agg #[(str [])]),[(0,9)],0,0⟩
theorem ti192:ti Tryz.prog 192=some I192:=by kernel_rfl
theorem zc192:zcells I192=some [.v (str [])]:=by kernel_rfl
abbrev I193:TI:=⟨8,1,8,some (.int .u64 0),[],0,0⟩
theorem ti193:ti Tryz.prog 193=some I193:=by kernel_rfl
theorem zc193:zcells I193=some [.v (.int .u64 0)]:=by kernel_rfl
theorem it193:intTy Tryz.prog 193=some .u64:=by kernel_rfl
abbrev I194:TI:=⟨10,1,8,some .nilFunc,[],0,0⟩
theorem ti194:ti Tryz.prog 194=some I194:=by kernel_rfl
theorem zc194:zcells I194=some [.v .nilFunc]:=by kernel_rfl
abbrev I195:TI:=⟨10,1,8,some .nilFunc,[],0,0⟩
theorem ti195:ti Tryz.prog 195=some I195:=by kernel_rfl
theorem zc195:zcells I195=some [.v .nilFunc]:=by kernel_rfl
abbrev I196:TI:=⟨10,1,8,some .nilFunc,[],0,0⟩
theorem ti196:ti Tryz.prog 196=some I196:=by kernel_rfl
theorem zc196:zcells I196=some [.v .nilFunc]:=by kernel_rfl
abbrev I197:TI:=⟨6,1,8,some (.pointer none),[],3,0⟩
theorem ti197:ti Tryz.prog 197=some I197:=by kernel_rfl
theorem zc197:zcells I197=some [.v (.pointer none)]:=by kernel_rfl
abbrev I198:TI:=⟨10,1,8,some .nilFunc,[],0,0⟩
theorem ti198:ti Tryz.prog 198=some I198:=by kernel_rfl
theorem zc198:zcells I198=some [.v .nilFunc]:=by kernel_rfl
abbrev I199:TI:=⟨10,1,8,some .nilFunc,[],0,0⟩
theorem ti199:ti Tryz.prog 199=some I199:=by kernel_rfl
theorem zc199:zcells I199=some [.v .nilFunc]:=by kernel_rfl
abbrev I200:TI:=⟨6,1,8,some (.pointer none),[],193,0⟩
theorem ti200:ti Tryz.prog 200=some I200:=by kernel_rfl
theorem zc200:zcells I200=some [.v (.pointer none)]:=by kernel_rfl
abbrev I202:TI:=⟨10,1,8,some .nilFunc,[],0,0⟩
theorem ti202:ti Tryz.prog 202=some I202:=by kernel_rfl
theorem zc202:zcells I202=some [.v .nilFunc]:=by kernel_rfl
abbrev I203:TI:=⟨2,24,24,some (.agg #[(.int .u8 0),(.int .u8 0),(.int .u8 0),(.int .u8 0),(.int .u8 0),(.int .u8 0),(.int .u8 0),(.int .u8 0),(.int .u8 0),(.int .u8 0),(.int .u8 0),(.int .u8 0),(.int .u8 0),(.int .u8 0),(.int .u8 0),(.int .u8 0),(.int .u8 0),(.int .u8 0),(.int .u8 0),(.int .u8 0),(.int .u8 0),(.int .u8 0),(.int .u8 0),(.int .u8 0)]),[],5,24⟩
theorem ti203:ti Tryz.prog 203=some I203:=by kernel_rfl
theorem zc203:zcells I203=some [.v (.int .u8 0),.v (.int .u8 0),.v (.int .u8 0),.v (.int .u8 0),.v (.int .u8 0),.v (.int .u8 0),.v (.int .u8 0),.v (.int .u8 0),.v (.int .u8 0),.v (.int .u8 0),.v (.int .u8 0),.v (.int .u8 0),.v (.int .u8 0),.v (.int .u8 0),.v (.int .u8 0),.v (.int .u8 0),.v (.int .u8 0),.v (.int .u8 0),.v (.int .u8 0),.v (.int .u8 0),.v (.int .u8 0),.v (.int .u8 0),.v (.int .u8 0),.v (.int .u8 0)]:=by kernel_rfl
abbrev I204:TI:=⟨10,1,8,some .nilFunc,[],0,0⟩
theorem ti204:ti Tryz.prog 204=some I204:=by kernel_rfl
theorem zc204:zcells I204=some [.v .nilFunc]:=by kernel_rfl
abbrev I206:TI:=⟨10,1,8,some .nilFunc,[],0,0⟩
theorem ti206:ti Tryz.prog 206=some I206:=by kernel_rfl
theorem zc206:zcells I206=some [.v .nilFunc]:=by kernel_rfl
abbrev I207:TI:=⟨10,1,8,some .nilFunc,[],0,0⟩
theorem ti207:ti Tryz.prog 207=some I207:=by kernel_rfl
theorem zc207:zcells I207=some [.v .nilFunc]:=by kernel_rfl
abbrev I208:TI:=⟨2,20,160,some (.agg #[(.int .u64 0),(.int .u64 0),(.int .u64 0),(.int .u64 0),(.int .u64 0),(.int .u64 0),(.int .u64 0),(.int .u64 0),(.int .u64 0),(.int .u64 0),(.int .u64 0),(.int .u64 0),(.int .u64 0),(.int .u64 0),(.int .u64 0),(.int .u64 0),(.int .u64 0),(.int .u64 0),(.int .u64 0),(.int .u64 0)]),[],172,20⟩
theorem ti208:ti Tryz.prog 208=some I208:=by kernel_rfl
theorem zc208:zcells I208=some [.v (.int .u64 0),.v (.int .u64 0),.v (.int .u64 0),.v (.int .u64 0),.v (.int .u64 0),.v (.int .u64 0),.v (.int .u64 0),.v (.int .u64 0),.v (.int .u64 0),.v (.int .u64 0),.v (.int .u64 0),.v (.int .u64 0),.v (.int .u64 0),.v (.int .u64 0),.v (.int .u64 0),.v (.int .u64 0),.v (.int .u64 0),.v (.int .u64 0),.v (.int .u64 0),.v (.int .u64 0)]:=by kernel_rfl
abbrev I210:TI:=⟨10,1,8,some .nilFunc,[],0,0⟩
theorem ti210:ti Tryz.prog 210=some I210:=by kernel_rfl
theorem zc210:zcells I210=some [.v .nilFunc]:=by kernel_rfl
abbrev I211:TI:=⟨2,32,32,some (.agg #[(.int .u8 0),(.int .u8 0),(.int .u8 0),(.int .u8 0),(.int .u8 0),(.int .u8 0),(.int .u8 0),(.int .u8 0),(.int .u8 0),(.int .u8 0),(.int .u8 0),(.int .u8 0),(.int .u8 0),(.int .u8 0),(.int .u8 0),(.int .u8 0),(.int .u8 0),(.int .u8 0),(.int .u8 0),(.int .u8 0),(.int .u8 0),(.int .u8 0),(.int .u8 0),(.int .u8 0),(.int .u8 0),(.int .u8 0),(.int .u8 0),(.int .u8 0),(.int .u8 0),(.int .u8 0),(.int .u8 0),(.int .u8 0)]),[],5,32⟩
theorem ti211:ti Tryz.prog 211=some I211:=by kernel_rfl
theorem zc211:zcells I211=some [.v (.int .u8 0),.v (.int .u8 0),.v (.int .u8 0),.v (.int .u8 0),.v (.int .u8 0),.v (.int .u8 0),.v (.int .u8 0),.v (.int .u8 0),.v (.int .u8 0),.v (.int .u8 0),.v (.int .u8 0),.v (.int .u8 0),.v (.int .u8 0),.v (.int .u8 0),.v (.int .u8 0),.v (.int .u8 0),.v (.int .u8 0),.v (.int .u8 0),.v (.int .u8 0),.v (.int .u8 0),.v (.int .u8 0),.v (.int .u8 0),.v (.int .u8 0),.v (.int .u8 0),.v (.int .u8 0),.v (.int .u8 0),.v (.int .u8 0),.v (.int .u8 0),.v (.int .u8 0),.v (.int .u8 0),.v (.int .u8 0),.v (.int .u8 0)]:=by kernel_rfl
abbrev I213:TI:=⟨10,1,8,some .nilFunc,[],0,0⟩
theorem ti213:ti Tryz.prog 213=some I213:=by kernel_rfl
theorem zc213:zcells I213=some [.v .nilFunc]:=by kernel_rfl
abbrev I214:TI:=⟨1,4,40,some (.agg #[(.pointer none),(.pointer none),(.pointer none),(str [])]),[(0,17),(1,17),(2,17),(3,9)],0,0⟩
theorem ti214:ti Tryz.prog 214=some I214:=by kernel_rfl
theorem zc214:zcells I214=some [.v (.pointer none),.v (.pointer none),.v (.pointer none),.v (str [])]:=by kernel_rfl
abbrev I215:TI:=⟨1,4,40,some (.agg #[(.pointer none),(.pointer none),(.pointer none),(str [])]),[(0,17),(1,17),(2,17),(3,9)],0,0⟩
theorem ti215:ti Tryz.prog 215=some I215:=by kernel_rfl
theorem zc215:zcells I215=some [.v (.pointer none),.v (.pointer none),.v (.pointer none),.v (str [])]:=by kernel_rfl
abbrev I216:TI:=⟨2,0,0,some (.agg #[]),[],16,0⟩
theorem ti216:ti Tryz.prog 216=some I216:=by kernel_rfl
theorem zc216:zcells I216=some []:=by kernel_rfl
abbrev I217:TI:=⟨1,0,0,some (.agg #[]),[(0,216)],0,0⟩
theorem ti217:ti Tryz.prog 217=some I217:=by kernel_rfl
theorem zc217:zcells I217=some []:=by kernel_rfl
abbrev I218:TI:=⟨1,0,0,some (.agg #[]),[(0,216)],0,0⟩
theorem ti218:ti Tryz.prog 218=some I218:=by kernel_rfl
theorem zc218:zcells I218=some []:=by kernel_rfl
abbrev I219:TI:=⟨10,1,8,some .nilFunc,[],0,0⟩
theorem ti219:ti Tryz.prog 219=some I219:=by kernel_rfl
theorem zc219:zcells I219=some [.v .nilFunc]:=by kernel_rfl
abbrev I220:TI:=⟨10,1,8,some .nilFunc,[],0,0⟩
theorem ti220:ti Tryz.prog 220=some I220:=by kernel_rfl
theorem zc220:zcells I220=some [.v .nilFunc]:=by kernel_rfl
abbrev I221:TI:=⟨8,1,1,some (.int .u8 0),[],0,0⟩
theorem ti221:ti Tryz.prog 221=some I221:=by kernel_rfl
theorem zc221:zcells I221=some [.v (.int .u8 0)]:=by kernel_rfl
theorem it221:intTy Tryz.prog 221=some .u8:=by kernel_rfl
abbrev I222:TI:=⟨10,1,8,some .nilFunc,[],0,0⟩
theorem ti222:ti Tryz.prog 222=some I222:=by kernel_rfl
theorem zc222:zcells I222=some [.v .nilFunc]:=by kernel_rfl
abbrev I223:TI:=⟨8,1,4,some (.int .i32 0),[],0,0⟩
theorem ti223:ti Tryz.prog 223=some I223:=by kernel_rfl
theorem zc223:zcells I223=some [.v (.int .i32 0)]:=by kernel_rfl
theorem it223:intTy Tryz.prog 223=some .i32:=by kernel_rfl
abbrev I224:TI:=⟨8,1,4,some (.int .i32 0),[],0,0⟩
theorem ti224:ti Tryz.prog 224=some I224:=by kernel_rfl
theorem zc224:zcells I224=some [.v (.int .i32 0)]:=by kernel_rfl
theorem it224:intTy Tryz.prog 224=some .i32:=by kernel_rfl
abbrev I225:TI:=⟨1,11,48,some (.agg #[(.int .u64 0),(.int .u64 0),(.int .u32 0),(.int .u8 0),(.int .u8 0),(.int .u8 0),(.int .u8 0),.nilFunc,(.pointer none),(.int .i32 0),(.int .i32 0)]),[(0,12),(1,12),(2,165),(3,221),(4,5),(5,5),(6,105),(7,222),(8,189),(9,223),(10,224)],0,0⟩
theorem ti225:ti Tryz.prog 225=some I225:=by kernel_rfl
theorem zc225:zcells I225=some [.v (.int .u64 0),.v (.int .u64 0),.v (.int .u32 0),.v (.int .u8 0),.v (.int .u8 0),.v (.int .u8 0),.v (.int .u8 0),.v .nilFunc,.v (.pointer none),.v (.int .i32 0),.v (.int .i32 0)]:=by kernel_rfl
abbrev I226:TI:=⟨1,11,48,some (.agg #[(.int .u64 0),(.int .u64 0),(.int .u32 0),(.int .u8 0),(.int .u8 0),(.int .u8 0),(.int .u8 0),.nilFunc,(.pointer none),(.int .i32 0),(.int .i32 0)]),[(0,12),(1,12),(2,165),(3,221),(4,5),(5,5),(6,105),(7,222),(8,189),(9,223),(10,224)],0,0⟩
theorem ti226:ti Tryz.prog 226=some I226:=by kernel_rfl
theorem zc226:zcells I226=some [.v (.int .u64 0),.v (.int .u64 0),.v (.int .u32 0),.v (.int .u8 0),.v (.int .u8 0),.v (.int .u8 0),.v (.int .u8 0),.v .nilFunc,.v (.pointer none),.v (.int .i32 0),.v (.int .i32 0)]:=by kernel_rfl
abbrev I227:TI:=⟨10,1,8,some .nilFunc,[],0,0⟩
theorem ti227:ti Tryz.prog 227=some I227:=by kernel_rfl
theorem zc227:zcells I227=some [.v .nilFunc]:=by kernel_rfl
abbrev I228:TI:=⟨10,1,8,some .nilFunc,[],0,0⟩
theorem ti228:ti Tryz.prog 228=some I228:=by kernel_rfl
theorem zc228:zcells I228=some [.v .nilFunc]:=by kernel_rfl
abbrev I229:TI:=⟨1,2,24,some (.agg #[(str []),(.int .u8 0)]),[(0,9),(1,105)],0,0⟩
theorem ti229:ti Tryz.prog 229=some I229:=by kernel_rfl
theorem zc229:zcells I229=some [.v (str []),.v (.int .u8 0)]:=by kernel_rfl
abbrev I230:TI:=⟨1,2,24,some (.agg #[(str []),(.int .u8 0)]),[(0,9),(1,105)],0,0⟩
theorem ti230:ti Tryz.prog 230=some I230:=by kernel_rfl
theorem zc230:zcells I230=some [.v (str []),.v (.int .u8 0)]:=by kernel_rfl
abbrev I231:TI:=⟨10,1,8,some .nilFunc,[],0,0⟩
theorem ti231:ti Tryz.prog 231=some I231:=by kernel_rfl
theorem zc231:zcells I231=some [.v .nilFunc]:=by kernel_rfl
abbrev I232:TI:=⟨6,1,8,some (.pointer none),[],236,0⟩
theorem ti232:ti Tryz.prog 232=some I232:=by kernel_rfl
theorem zc232:zcells I232=some [.v (.pointer none)]:=by kernel_rfl
abbrev I233:TI:=⟨10,1,8,some .nilFunc,[],0,0⟩
theorem ti233:ti Tryz.prog 233=some I233:=by kernel_rfl
theorem zc233:zcells I233=some [.v .nilFunc]:=by kernel_rfl
abbrev I234:TI:=⟨8,1,2,some (.int .u16 0),[],0,0⟩
theorem ti234:ti Tryz.prog 234=some I234:=by kernel_rfl
theorem zc234:zcells I234=some [.v (.int .u16 0)]:=by kernel_rfl
theorem it234:intTy Tryz.prog 234=some .u16:=by kernel_rfl
abbrev I235:TI:=⟨1,5,16,some (.agg #[(.int .i32 0),(.int .u16 0),(.int .u16 0),(.int .u32 0),(.int .u32 0)]),[(0,223),(1,234),(2,234),(3,165),(4,165)],0,0⟩
theorem ti235:ti Tryz.prog 235=some I235:=by kernel_rfl
theorem zc235:zcells I235=some [.v (.int .i32 0),.v (.int .u16 0),.v (.int .u16 0),.v (.int .u32 0),.v (.int .u32 0)]:=by kernel_rfl
abbrev I236:TI:=⟨1,5,16,some (.agg #[(.int .i32 0),(.int .u16 0),(.int .u16 0),(.int .u32 0),(.int .u32 0)]),[(0,223),(1,234),(2,234),(3,165),(4,165)],0,0⟩
theorem ti236:ti Tryz.prog 236=some I236:=by kernel_rfl
theorem zc236:zcells I236=some [.v (.int .i32 0),.v (.int .u16 0),.v (.int .u16 0),.v (.int .u32 0),.v (.int .u32 0)]:=by kernel_rfl
abbrev I237:TI:=⟨3,1,24,some (.slice none 0 0),[],240,0⟩
theorem ti237:ti Tryz.prog 237=some I237:=by kernel_rfl
theorem zc237:zcells I237=some [.v (.slice none 0 0)]:=by kernel_rfl
theorem ki237:kindIs Tryz.prog 237 3=true:=by kernel_rfl
abbrev I238:TI:=⟨8,1,4,some (.int .i32 0),[],0,0⟩
theorem ti238:ti Tryz.prog 238=some I238:=by kernel_rfl
theorem zc238:zcells I238=some [.v (.int .i32 0)]:=by kernel_rfl
theorem it238:intTy Tryz.prog 238=some .i32:=by kernel_rfl
abbrev I239:TI:=⟨1,4,16,some (.agg #[(.int .i32 0),(.int .i32 0),(.int .i32 0),(.int .i32 0)]),[(0,223),(1,224),(2,238),(3,238)],0,0⟩
theorem ti239:ti Tryz.prog 239=some I239:=by kernel_rfl
theorem zc239:zcells I239=some [.v (.int .i32 0),.v (.int .i32 0),.v (.int .i32 0),.v (.int .i32 0)]:=by kernel_rfl
abbrev I240:TI:=⟨1,4,16,some (.agg #[(.int .i32 0),(.int .i32 0),(.int .i32 0),(.int .i32 0)]),[(0,223),(1,224),(2,238),(3,238)],0,0⟩
theorem ti240:ti Tryz.prog 240=some I240:=by kernel_rfl
theorem zc240:zcells I240=some [.v (.int .i32 0),.v (.int .i32 0),.v (.int .i32 0),.v (.int .i32 0)]:=by kernel_rfl
abbrev I241:TI:=⟨6,1,8,some (.pointer none),[],83,0⟩
theorem ti241:ti Tryz.prog 241=some I241:=by kernel_rfl
theorem zc241:zcells I241=some [.v (.pointer none)]:=by kernel_rfl
theorem fl7_0:fldAt Tryz.prog 7 0=some (0,I2):=by kernel_rfl
theorem fl7_1:fldAt Tryz.prog 7 1=some (1,I3):=by kernel_rfl
theorem fl7_2:fldAt Tryz.prog 7 2=some (2,I4):=by kernel_rfl
theorem fl7_3:fldAt Tryz.prog 7 3=some (3,I6):=by kernel_rfl
theorem fl8_0:fldAt Tryz.prog 8 0=some (0,I2):=by kernel_rfl
theorem fl8_1:fldAt Tryz.prog 8 1=some (1,I3):=by kernel_rfl
theorem fl8_2:fldAt Tryz.prog 8 2=some (2,I4):=by kernel_rfl
theorem fl8_3:fldAt Tryz.prog 8 3=some (3,I6):=by kernel_rfl
theorem fl13_0:fldAt Tryz.prog 13 0=some (0,I9):=by kernel_rfl
theorem fl13_1:fldAt Tryz.prog 13 1=some (1,I12):=by kernel_rfl
theorem fl14_0:fldAt Tryz.prog 14 0=some (0,I9):=by kernel_rfl
theorem fl14_1:fldAt Tryz.prog 14 1=some (1,I12):=by kernel_rfl
theorem fl18_0:fldAt Tryz.prog 18 0=some (0,I17):=by kernel_rfl
theorem fl19_0:fldAt Tryz.prog 19 0=some (0,I17):=by kernel_rfl
theorem el23:elemTI Tryz.prog 23 3=some (I23,44,I44):=by kernel_rfl
theorem el24:elemTI Tryz.prog 24 3=some (I24,47,I47):=by kernel_rfl
theorem el25:elemTI Tryz.prog 25 3=some (I25,53,I53):=by kernel_rfl
theorem fl26_0:fldAt Tryz.prog 26 0=some (0,I9):=by kernel_rfl
theorem fl26_1:fldAt Tryz.prog 26 1=some (1,I23):=by kernel_rfl
theorem fl26_2:fldAt Tryz.prog 26 2=some (2,I24):=by kernel_rfl
theorem fl26_3:fldAt Tryz.prog 26 3=some (3,I4):=by kernel_rfl
theorem fl26_4:fldAt Tryz.prog 26 4=some (4,I25):=by kernel_rfl
theorem fl27_0:fldAt Tryz.prog 27 0=some (0,I9):=by kernel_rfl
theorem fl27_1:fldAt Tryz.prog 27 1=some (1,I23):=by kernel_rfl
theorem fl27_2:fldAt Tryz.prog 27 2=some (2,I24):=by kernel_rfl
theorem fl27_3:fldAt Tryz.prog 27 3=some (3,I4):=by kernel_rfl
theorem fl27_4:fldAt Tryz.prog 27 4=some (4,I25):=by kernel_rfl
theorem el34:elemTI Tryz.prog 34 3=some (I34,9,I9):=by kernel_rfl
theorem el37:elemTI Tryz.prog 37 3=some (I37,5,I5):=by kernel_rfl
theorem el38:elemTI Tryz.prog 38 3=some (I38,3,I3):=by kernel_rfl
theorem fl43_0:fldAt Tryz.prog 43 0=some (0,I9):=by kernel_rfl
theorem fl43_1:fldAt Tryz.prog 43 1=some (1,I3):=by kernel_rfl
theorem fl44_0:fldAt Tryz.prog 44 0=some (0,I9):=by kernel_rfl
theorem fl44_1:fldAt Tryz.prog 44 1=some (1,I3):=by kernel_rfl
theorem el45:elemTI Tryz.prog 45 3=some (I45,50,I50):=by kernel_rfl
theorem fl46_0:fldAt Tryz.prog 46 0=some (0,I45):=by kernel_rfl
theorem fl47_0:fldAt Tryz.prog 47 0=some (0,I45):=by kernel_rfl
theorem fl49_0:fldAt Tryz.prog 49 0=some (0,I3):=by kernel_rfl
theorem fl49_1:fldAt Tryz.prog 49 1=some (1,I9):=by kernel_rfl
theorem fl49_2:fldAt Tryz.prog 49 2=some (2,I9):=by kernel_rfl
theorem fl49_3:fldAt Tryz.prog 49 3=some (3,I9):=by kernel_rfl
theorem fl49_4:fldAt Tryz.prog 49 4=some (4,I3):=by kernel_rfl
theorem fl50_0:fldAt Tryz.prog 50 0=some (0,I3):=by kernel_rfl
theorem fl50_1:fldAt Tryz.prog 50 1=some (1,I9):=by kernel_rfl
theorem fl50_2:fldAt Tryz.prog 50 2=some (2,I9):=by kernel_rfl
theorem fl50_3:fldAt Tryz.prog 50 3=some (3,I9):=by kernel_rfl
theorem fl50_4:fldAt Tryz.prog 50 4=some (4,I3):=by kernel_rfl
theorem fl52_0:fldAt Tryz.prog 52 0=some (0,I3):=by kernel_rfl
theorem fl52_1:fldAt Tryz.prog 52 1=some (1,I9):=by kernel_rfl
theorem fl52_2:fldAt Tryz.prog 52 2=some (2,I3):=by kernel_rfl
theorem fl53_0:fldAt Tryz.prog 53 0=some (0,I3):=by kernel_rfl
theorem fl53_1:fldAt Tryz.prog 53 1=some (1,I9):=by kernel_rfl
theorem fl53_2:fldAt Tryz.prog 53 2=some (2,I3):=by kernel_rfl
theorem el56:elemTI Tryz.prog 56 3=some (I56,38,I38):=by kernel_rfl
theorem fl57_0:fldAt Tryz.prog 57 0=some (0,I27):=by kernel_rfl
theorem fl57_1:fldAt Tryz.prog 57 1=some (5,I3):=by kernel_rfl
theorem fl57_2:fldAt Tryz.prog 57 2=some (6,I56):=by kernel_rfl
theorem fl57_3:fldAt Tryz.prog 57 3=some (7,I3):=by kernel_rfl
theorem fl57_4:fldAt Tryz.prog 57 4=some (8,I3):=by kernel_rfl
theorem fl58_0:fldAt Tryz.prog 58 0=some (0,I27):=by kernel_rfl
theorem fl58_1:fldAt Tryz.prog 58 1=some (5,I3):=by kernel_rfl
theorem fl58_2:fldAt Tryz.prog 58 2=some (6,I56):=by kernel_rfl
theorem fl58_3:fldAt Tryz.prog 58 3=some (7,I3):=by kernel_rfl
theorem fl58_4:fldAt Tryz.prog 58 4=some (8,I3):=by kernel_rfl
theorem fl62_0:fldAt Tryz.prog 62 0=some (0,I27):=by kernel_rfl
theorem fl62_1:fldAt Tryz.prog 62 1=some (5,I3):=by kernel_rfl
theorem fl62_2:fldAt Tryz.prog 62 2=some (6,I3):=by kernel_rfl
theorem fl62_3:fldAt Tryz.prog 62 3=some (7,I3):=by kernel_rfl
theorem fl62_4:fldAt Tryz.prog 62 4=some (8,I56):=by kernel_rfl
theorem fl63_0:fldAt Tryz.prog 63 0=some (0,I27):=by kernel_rfl
theorem fl63_1:fldAt Tryz.prog 63 1=some (5,I3):=by kernel_rfl
theorem fl63_2:fldAt Tryz.prog 63 2=some (6,I3):=by kernel_rfl
theorem fl63_3:fldAt Tryz.prog 63 3=some (7,I3):=by kernel_rfl
theorem fl63_4:fldAt Tryz.prog 63 4=some (8,I56):=by kernel_rfl
theorem fl79_0:fldAt Tryz.prog 79 0=some (0,I3):=by kernel_rfl
theorem fl79_1:fldAt Tryz.prog 79 1=some (1,I3):=by kernel_rfl
theorem fl79_2:fldAt Tryz.prog 79 2=some (2,I28):=by kernel_rfl
theorem fl80_0:fldAt Tryz.prog 80 0=some (0,I3):=by kernel_rfl
theorem fl80_1:fldAt Tryz.prog 80 1=some (1,I3):=by kernel_rfl
theorem fl80_2:fldAt Tryz.prog 80 2=some (2,I28):=by kernel_rfl
theorem fl99_0:fldAt Tryz.prog 99 0=some (0,I17):=by kernel_rfl
theorem fl99_2:fldAt Tryz.prog 99 2=some (2,I98):=by kernel_rfl
theorem fl100_0:fldAt Tryz.prog 100 0=some (0,I17):=by kernel_rfl
theorem fl100_2:fldAt Tryz.prog 100 2=some (2,I98):=by kernel_rfl
theorem fl116_0:fldAt Tryz.prog 116 0=some (0,I17):=by kernel_rfl
theorem fl117_0:fldAt Tryz.prog 117 0=some (0,I17):=by kernel_rfl
theorem el128:elemTI Tryz.prog 128 3=some (I128,83,I83):=by kernel_rfl
theorem el131:elemTI Tryz.prog 131 2=some (I131,3,I3):=by kernel_rfl
theorem fl159_0:fldAt Tryz.prog 159 0=some (0,I50):=by kernel_rfl
theorem fl160_0:fldAt Tryz.prog 160 0=some (0,I50):=by kernel_rfl
theorem fl161_0:fldAt Tryz.prog 161 0=some (0,I160):=by kernel_rfl
theorem fl162_0:fldAt Tryz.prog 162 0=some (0,I160):=by kernel_rfl
theorem fl163_0:fldAt Tryz.prog 163 0=some (0,I160):=by kernel_rfl
theorem fl164_0:fldAt Tryz.prog 164 0=some (0,I160):=by kernel_rfl
theorem fl175_0:fldAt Tryz.prog 175 0=some (0,I9):=by kernel_rfl
theorem fl175_1:fldAt Tryz.prog 175 1=some (1,I9):=by kernel_rfl
theorem fl175_2:fldAt Tryz.prog 175 2=some (2,I83):=by kernel_rfl
theorem fl176_0:fldAt Tryz.prog 176 0=some (0,I9):=by kernel_rfl
theorem fl176_1:fldAt Tryz.prog 176 1=some (1,I9):=by kernel_rfl
theorem fl176_2:fldAt Tryz.prog 176 2=some (2,I83):=by kernel_rfl
theorem fl191_0:fldAt Tryz.prog 191 0=some (0,I9):=by kernel_rfl
theorem fl192_0:fldAt Tryz.prog 192 0=some (0,I9):=by kernel_rfl
theorem el203:elemTI Tryz.prog 203 2=some (I203,5,I5):=by kernel_rfl
theorem el208:elemTI Tryz.prog 208 2=some (I208,172,I172):=by kernel_rfl
theorem el211:elemTI Tryz.prog 211 2=some (I211,5,I5):=by kernel_rfl
theorem fl214_0:fldAt Tryz.prog 214 0=some (0,I17):=by kernel_rfl
theorem fl214_1:fldAt Tryz.prog 214 1=some (1,I17):=by kernel_rfl
theorem fl214_2:fldAt Tryz.prog 214 2=some (2,I17):=by kernel_rfl
theorem fl214_3:fldAt Tryz.prog 214 3=some (3,I9):=by kernel_rfl
theorem fl215_0:fldAt Tryz.prog 215 0=some (0,I17):=by kernel_rfl
theorem fl215_1:fldAt Tryz.prog 215 1=some (1,I17):=by kernel_rfl
theorem fl215_2:fldAt Tryz.prog 215 2=some (2,I17):=by kernel_rfl
theorem fl215_3:fldAt Tryz.prog 215 3=some (3,I9):=by kernel_rfl
theorem el216:elemTI Tryz.prog 216 2=some (I216,16,I16):=by kernel_rfl
theorem fl217_0:fldAt Tryz.prog 217 0=some (0,I216):=by kernel_rfl
theorem fl218_0:fldAt Tryz.prog 218 0=some (0,I216):=by kernel_rfl
theorem fl225_0:fldAt Tryz.prog 225 0=some (0,I12):=by kernel_rfl
theorem fl225_1:fldAt Tryz.prog 225 1=some (1,I12):=by kernel_rfl
theorem fl225_2:fldAt Tryz.prog 225 2=some (2,I165):=by kernel_rfl
theorem fl225_3:fldAt Tryz.prog 225 3=some (3,I221):=by kernel_rfl
theorem fl225_4:fldAt Tryz.prog 225 4=some (4,I5):=by kernel_rfl
theorem fl225_5:fldAt Tryz.prog 225 5=some (5,I5):=by kernel_rfl
theorem fl225_6:fldAt Tryz.prog 225 6=some (6,I105):=by kernel_rfl
theorem fl225_7:fldAt Tryz.prog 225 7=some (7,I222):=by kernel_rfl
theorem fl225_8:fldAt Tryz.prog 225 8=some (8,I189):=by kernel_rfl
theorem fl225_9:fldAt Tryz.prog 225 9=some (9,I223):=by kernel_rfl
theorem fl225_10:fldAt Tryz.prog 225 10=some (10,I224):=by kernel_rfl
theorem fl226_0:fldAt Tryz.prog 226 0=some (0,I12):=by kernel_rfl
theorem fl226_1:fldAt Tryz.prog 226 1=some (1,I12):=by kernel_rfl
theorem fl226_2:fldAt Tryz.prog 226 2=some (2,I165):=by kernel_rfl
theorem fl226_3:fldAt Tryz.prog 226 3=some (3,I221):=by kernel_rfl
theorem fl226_4:fldAt Tryz.prog 226 4=some (4,I5):=by kernel_rfl
theorem fl226_5:fldAt Tryz.prog 226 5=some (5,I5):=by kernel_rfl
theorem fl226_6:fldAt Tryz.prog 226 6=some (6,I105):=by kernel_rfl
theorem fl226_7:fldAt Tryz.prog 226 7=some (7,I222):=by kernel_rfl
theorem fl226_8:fldAt Tryz.prog 226 8=some (8,I189):=by kernel_rfl
theorem fl226_9:fldAt Tryz.prog 226 9=some (9,I223):=by kernel_rfl
theorem fl226_10:fldAt Tryz.prog 226 10=some (10,I224):=by kernel_rfl
theorem fl229_0:fldAt Tryz.prog 229 0=some (0,I9):=by kernel_rfl
theorem fl229_1:fldAt Tryz.prog 229 1=some (1,I105):=by kernel_rfl
theorem fl230_0:fldAt Tryz.prog 230 0=some (0,I9):=by kernel_rfl
theorem fl230_1:fldAt Tryz.prog 230 1=some (1,I105):=by kernel_rfl
theorem fl235_0:fldAt Tryz.prog 235 0=some (0,I223):=by kernel_rfl
theorem fl235_1:fldAt Tryz.prog 235 1=some (1,I234):=by kernel_rfl
theorem fl235_2:fldAt Tryz.prog 235 2=some (2,I234):=by kernel_rfl
theorem fl235_3:fldAt Tryz.prog 235 3=some (3,I165):=by kernel_rfl
theorem fl235_4:fldAt Tryz.prog 235 4=some (4,I165):=by kernel_rfl
theorem fl236_0:fldAt Tryz.prog 236 0=some (0,I223):=by kernel_rfl
theorem fl236_1:fldAt Tryz.prog 236 1=some (1,I234):=by kernel_rfl
theorem fl236_2:fldAt Tryz.prog 236 2=some (2,I234):=by kernel_rfl
theorem fl236_3:fldAt Tryz.prog 236 3=some (3,I165):=by kernel_rfl
theorem fl236_4:fldAt Tryz.prog 236 4=some (4,I165):=by kernel_rfl
theorem el237:elemTI Tryz.prog 237 3=some (I237,240,I240):=by kernel_rfl
theorem fl239_0:fldAt Tryz.prog 239 0=some (0,I223):=by kernel_rfl
theorem fl239_1:fldAt Tryz.prog 239 1=some (1,I224):=by kernel_rfl
theorem fl239_2:fldAt Tryz.prog 239 2=some (2,I238):=by kernel_rfl
theorem fl239_3:fldAt Tryz.prog 239 3=some (3,I238):=by kernel_rfl
theorem fl240_0:fldAt Tryz.prog 240 0=some (0,I223):=by kernel_rfl
theorem fl240_1:fldAt Tryz.prog 240 1=some (1,I224):=by kernel_rfl
theorem fl240_2:fldAt Tryz.prog 240 2=some (2,I238):=by kernel_rfl
theorem fl240_3:fldAt Tryz.prog 240 3=some (3,I238):=by kernel_rfl
theorem eq44:eqKinds Tryz.prog 44=some [4,8]:=by kernel_rfl
theorem eq50:eqKinds Tryz.prog 50=some [8,4,4,4,8]:=by kernel_rfl
theorem eq53:eqKinds Tryz.prog 53=some [8,4,8]:=by kernel_rfl
theorem eq80:eqKinds Tryz.prog 80=some [8,8,8]:=by kernel_rfl
theorem eq131:eqKinds Tryz.prog 131=some [8,8,8]:=by kernel_rfl
theorem ai131:arrInt Tryz.prog 131=some 3:=by kernel_rfl
theorem ar131:arrTI Tryz.prog 131=some 3:=by kernel_rfl
theorem mt132:mapTI Tryz.prog 132=some (9,3,(.int .i64 0)):=by kernel_rfl
theorem ar203:arrTI Tryz.prog 203=some 24:=by kernel_rfl
theorem ar208:arrTI Tryz.prog 208=some 20:=by kernel_rfl
theorem ar211:arrTI Tryz.prog 211=some 32:=by kernel_rfl
theorem ar216:arrTI Tryz.prog 216=some 0:=by kernel_rfl
attribute [go_sem] ti1 zc1 ti2 zc2 it2 ti3 zc3 it3 ti4 zc4 ki4 ti5 zc5 it5 ti6 zc6 it6 ti7 zc7 ti8 zc8 ti9 zc9 ki9 kn9 ti10 zc10 ki10 kn10 ti11 zc11 ki11 kn11 ti12 zc12 it12 ti13 zc13 ti14 zc14 ti15 zc15 ti16 zc16 ti17 zc17 ti18 zc18 ti19 zc19 ti20 zc20 ki20 ti21 zc21 it21 ti22 zc22 ti23 zc23 ki23 ti24 zc24 ki24 ti25 zc25 ki25 ti26 zc26 ti27 zc27 ti28 zc28 it28 ti30 zc30 ti31 zc31 ti32 zc32 ti33 zc33 ti34 zc34 ki34 ti35 zc35 ti36 zc36 ti37 zc37 ki37 ti38 zc38 ki38 ti39 zc39 ti40 zc40 ti42 zc42 ti43 zc43 ti44 zc44 ti45 zc45 ki45 ti46 zc46 ti47 zc47 ti48 zc48 ti49 zc49 ti50 zc50 ti51 zc51 ti52 zc52 ti53 zc53 ti54 zc54 ti55 zc55 ti56 zc56 ki56 ti57 zc57 ti58 zc58 ti59 zc59 ti60 zc60 ti61 zc61 ti62 zc62 ti63 zc63 ti64 zc64 ti65 zc65 ti66 zc66 ti67 zc67 ti68 zc68 ti69 zc69 ti71 zc71 ti72 zc72 ti73 zc73 ti75 zc75 ti76 zc76 ti77 zc77 ti78 zc78 ti79 zc79 ti80 zc80 ti81 zc81 ti82 zc82 ki82 ti83 zc83 ki83 ti84 zc84 ti85 zc85 ti87 zc87 ti88 zc88 ti89 zc89 ti90 zc90 ti92 zc92 ti94 zc94 ti96 zc96 ti98 zc98 it98 ti99 zc99 ti100 zc100 ti101 zc101 ti102 zc102 ki102 ti103 zc103 ki103 ti104 zc104 ti105 zc105 it105 ti106 zc106 ti107 zc107 ti108 zc108 ti109 zc109 ti111 zc111 ti113 zc113 ti114 zc114 ti115 zc115 ti116 zc116 ti117 zc117 ti118 zc118 ti119 zc119 ti120 zc120 ti121 zc121 ti122 zc122 ki122 ti124 zc124 ti125 zc125 ki125 ti126 zc126 ti127 zc127 ki127 ti128 zc128 ki128 ti129 zc129 ti130 zc130 ti131 zc131 ti132 zc132 ti133 zc133 ti134 zc134 ti135 zc135 ti136 zc136 ti137 zc137 ti138 zc138 ti140 zc140 ti141 zc141 ti142 zc142 ti143 zc143 ki143 ti144 zc144 ki144 ti145 zc145 ti146 zc146 ti147 zc147 ti148 zc148 ti149 zc149 it149 ti150 zc150 ti151 zc151 ti152 zc152 ti153 zc153 it153 ti155 zc155 ti156 zc156 ti157 zc157 ti158 zc158 ti159 zc159 ti160 zc160 ti161 zc161 ti162 zc162 ti163 zc163 ti164 zc164 ti165 zc165 it165 ti167 zc167 ti168 zc168 ti169 zc169 ti170 zc170 ti171 zc171 ti172 zc172 it172 ti174 zc174 ti175 zc175 ti176 zc176 ti177 zc177 ti178 zc178 ti179 zc179 ti180 zc180 it180 ti182 zc182 ti183 zc183 ti184 zc184 ti185 zc185 ti186 zc186 ti187 zc187 ti188 zc188 ti189 zc189 ti190 zc190 ti191 zc191 ti192 zc192 ti193 zc193 it193 ti194 zc194 ti195 zc195 ti196 zc196 ti197 zc197 ti198 zc198 ti199 zc199 ti200 zc200 ti202 zc202 ti203 zc203 ti204 zc204 ti206 zc206 ti207 zc207 ti208 zc208 ti210 zc210 ti211 zc211 ti213 zc213 ti214 zc214 ti215 zc215 ti216 zc216 ti217 zc217 ti218 zc218 ti219 zc219 ti220 zc220 ti221 zc221 it221 ti222 zc222 ti223 zc223 it223 ti224 zc224 it224 ti225 zc225 ti226 zc226 ti227 zc227 ti228 zc228 ti229 zc229 ti230 zc230 ti231 zc231 ti232 zc232 ti233 zc233 ti234 zc234 it234 ti235 zc235 ti236 zc236 ti237 zc237 ki237 ti238 zc238 it238 ti239 zc239 ti240 zc240 ti241 zc241 fl7_0 fl7_1 fl7_2 fl7_3 fl8_0 fl8_1 fl8_2 fl8_3 fl13_0 fl13_1 fl14_0 fl14_1 fl18_0 fl19_0 el23 el24 el25 fl26_0 fl26_1 fl26_2 fl26_3 fl26_4 fl27_0 fl27_1 fl27_2 fl27_3 fl27_4 el34 el37 el38 fl43_0 fl43_1 fl44_0 fl44_1 el45 fl46_0 fl47_0 fl49_0 fl49_1 fl49_2 fl49_3 fl49_4 fl50_0 fl50_1 fl50_2 fl50_3 fl50_4 fl52_0 fl52_1 fl52_2 fl53_0 fl53_1 fl53_2 el56 fl57_0 fl57_1 fl57_2 fl57_3 fl57_4 fl58_0 fl58_1 fl58_2 fl58_3 fl58_4 fl62_0 fl62_1 fl62_2 fl62_3 fl62_4 fl63_0 fl63_1 fl63_2 fl63_3 fl63_4 fl79_0 fl79_1 fl79_2 fl80_0 fl80_1 fl80_2 fl99_0 fl99_2 fl100_0 fl100_2 fl116_0 fl117_0 el128 el131 fl159_0 fl160_0 fl161_0 fl162_0 fl163_0 fl164_0 fl175_0 fl175_1 fl175_2 fl176_0 fl176_1 fl176_2 fl191_0 fl192_0 el203 el208 el211 fl214_0 fl214_1 fl214_2 fl214_3 fl215_0 fl215_1 fl215_2 fl215_3 el216 fl217_0 fl218_0 fl225_0 fl225_1 fl225_2 fl225_3 fl225_4 fl225_5 fl225_6 fl225_7 fl225_8 fl225_9 fl225_10 fl226_0 fl226_1 fl226_2 fl226_3 fl226_4 fl226_5 fl226_6 fl226_7 fl226_8 fl226_9 fl226_10 fl229_0 fl229_1 fl230_0 fl230_1 fl235_0 fl235_1 fl235_2 fl235_3 fl235_4 fl236_0 fl236_1 fl236_2 fl236_3 fl236_4 el237 fl239_0 fl239_1 fl239_2 fl239_3 fl240_0 fl240_1 fl240_2 fl240_3 eq44 eq50 eq53 eq80 eq131 ai131 ar131 mt132 ar203 ar208 ar211 ar216
end Go.Proofs.YtmapdjdnnhlpiaaGreatDoor
namespace Go.Proofs.YtmapdjdnnhlpiaaGreatDoor
set_option maxRecDepth 8000
def cutB (c:UInt8):List UInt8→List (List UInt8)
 | []=>[[]]
 | b::s=>if b=c then []::cutB c s else (match cutB c s with | []=>[[b]] | w::r=>(b::w)::r)
theorem cutB_ne (c:UInt8):∀s,cutB c s≠[]
 | []=>by simp[cutB]
 | b::s=>by
  unfold cutB
  split
  ·simp
  ·split <;> simp
theorem cutB_plain {c:UInt8}:∀{p:List UInt8},c∉p→cutB c p=[p]
 | [],_=>rfl
 | b::p,h=>by
  have h1:b≠c:=fun e=>h (by simp[e])
  have h2:cutB c p=[p]:=cutB_plain (fun e=>h (by simp[e]))
  simp[cutB,h1,h2]
theorem cutB_sep {c:UInt8}:∀{p r:List UInt8},c∉p→cutB c (p++c::r)=p::cutB c r
 | [],r,_=>by simp[cutB]
 | b::p,r,h=>by
  have h1:b≠c:=fun e=>h (by simp[e])
  have h2:cutB c (p++c::r)=p::cutB c r:=cutB_sep (fun e=>h (by simp[e]))
  simp[cutB,h1,h2]
theorem cutB_length (c:UInt8):∀s,(cutB c s).length≤s.length+1
 | []=>by simp[cutB]
 | b::s=>by
  have:=cutB_length c s
  unfold cutB
  split
  ·simp;omega
  ·split
   ·simp
   ·rename_i w r e;rw[e] at this;simp at this⊢;omega
def linesB (s:List UInt8):List (List UInt8):=if (cutB 10 s).getLast?=some [] then (cutB 10 s).dropLast else cutB 10 s
def wordsB (s:List UInt8):List (List UInt8):=(cutB 32 s).filter fun w=>!w.isEmpty
def keysB:List (List UInt8):=[[120,56,54],[105,110,105,116],[116,104,114,101,97,100],[109,111,118],[120,99,104,103],[109,102,101,110,99,101],[99,109,112],[106,109,112],[106,101],[106,110,101],[101,120,105,115,116,115],[102,111,114,97,108,108]]
def keyB (s:List UInt8):Bool:=keysB.contains s
theorem keyB_in {s:List UInt8} (h:s∈keysB):keyB s=true:=by simpa [keyB] using h
theorem keyB_out {s:List UInt8} (h:s∉keysB):keyB s=false:=by simpa [keyB] using h
def regNm (n:Int):List UInt8:=if n=0 then [101,97,120] else if n=1 then [101,98,120] else if n=2 then [101,99,120] else if n=3 then [101,100,120] else []
theorem regNm_out {n:Int} (h:n<0∨4≤n):regNm n=[]:=by
 unfold regNm
 rw[if_neg (by omega),if_neg (by omega),if_neg (by omega),if_neg (by omega)]
def regB (s:List UInt8):Int:=if s=regNm 0 then 0 else if s=regNm 1 then 1 else if s=regNm 2 then 2 else if s=regNm 3 then 3 else -1
def letB (b:UInt8):Bool:=decide (97≤b.toNat) && decide (b.toNat≤122)
def ldB (b:UInt8):Bool:=letB b || (decide (48≤b.toNat) && decide (b.toNat≤57))
def headB:List UInt8→Bool
 | []=>false
 | b::r=>letB b && r.all ldB
def nameB (s:List UInt8):Bool:=headB s && decide (s.length≤8) && !keyB s && decide (regB s<0)
def okB (i:Nat) (b:UInt8):Bool:=letB b || (decide (48≤b.toNat) && decide (b.toNat≤57) && decide (i≠0))
theorem okB_true {i:Nat} {b:UInt8} (h:(97≤b.toNat∧b.toNat≤122)∨(48≤b.toNat∧b.toNat≤57∧i≠0)):okB i b=true:=by
 simp only[okB,letB,Bool.or_eq_true,Bool.and_eq_true,decide_eq_true_eq]
 omega
theorem okB_false {i:Nat} {b:UInt8} (h:¬((97≤b.toNat∧b.toNat≤122)∨(48≤b.toNat∧b.toNat≤57∧i≠0))):okB i b=false:=by
 rw[←Bool.not_eq_true]
 simp only[okB,letB,Bool.or_eq_true,Bool.and_eq_true,decide_eq_true_eq]
 omega
theorem nameB_head (s:List UInt8):headB s=true↔s≠[]∧∀i:Nat,∀b,s[i]?=some b→okB i b=true:=by
 cases s with
 | nil=>simp[headB]
 | cons b r =>
  simp only[headB,Bool.and_eq_true,ne_eq,reduceCtorEq,not_false_eq_true,true_and]
  constructor
  ·rintro ⟨h1,h2⟩ i c hc
   cases i with
   | zero=>simp at hc;subst hc;simp[okB,h1]
   | succ i =>
    simp at hc
    have:=List.all_eq_true.1 h2 c (List.mem_of_getElem? hc)
    simpa [okB,ldB] using this
  ·intro h
   refine ⟨?_,List.all_eq_true.2 fun c hc=>?_⟩
   ·have:=h 0 b rfl
    simpa [okB] using this
   ·obtain ⟨i,hi⟩:=List.mem_iff_getElem?.1 hc
    have:=h (i+1) c (by simpa using hi)
    simpa [okB,ldB] using this
theorem nameB_bad {s:List UInt8} {i:Nat} {b:UInt8} (h:s[i]?=some b) (hb:okB i b=false):nameB s=false:=by
 have:headB s=false:=by
  rw[←Bool.not_eq_true,nameB_head]
  rintro ⟨_,hh⟩
  rw[hh i b h] at hb
  cases hb
 unfold nameB
 rw[this]
 simp
theorem nameB_good {s:List UInt8} (h:∀i:Nat,∀b,s[i]?=some b→okB i b=true):nameB s=(!s.isEmpty && decide (s.length≤8) && !keyB s && decide (regB s<0)):=by
 have:headB s = !s.isEmpty:=by
  rw[Bool.eq_iff_iff,nameB_head]
  constructor
  ·rintro ⟨h1,_⟩;cases s <;> simp_all
  ·intro h1;refine ⟨?_,h⟩;rintro rfl;simp at h1
 unfold nameB
 rw[this]
end Go.Proofs.YtmapdjdnnhlpiaaGreatDoor
namespace Go.Proofs.YtmapdjdnnhlpiaaGreatDoor
open Go.RowKit
set_option maxRecDepth 8000
theorem regName (n:Int):HFn Tryz.prog 109 [.v (.int .i64 n)] (.v (str (regNm n))):=by
 refine HCalls_body (fn:=Tryz.f109) 13 [2] (by kernel_rfl) rfl (by kernel_rfl) (HW.run 200 (by kernel_rfl) ?_)
 rcases (by omega:n<0∨4≤n∨n=0∨n=1∨n=2∨n=3) with h | h | rfl | rfl | rfl | rfl
 ·simp (config:={ decide:=true }) only[go_sem,Nat.reduceAdd,Nat.reduceSub,Nat.reduceMul,Nat.reduceBEq,reduceIte,reduceCtorEq,h,regNm_out (.inl h)]
 ·have h' : ¬n<0:=by omega
  simp (config:={ decide:=true }) only[go_sem,Nat.reduceAdd,Nat.reduceSub,Nat.reduceMul,Nat.reduceBEq,reduceIte,reduceCtorEq,h,h',regNm_out (.inr h)]
 all_goals simp (config:={ decide:=true }) only[go_sem,Nat.reduceAdd,Nat.reduceSub,Nat.reduceMul,Nat.reduceBEq,reduceIte,reduceCtorEq,regNm,Int.reduceToNat]
theorem refRegName (n:Int):HFn Tryz.prog 52 [.v (.int .i64 n)] (.v (str (regNm n))):=by
 refine HCalls_body (fn:=Tryz.f52) 16 [2] (by kernel_rfl) rfl (by kernel_rfl) (HW.run 200 (by kernel_rfl) ?_)
 rcases (by omega:n<0∨4≤n∨n=0∨n=1∨n=2∨n=3) with h | h | rfl | rfl | rfl | rfl
 ·simp (config:={ decide:=true }) only[go_sem,Nat.reduceAdd,Nat.reduceSub,Nat.reduceMul,Nat.reduceBEq,reduceIte,reduceCtorEq,h,regNm_out (.inl h)]
 ·have h' : ¬n<0:=by omega
  simp (config:={ decide:=true }) only[go_sem,Nat.reduceAdd,Nat.reduceSub,Nat.reduceMul,Nat.reduceBEq,reduceIte,reduceCtorEq,h,h',regNm_out (.inr h)]
 all_goals
  simp (config:={ decide:=true }) only[go_sem,Nat.reduceAdd,Nat.reduceSub,Nat.reduceMul,Nat.reduceBEq,reduceIte,reduceCtorEq]
  simp (disch:=omega) only[w64,w8]
  rfl
end Go.Proofs.YtmapdjdnnhlpiaaGreatDoor
namespace Go.Proofs.YtmapdjdnnhlpiaaGreatDoor
open Go.RowKit
theorem follows:Tryz.prog.follows .mixedOrders=true:=by kernel_rfl
theorem vb {a b:Bool} (h:a=b):HV.v (.bool a)=HV.v (.bool b):=by rw[h]
end Go.Proofs.YtmapdjdnnhlpiaaGreatDoor
namespace Go.Proofs.YtmapdjdnnhlpiaaGreatDoor
open Go.RowKit
set_option maxRecDepth 8000
end Go.Proofs.YtmapdjdnnhlpiaaGreatDoor
namespace Go.Proofs.YtmapdjdnnhlpiaaGreatDoor
open Go.RowKit
set_option maxRecDepth 8000
theorem byteEq {b c:UInt8}:((b.toNat:Int)=(c.toNat:Int))=(b=c):=by
 simp only[eq_iff_iff]
 constructor
 ·intro h;exact UInt8.toNat_inj.1 (by omega)
 ·rintro rfl;rfl
theorem refCut (s:List UInt8) (c:UInt8) (hs:s.length≤1000000):HFn Tryz.prog 28 [.v (str s),.v (.int .u8 (c.toNat:Int))] (owStrs (cutB c s)):=by
 refine HCalls_body (fn:=Tryz.f28) 34 [4] (by kernel_rfl) rfl (by kernel_rfl) (HW.run 200 (by kernel_rfl) ?_)
 simp (config:={ decide:=true }) only[go_sem,Nat.reduceAdd,Nat.reduceSub,Nat.reduceMul,Nat.reduceBEq,reduceIte,reduceCtorEq]
 refine HW.loopG (fun k T H=>∃(i from' : Nat) (out:List (List UInt8)),k=s.length-i∧i≤s.length∧from'≤i∧out.length≤from'∧cutB c s=out++cutB c (s.drop from')∧c∉(s.take i).drop from'∧
  T 0=.v (str s)∧T 1=.v (.int .u8 (c.toNat:Int))∧T 5=.hd 0 0 out.length∧T 6=.v (.int .i64 from')∧T 7=.v (.int .i64 i)∧H=[some ⟨9,1,strs out⟩]) s.length
  ⟨_,_,Ghost.nil 5 9 1 rfl,0,0,[],by simp,by omega,by omega,by simp,by simp,by simp,rfl,rfl,rfl,rfl,rfl,rfl⟩ ?_
 rintro k T H ⟨i,fr,out,rfl,hi,hfr,hout,hcut,hno,h0,h1,h5,h6,h7,rfl⟩
 refine HW.run 200 (by kernel_rfl) ?_
 rcases Nat.lt_or_ge i s.length with hlt | hge
 ·have hlt' : (i:Int)<(s.length:Int):=by omega
  have hx:s[i]?=some s[i]:=by simp[hlt]
  simp (config:={ decide:=true }) only[go_sem,Nat.reduceAdd,Nat.reduceSub,Nat.reduceMul,Nat.reduceBEq,reduceIte,reduceCtorEq,h0,h1,h5,h6,h7,hlt',hx,byteEq]
  refine ⟨fun he=>⟨by omega,by omega,_,_,Ghost.trunc [0,1,5,6,7] 1 (by omega) ?_ ?_,s.length-(i+1),by omega,i+1,i+1,out++[(s.take i).drop fr],rfl,by omega,by omega,by simp;omega,?_,?_,?_,?_,?_,?_,?_,?_⟩,
   fun hne=>⟨_,_,Ghost.refl,s.length-(i+1),by omega,i+1,fr,out,rfl,by omega,by omega,by omega,hcut,?_,?_,?_,?_,?_,?_,rfl⟩⟩
  ·simp (config:={ decide:=true }) only[go_sem,Nat.reduceBEq,reduceIte,h0,h1]
  ·simp (config:={ decide:=true }) only[go_sem,Nat.reduceBEq,reduceIte]
  ·have e:s.drop fr=(s.take i).drop fr++c::s.drop (i+1):=by
    have h1:s.drop fr=(s.take i).drop fr++s.drop i:=by
     conv=>lhs;rw[←List.take_append_drop i s]
     rw[List.drop_append_of_le_length (by simp;omega)]
    rw[h1,List.drop_eq_getElem_cons hlt,he]
   rw[hcut,e,cutB_sep hno]
   simp
  ·simp
  iterate 5
   ·first | rfl | (simp (config:={ decide:=true }) only[go_sem,Nat.reduceBEq,reduceIte,h0,h1];done) | (simp (config:={ decide:=true }) only[go_sem,Nat.reduceBEq,reduceIte];rw[w64 (by omega) (by omega)];rfl)
  ·rfl
  ·have e:(s.take (i+1)).drop fr=(s.take i).drop fr++[s[i]]:=by
    rw[List.take_add_one,hx,List.drop_append_of_le_length (by simp;omega)]
    rfl
   rw[e]
   simp only[List.mem_append,List.mem_singleton]
   rintro (h | h)
   ·exact hno h
   ·exact hne h.symm
  all_goals first | rfl | (simp (config:={ decide:=true }) only[go_sem,Nat.reduceBEq,reduceIte,h0,h1,h5,h6];done) | (simp (config:={ decide:=true }) only[go_sem,Nat.reduceBEq,reduceIte];rw[w64 (by omega) (by omega)];rfl)
 ·have hge' : ¬(i:Int)<(s.length:Int):=by omega
  simp (config:={ decide:=true }) only[go_sem,Nat.reduceAdd,Nat.reduceSub,Nat.reduceMul,Nat.reduceBEq,reduceIte,reduceCtorEq,h0,h1,h5,h6,h7,hge']
  refine ⟨by omega,by omega,?_⟩
  have e:i=s.length:=by omega
  rw[e,List.take_length] at hno
  rw[hcut,cutB_plain hno]
  rfl
end Go.Proofs.YtmapdjdnnhlpiaaGreatDoor
namespace Go.Proofs.YtmapdjdnnhlpiaaGreatDoor
open Go.RowKit
set_option maxRecDepth 8000
theorem refKey (s:List UInt8):HFn Tryz.prog 53 [.v (str s)] (.v (.bool (keyB s))):=by
 refine HCalls_body (fn:=Tryz.f53) 49 [2] (by kernel_rfl) rfl (by kernel_rfl) (HW.run 200 (by kernel_rfl) ?_)
 simp (config:={ decide:=true,contextual:=true }) only[go_sem,Nat.reduceAdd,Nat.reduceSub,Nat.reduceMul,Nat.reduceBEq,reduceIte,reduceCtorEq]
 repeat' first | intro h | apply And.intro
 all_goals first | exact vb (keyB_in (by simp[keysB, *])).symm | exact vb (keyB_out (by simp[keysB, *])).symm | (refine vb ?_;simp[keyB,keysB, *])
theorem keyPr (s:List UInt8):HFn Tryz.prog 98 [.v (str s)] (.v (.bool (keyB s))):=by
 refine HCalls_body (fn:=Tryz.f98) 17 [2] (by kernel_rfl) rfl (by kernel_rfl) (HW.run 200 (by kernel_rfl) ?_)
 simp (config:={ decide:=true,contextual:=true }) only[go_sem,Nat.reduceAdd,Nat.reduceSub,Nat.reduceMul,Nat.reduceBEq,reduceIte,reduceCtorEq]
 repeat' first | intro h | apply And.intro
 all_goals first | exact vb (keyB_in (by simp[keysB, *])).symm | exact vb (keyB_out (by simp[keysB, *])).symm | (refine vb ?_;simp[keyB,keysB, *])
theorem refLines (s:List UInt8) (hs:s.length≤1000000):HFn Tryz.prog 14 [.v (str s)] (owStrs (linesB s)):=by
 refine HCalls_body (fn:=Tryz.f14) 19 [2] (by kernel_rfl) rfl (by kernel_rfl) (HW.run 200 (by kernel_rfl) ?_)
 simp (config:={ decide:=true }) only[go_sem,Nat.reduceAdd,Nat.reduceSub,Nat.reduceMul,Nat.reduceBEq,reduceIte,reduceCtorEq]
 refine callX_fn 3 (refCut s 10 hs) (by simp only[go_sem];rfl) nz_owStrs ?_
 have hne:=cutB_ne 10 s
 have hlen:=cutB_length 10 s
 unfold linesB
 generalize cutB 10 s=l at hne hlen⊢
 have hpos:0<l.length:=List.length_pos_iff.2 hne
 have e1:IntKind.i64.wrap ((l.length:Int)-1)=((l.length-1:Nat):Int):=by rw[w64 (by omega) (by omega)];omega
 have e2:l[l.length-1]?=some (l.getLast hne):=by rw[List.getLast_eq_getElem];simp[hpos]
 have e3:l.getLast?=some (l.getLast hne):=List.getLast?_eq_some_getLast hne
 have e4:l.take (l.length-1)=l.dropLast:=by rw[List.dropLast_eq_take]
 rw[e3]
 simp (config:={ decide:=true }) only[go_sem,owStrs,Nat.reduceAdd,Nat.reduceSub,Nat.reduceMul,Nat.reduceBEq,reduceIte,reduceCtorEq,e1,e2,e4]
 refine ⟨by omega,fun he=>⟨by omega,?_⟩,fun he=>?_⟩
 ·rw[if_pos (by rw[he]),if_pos (by simp)]
  simp[endP,nmH]
 ·rw[if_neg (by simpa using he)]
theorem refWords (s:List UInt8) (hs:s.length≤1000000):HFn Tryz.prog 15 [.v (str s)] (owStrs (wordsB s)):=by
 refine HCalls_body (fn:=Tryz.f15) 27 [2] (by kernel_rfl) rfl (by kernel_rfl) (HW.run 200 (by kernel_rfl) ?_)
 simp (config:={ decide:=true }) only[go_sem,Nat.reduceAdd,Nat.reduceSub,Nat.reduceMul,Nat.reduceBEq,reduceIte,reduceCtorEq]
 refine callX_fn 3 (refCut s 32 hs) (by simp only[go_sem];rfl) nz_owStrs ?_
 have hlen:=cutB_length 32 s
 have hw:wordsB s=(cutB 32 s).filter fun w=>!w.isEmpty:=rfl
 generalize cutB 32 s=l at hlen hw⊢
 simp (config:={ decide:=true }) only[go_sem,owStrs,Nat.reduceAdd,Nat.reduceSub,Nat.reduceMul,Nat.reduceBEq,reduceIte,reduceCtorEq]
 refine HW.loopG (fun k T H=>∃(i:Nat),k=l.length-i∧i≤l.length∧
  T 4=.hd 0 0 l.length∧T 3=.hd 1 0 ((l.take i).filter fun w=>!w.isEmpty).length∧T 5=.v (.int .i64 i)∧H=[some ⟨9,1,strs l⟩,some ⟨9,1,strs ((l.take i).filter fun w=>!w.isEmpty)⟩]) l.length
  ⟨_,_,Ghost.nil 3 9 1 rfl,0,by simp,by omega,rfl,rfl,rfl,rfl⟩ ?_
 rintro k T H ⟨i,rfl,hi,h4,h3,h5,rfl⟩
 have hfl:((l.take i).filter fun w=>!w.isEmpty).length≤i:=Nat.le_trans (List.length_filter_le _ _) (by simp;omega)
 refine HW.run 200 (by kernel_rfl) ?_
 rcases Nat.lt_or_ge i l.length with hlt | hge
 ·have hlt' : (i:Int)<(l.length:Int):=by omega
  have hx:l[i]?=some l[i]:=by simp[hlt]
  have ht:l.take (i+1)=l.take i++[l[i]]:=by rw[List.take_add_one,hx];rfl
  simp (config:={ decide:=true }) only[go_sem,Nat.reduceAdd,Nat.reduceSub,Nat.reduceMul,Nat.reduceBEq,reduceIte,reduceCtorEq,h4,h3,h5,hlt',hx]
  have hf:¬l[i]=[]→(l.take (i+1)).filter (fun w=>!w.isEmpty)=((l.take i).filter fun w=>!w.isEmpty)++[l[i]]:=fun hne=>by
   rw[ht,List.filter_append]
   simp[List.filter_cons,hne]
  have hf2:l[i]=[]→(l.take (i+1)).filter (fun w=>!w.isEmpty)=((l.take i).filter fun w=>!w.isEmpty):=fun he=>by
   rw[ht,List.filter_append]
   simp[List.filter_cons,he]
  refine ⟨fun hne=>⟨by omega,_,_,Ghost.trunc [3,4,5] 2 (by omega) ?_ ?_,l.length-(i+1),by omega,i+1,rfl,by omega,?_,?_,?_,?_⟩,
   fun he=>⟨_,_,Ghost.refl,l.length-(i+1),by omega,i+1,rfl,by omega,?_,?_,?_,?_⟩⟩
  ·simp (config:={ decide:=true }) only[go_sem,Nat.reduceBEq,reduceIte,h4]
  ·simp (config:={ decide:=true }) only[go_sem,Nat.reduceBEq,reduceIte]
  ·simp (config:={ decide:=true }) only[go_sem,Nat.reduceBEq,reduceIte,h4]
  ·rw[hf hne]
   simp (config:={ decide:=true }) only[go_sem,Nat.reduceBEq,reduceIte]
  ·simp (config:={ decide:=true }) only[go_sem,Nat.reduceBEq,reduceIte]
   rw[w64 (by omega) (by omega)];rfl
  ·rw[hf hne];rfl
  ·simp (config:={ decide:=true }) only[go_sem,Nat.reduceBEq,reduceIte,h4]
  ·rw[hf2 he]
   simp (config:={ decide:=true }) only[go_sem,Nat.reduceBEq,reduceIte,h3]
  ·simp (config:={ decide:=true }) only[go_sem,Nat.reduceBEq,reduceIte]
   rw[w64 (by omega) (by omega)];rfl
  ·rw[hf2 he]
 ·have ei:i=l.length:=by omega
  subst ei
  rw[List.take_length] at h3
  simp (config:={ decide:=true }) only[go_sem,Nat.reduceAdd,Nat.reduceSub,Nat.reduceMul,Nat.reduceBEq,reduceIte,reduceCtorEq,h4,h3,h5,hw,Int.lt_irrefl]
theorem regB_in {s:List UInt8} {i:Nat} (hi:i<4) (h:regNm (i:Int)=s):regB s=(i:Int):=by
 subst h
 rcases (by omega:i=0∨i=1∨i=2∨i=3) with rfl | rfl | rfl | rfl <;> decide
theorem regB_out {s:List UInt8} (h:∀j:Nat,j<4→s≠regNm (j:Int)):regB s = -1:=by
 have h0:s≠regNm 0:=h 0 (by omega)
 have h1:s≠regNm 1:=h 1 (by omega)
 have h2:s≠regNm 2:=h 2 (by omega)
 have h3:s≠regNm 3:=h 3 (by omega)
 unfold regB
 rw[if_neg h0,if_neg h1,if_neg h2,if_neg h3]
theorem refReg (s:List UInt8):HFn Tryz.prog 36 [.v (str s)] (.v (.int .i64 (regB s))):=by
 refine HCalls_body (fn:=Tryz.f36) 13 [2] (by kernel_rfl) rfl (by kernel_rfl) (HW.run 200 (by kernel_rfl) ?_)
 simp (config:={ decide:=true }) only[go_sem,Nat.reduceAdd,Nat.reduceSub,Nat.reduceMul,Nat.reduceBEq,reduceIte,reduceCtorEq]
 refine HW.loopG (fun k T H=>∃(i:Nat),k=4-i∧i≤4∧(∀j:Nat,j<i→s≠regNm j)∧T 0=.v (str s)∧T 3=.v (.int .i64 i)∧H=[]) 4
  ⟨_,_,Ghost.refl,0,by simp,by omega,by simp,rfl,rfl,rfl⟩ ?_
 rintro k T H ⟨i,rfl,hi,hno,h0,h3,rfl⟩
 refine HW.run 200 (by kernel_rfl) ?_
 rcases Nat.lt_or_ge i 4 with hlt | hge
 ·have hlt' : (i:Int)<4:=by omega
  simp (config:={ decide:=true }) only[go_sem,Nat.reduceAdd,Nat.reduceSub,Nat.reduceMul,Nat.reduceBEq,reduceIte,reduceCtorEq,h0,h3,hlt']
  refine callX_fn 3 (refRegName i) (by simp only[go_sem]) rfl ?_
  simp (config:={ decide:=true }) only[go_sem,Nat.reduceAdd,Nat.reduceSub,Nat.reduceMul,Nat.reduceBEq,reduceIte,reduceCtorEq,h0,h3]
  refine ⟨fun he=>?_,fun hne=>⟨_,_,Ghost.refl,4-(i+1),by omega,i+1,rfl,by omega,?_,?_,?_,rfl⟩⟩
  ·rw[regB_in hlt he]
  ·intro j hj e
   rcases Nat.lt_or_ge j i with h | h
   ·exact hno j h e
   ·have:j=i:=by omega
    subst this;exact hne e.symm
  ·simp (config:={ decide:=true }) only[go_sem,Nat.reduceBEq,reduceIte,h0]
  ·simp (config:={ decide:=true }) only[go_sem,Nat.reduceBEq,reduceIte]
   rw[w64 (by omega) (by omega)];rfl
 ·have ei:i=4:=by omega
  subst ei
  simp (config:={ decide:=true }) only[go_sem,Nat.reduceAdd,Nat.reduceSub,Nat.reduceMul,Nat.reduceBEq,reduceIte,reduceCtorEq,h0,h3,Int.cast_ofNat_Int,Int.lt_irrefl]
  rw[regB_out hno]
theorem regPr (s:List UInt8):HFn Tryz.prog 89 [.v (str s)] (.v (.int .i64 (regB s))):=by
 refine HCalls_body (fn:=Tryz.f89) 13 [2] (by kernel_rfl) rfl (by kernel_rfl) (HW.run 200 (by kernel_rfl) ?_)
 simp (config:={ decide:=true }) only[go_sem,Nat.reduceAdd,Nat.reduceSub,Nat.reduceMul,Nat.reduceBEq,reduceIte,reduceCtorEq]
 refine HW.loopG (fun k T H=>∃(i:Nat),k=4-i∧i≤4∧(∀j:Nat,j<i→s≠regNm j)∧T 0=.v (str s)∧T 4=.v (.int .i64 i)∧H=[]) 4
  ⟨_,_,Ghost.refl,0,by simp,by omega,by simp,rfl,rfl,rfl⟩ ?_
 rintro k T H ⟨i,rfl,hi,hno,h0,h3,rfl⟩
 refine HW.run 200 (by kernel_rfl) ?_
 rcases Nat.lt_or_ge i 4 with hlt | hge
 ·have hlt' : (i:Int)<4:=by omega
  simp (config:={ decide:=true }) only[go_sem,Nat.reduceAdd,Nat.reduceSub,Nat.reduceMul,Nat.reduceBEq,reduceIte,reduceCtorEq,h0,h3,hlt']
  refine callX_fn 3 (regName i) (by simp only[go_sem]) rfl ?_
  simp (config:={ decide:=true }) only[go_sem,Nat.reduceAdd,Nat.reduceSub,Nat.reduceMul,Nat.reduceBEq,reduceIte,reduceCtorEq,h0,h3]
  refine ⟨fun he=>?_,fun hne=>⟨_,_,Ghost.refl,4-(i+1),by omega,i+1,rfl,by omega,?_,?_,?_,rfl⟩⟩
  ·rw[regB_in hlt he]
  ·intro j hj e
   rcases Nat.lt_or_ge j i with h | h
   ·exact hno j h e
   ·have:j=i:=by omega
    subst this;exact hne e.symm
  ·simp (config:={ decide:=true }) only[go_sem,Nat.reduceBEq,reduceIte,h0]
  ·simp (config:={ decide:=true }) only[go_sem,Nat.reduceBEq,reduceIte]
   rw[w64 (by omega) (by omega)];rfl
 ·have ei:i=4:=by omega
  subst ei
  simp (config:={ decide:=true }) only[go_sem,Nat.reduceAdd,Nat.reduceSub,Nat.reduceMul,Nat.reduceBEq,reduceIte,reduceCtorEq,h0,h3,Int.cast_ofNat_Int,Int.lt_irrefl]
  rw[regB_out hno]
end Go.Proofs.YtmapdjdnnhlpiaaGreatDoor
namespace Go.Proofs.YtmapdjdnnhlpiaaGreatDoor
open Go.RowKit
set_option maxRecDepth 8000
theorem refName (s:List UInt8) (hs:s.length≤1000000):HFn Tryz.prog 37 [.v (str s)] (.v (.bool (nameB s))):=by
 refine HCalls_body (fn:=Tryz.f37) 54 [2] (by kernel_rfl) rfl (by kernel_rfl) (HW.run 200 (by kernel_rfl) ?_)
 simp (config:={ decide:=true }) only[go_sem,Nat.reduceAdd,Nat.reduceSub,Nat.reduceMul,Nat.reduceBEq,reduceIte,reduceCtorEq]
 refine HW.loopG (fun k T H=>∃(i:Nat),k=s.length-i∧i≤s.length∧(∀j:Nat,j<i→∀b,s[j]?=some b→okB j b=true)∧T 0=.v (str s)∧T 3=.v (.int .i64 i)∧H=[]) s.length
  ⟨_,_,Ghost.refl,0,by simp,by omega,by simp,rfl,rfl,rfl⟩ ?_
 rintro k T H ⟨i,rfl,hi,hok,h0,h3,rfl⟩
 refine HW.run 200 (by kernel_rfl) ?_
 rcases Nat.lt_or_ge i s.length with hlt | hge
 ·have hlt' : (i:Int)<(s.length:Int):=by omega
  have hx:s[i]?=some s[i]:=by simp[hlt]
  have next:∀T' : Nat→HV,okB i s[i]=true→T' 0=.v (str s)→T' 3=.v (.int .i64 (IntKind.i64.wrap ((i:Int)+1)))→
    GQ 54 0 (fun T' H'=>∃k',k' < s.length-i∧∃(i:Nat),k'=s.length-i∧i≤s.length∧(∀j:Nat,j<i→∀b,s[j]?=some b→okB j b=true)∧T' 0=.v (str s)∧T' 3=.v (.int .i64 i)∧H'=[]) T' []:=by
   intro T' hb t0 t3
   refine ⟨_,_,Ghost.refl,s.length-(i+1),by omega,i+1,rfl,by omega,?_,t0,?_,rfl⟩
   ·intro j hj b hjb
    rcases Nat.lt_or_ge j i with h | h
    ·exact hok j h b hjb
    ·have:j=i:=by omega
     subst this
     rw[hx] at hjb;cases hjb;exact hb
   ·rw[t3,w64 (by omega) (by omega)];rfl
  simp (config:={ decide:=true,contextual:=true }) only[go_sem,Nat.reduceAdd,Nat.reduceSub,Nat.reduceMul,Nat.reduceBEq,reduceIte,reduceCtorEq,h0,h3,hlt',hx]
  repeat' first | intro h | apply And.intro
  all_goals first
   | exact vb (nameB_bad hx (okB_false (by omega))).symm
   | (refine next _ (okB_true (by omega)) ?_ ?_ <;> simp (config:={ decide:=true }) only[go_sem,Nat.reduceBEq,reduceIte,h0])
 ·have ei:i=s.length:=by omega
  subst ei
  have hall:∀i:Nat,∀b,s[i]?=some b→okB i b=true:=fun i b hb=>hok i (List.getElem?_eq_some_iff.1 hb).1 b hb
  rw[nameB_good hall]
  simp (config:={ decide:=true,contextual:=true }) only[go_sem,Nat.reduceAdd,Nat.reduceSub,Nat.reduceMul,Nat.reduceBEq,reduceIte,reduceCtorEq,h0,h3,Int.lt_irrefl]
  refine ⟨fun h1=>⟨fun h8=>?_,fun h8=>?_⟩,fun h1=>?_⟩
  ·have e1:(!s.isEmpty)=true:=by cases s <;> simp_all
   have e2:decide (s.length≤8)=true:=by rw[decide_eq_true_eq];omega
   rw[e1,e2,Bool.true_and,Bool.true_and]
   refine callX_fn 3 (refKey s) (by simp only[go_sem]) rfl ?_
   simp (config:={ decide:=true,contextual:=true }) only[go_sem,Nat.reduceAdd,Nat.reduceSub,Nat.reduceMul,Nat.reduceBEq,reduceIte,reduceCtorEq,h0]
   refine ⟨fun hk=>?_,fun hk=>?_⟩
   ·refine callX_fn 3 (refReg s) (by simp only[go_sem]) rfl ?_
    simp (config:={ decide:=true,contextual:=true }) only[go_sem,Nat.reduceAdd,Nat.reduceSub,Nat.reduceMul,Nat.reduceBEq,reduceIte,reduceCtorEq,h0,hk]
   ·simp[hk]
  ·have e2:decide (s.length≤8)=false:=by rw[decide_eq_false_iff_not];omega
   rw[e2];simp
  ·have e1:(!s.isEmpty)=false:=by cases s <;> simp_all;omega
   rw[e1];simp
end Go.Proofs.YtmapdjdnnhlpiaaGreatDoor
namespace Go.Proofs.YtmapdjdnnhlpiaaGreatDoor
open Go.RowKit Go.Shelf
set_option maxRecDepth 8000
def renCut:Ren where
 f:=fun n=>if n=145 then 41 else if n=217 then 94 else if n=219 then 75 else if n=220 then 57 else if n=224 then 96 else if n=225 then 95 else if n=266 then 112 else if n=267 then 97 else if n=314 then 113 else 0
 t:=fun n=>if n=3 then 3 else if n=4 then 4 else if n=5 then 5 else if n=9 then 9 else if n=46 then 149 else if n=51 then 165 else if n=59 then 74 else if n=146 then 166 else 0
 g:=fun n=>if n=1 then 1 else 0
theorem agg_no {P:Program} {t:TypeId} {d:TypeDesc} (h:P.underlying t=some d) (hd:(match d with | .struct _ | .array _ _=>true | _=>false)=false):∀w,(isAgg t).run P w=.ok false w:=by
 intro w
 unfold isAgg
 simp only[Sem.run_bind,run_underlying h,Result.andThen_ok]
 cases d <;> simp_all
theorem laysCut:Lays.n145 Tryz.prog renCut where
 mixed:=by kernel_rfl
 f145:=by kernel_rfl
 f217:=by kernel_rfl
 f219:=by kernel_rfl
 f220:=by kernel_rfl
 f224:=by kernel_rfl
 f225:=by kernel_rfl
 f266:=by kernel_rfl
 f267:=by kernel_rfl
 f314:=by kernel_rfl
 t3:=by kernel_rfl
 a3:=agg_no (P:=Tryz.prog) (t:=renCut.t 3) (d:=.int .i64) (by kernel_rfl) rfl
 z3:=fun w=>by kernel_rfl
 v3:=fun w=>by kernel_rfl
 t4:=by kernel_rfl
 a4:=agg_no (P:=Tryz.prog) (t:=renCut.t 4) (d:=.bool) (by kernel_rfl) rfl
 z4:=fun w=>by kernel_rfl
 v4:=fun w=>by kernel_rfl
 t5:=by kernel_rfl
 a5:=agg_no (P:=Tryz.prog) (t:=renCut.t 5) (d:=.int .u8) (by kernel_rfl) rfl
 z5:=fun w=>by kernel_rfl
 v5:=fun w=>by kernel_rfl
 t9:=by kernel_rfl
 a9:=agg_no (P:=Tryz.prog) (t:=renCut.t 9) (d:=.string) (by kernel_rfl) rfl
 z9:=fun w=>by kernel_rfl
 v9:=fun w=>by kernel_rfl
 t46:=by kernel_rfl
 a46:=agg_no (P:=Tryz.prog) (t:=renCut.t 46) (d:=.int .u64) (by kernel_rfl) rfl
 z46:=fun w=>by kernel_rfl
 v46:=fun w=>by kernel_rfl
 t51:=by kernel_rfl
 a51:=agg_no (P:=Tryz.prog) (t:=renCut.t 51) (d:=.int .u32) (by kernel_rfl) rfl
 z51:=fun w=>by kernel_rfl
 v51:=fun w=>by kernel_rfl
 t59:=by kernel_rfl
 a59:=agg_no (P:=Tryz.prog) (t:=renCut.t 59) (d:=.tuple #[renCut.t 9,renCut.t 9,renCut.t 4]) (by kernel_rfl) rfl
 z59:=fun w=>by kernel_rfl
 v59:=fun w=>by kernel_rfl
 t146:=by kernel_rfl
 a146:=agg_no (P:=Tryz.prog) (t:=renCut.t 146) (d:=.tuple #[renCut.t 51,renCut.t 51]) (by kernel_rfl) rfl
 z146:=fun w=>by kernel_rfl
 v146:=fun w=>by kernel_rfl
 g1:=by kernel_rfl
theorem enters {P:Program} {f:FuncId} {fn:Func} {c:Code} (hf:P.funcs[f]?=some fn) (hb:fn.body=some c) (hn:(fn.name == "runtime.NumGoroutine")=false) (vals:Array Value) (w:World):(callFunc f vals).run P w=.ok (.enter f vals) w:=by
 have hne:¬fn.name = "runtime.NumGoroutine" :=by simpa using hn
 simp[callFunc,hf,hne,hb]
theorem stringsCut (s sep:List UInt8) (hs:s.length<4294967281):HFn Tryz.prog 41 [.v (str s),.v (str sep)] (.tu [.v (str (Lib.cut s sep).1),.v (str (Lib.cut s sep).2.1),.v (.bool (Lib.cut s sep).2.2)]):=by
 refine ⟨enters (fn:=Tryz.f41) rfl rfl rfl,fun Z G FP w vals hi ha=>?_⟩
 simp only[RL,RV] at ha
 obtain ⟨y1,ys1,f1,f2,rfl,hf,⟨_,rfl⟩,y2,ys2,f3,f4,rfl,hf2,⟨_,rfl⟩,rfl,_⟩:=ha
 obtain ⟨_,m,hm⟩:=hi.glob.int 1 rfl
 have hsz:(⟨s.toArray⟩:ByteArray).size<4294967281:=by simpa [ByteArray.size] using hs
 refine Calls.mono (Any.strings_Cut laysCut ⟨s.toArray⟩ ⟨sep.toArray⟩ m w hsz hm) ?_
 rintro e w' ⟨rfl,n,rfl⟩
 have hh:(w.drewN n).heap=w.heap:=rfl
 refine ⟨_,_,[],Z,G,FP,[],rfl,rfl,rfl,hi.keep (by rw[hh];exact Nat.le_refl _) (fun _ _=>by rw[hh]),?_,by simp,by simp,by simp,GLe.refl _,⟨rfl,rfl,rfl,by rw[hh];exact Nat.le_refl _,fun _ _ _=>by rw[hh],fun _ h=>h,fun _ h=>.inl h,fun id b hb=>.inr ⟨id,hb⟩⟩⟩
 simp only[RV,RL]
 refine ⟨_,rfl,_,_,[],[],rfl,rfl,⟨rfl,?_⟩,_,_,[],[],rfl,rfl,⟨rfl,?_⟩,_,_,[],[],rfl,rfl,⟨rfl,?_⟩,rfl,rfl⟩ <;> simp[str]
end Go.Proofs.YtmapdjdnnhlpiaaGreatDoor
namespace Go.Proofs.YtmapdjdnnhlpiaaGreatDoor
set_option maxRecDepth 8000
theorem index1 (c:UInt8):∀s:List UInt8,(∃p r,s=p++c::r∧c∉p∧Lib.index s [c]=(p.length:Int))∨(c∉s∧Lib.index s [c] = -1)
 | []=>.inr ⟨by simp,by simp[Lib.index]⟩
 | b::l=>by
  by_cases hb:c=b
  ·subst hb
   exact .inl ⟨[],l,rfl,by simp,by simp[Lib.index,List.isPrefixOf]⟩
  ·have hp:([c]:List UInt8).isPrefixOf (b::l)=false:=by simp[List.isPrefixOf,hb]
   rcases index1 c l with ⟨p,r,rfl,h1,h2⟩ | ⟨h1,h2⟩
   ·refine .inl ⟨b::p,r,rfl,by simp[hb,h1],?_⟩
    have hne:(p.length:Int)≠-1:=by omega
    simp only[Lib.index,hp,h2]
    simp[hne]
   ·refine .inr ⟨by simp[hb,h1],?_⟩
    simp only[Lib.index,hp,h2]
    simp
theorem cut1 (c:UInt8) (s:List UInt8):(∃p r,s=p++c::r∧c∉p∧Lib.cut s [c]=(p,r,true))∨(c∉s∧Lib.cut s [c]=(s,[],false)):=by
 rcases index1 c s with ⟨p,r,rfl,h1,h2⟩ | ⟨h1,h2⟩
 ·refine .inl ⟨p,r,rfl,h1,?_⟩
  unfold Lib.cut
  rw[h2,if_pos (by omega)]
  simp
 ·refine .inr ⟨h1,?_⟩
  unfold Lib.cut
  rw[h2,if_neg (by omega)]
theorem linesB_nil:linesB []=[]:=by decide
theorem linesB_step {s:List UInt8} (hs:s≠[]):linesB s=(Lib.cut s [10]).1::linesB (Lib.cut s [10]).2.1∧(Lib.cut s [10]).2.1.length<s.length:=by
 rcases cut1 10 s with ⟨p,r,rfl,h1,h2⟩ | ⟨h1,h2⟩
 ·rw[h2]
  refine ⟨?_,by simp;omega⟩
  unfold linesB
  rw[cutB_sep h1]
  have hne:=cutB_ne 10 r
  rw[List.getLast?_cons_of_ne_nil hne]
  split
  ·rw[List.dropLast_cons_of_ne_nil hne]
  ·rfl
 ·rw[h2]
  refine ⟨?_,by simpa using List.length_pos_iff.2 hs⟩
  unfold linesB
  rw[cutB_plain h1]
  simp[cutB,hs]
end Go.Proofs.YtmapdjdnnhlpiaaGreatDoor
namespace Go.Proofs.YtmapdjdnnhlpiaaGreatDoor
open Go.RowKit
set_option maxRecDepth 8000
def LinesI (s:List UInt8) (k:Nat) (T:Nat→HV) (H:Heap):Prop:=∃out cur,k=cur.length∧linesB s=out++linesB cur∧out.length+cur.length≤s.length∧
 T 0=.v (str cur)∧T 3=.hd 0 0 out.length∧H=[some ⟨9,1,strs out⟩]
theorem linesPr (s:List UInt8) (hs:s.length≤1000000):HFn Tryz.prog 23 [.v (str s)] (owStrs (linesB s)):=by
 refine HCalls_body (fn:=Tryz.f23) 21 [2] (by kernel_rfl) rfl (by kernel_rfl) (HW.run 200 (by kernel_rfl) ?_)
 simp (config:={ decide:=true }) only[go_sem,Nat.reduceAdd,Nat.reduceSub,Nat.reduceMul,Nat.reduceBEq,reduceIte,reduceCtorEq]
 refine (fun (pass:∀k T H,LinesI s k T H→HW Tryz.prog 21 0 _ (jumpQ 0 (GQ 21 0 fun T' H'=>∃k',k' < k∧LinesI s k' T' H') _) T H)=>HW.scopeG 0 (LinesI s) rfl (HW.seq (HW.run 60 (by kernel_rfl) ?_)) (fun k T H h=>HW.seq (HW.skip (pass k T H h)))) ?_
 ·simp (config:={ decide:=true }) only[go_sem,Nat.reduceAdd,Nat.reduceSub,Nat.reduceMul,Nat.reduceBEq,reduceIte,reduceCtorEq]
  refine HW.ghost (Ghost.nil 3 9 1 rfl) (HW.seq (HW.label (HW.mono (pass s.length _ _ ⟨[],s,rfl,rfl,by simp,rfl,rfl,rfl⟩) ?_)))
  intro e T H hq
  cases e with
  | goto l =>
   obtain ⟨h1,T',H',g,k,_,hk⟩:=hq
   exact ⟨h1,T',H',g,k,hk⟩
  | _=>exact hq
 ·rintro k T H ⟨out,cur,rfl,hl,hb,h0,h3,rfl⟩
  refine HW.run 200 (by kernel_rfl) ?_
  by_cases hc:cur=[]
  ·subst hc
   simp (config:={ decide:=true }) only[go_sem,Nat.reduceAdd,Nat.reduceSub,Nat.reduceMul,Nat.reduceBEq,reduceIte,reduceCtorEq,h0,h3]
   rw[hl,linesB_nil,List.append_nil]
   rfl
  ·simp (config:={ decide:=true }) only[go_sem,Nat.reduceAdd,Nat.reduceSub,Nat.reduceMul,Nat.reduceBEq,reduceIte,reduceCtorEq,h0,h3,hc]
   obtain ⟨hst,hlt⟩:=linesB_step hc
   refine callX_fn 3 (stringsCut cur [10] (by omega)) (by simp only[go_sem]) rfl ?_
   generalize Lib.cut cur [10]=ct at hst hlt⊢
   obtain ⟨ln,rs,fd⟩:=ct
   simp (config:={ decide:=true }) only[go_sem,Nat.reduceAdd,Nat.reduceSub,Nat.reduceMul,Nat.reduceBEq,reduceIte,reduceCtorEq,h0,h3]
   refine ⟨by omega,_,_,Ghost.trunc [0,3] 1 (by omega) ?_ ?_,rs.length,hlt,out++[ln],rs,rfl,?_,?_,?_,?_,rfl⟩
   ·simp (config:={ decide:=true }) only[go_sem,Nat.reduceBEq,reduceIte]
   ·simp (config:={ decide:=true }) only[go_sem,Nat.reduceBEq,reduceIte]
   ·rw[hl,hst];simp
   ·simp only[List.length_append,List.length_cons,List.length_nil] at hlt⊢
    omega
   ·simp (config:={ decide:=true }) only[go_sem,Nat.reduceBEq,reduceIte]
   ·simp (config:={ decide:=true }) only[go_sem,Nat.reduceBEq,reduceIte]
end Go.Proofs.YtmapdjdnnhlpiaaGreatDoor
