/- Parts of the proof: HiDe, Ty, Fo, Sa, Sb, Db, HiU. -/
import Derived.Test.YtoknohandclcbaaGreatZc06
import Derived.Test.YtoknohandclcbaaGreatZc05
import Derived.Test.YtoknohandclcbaaGreatProg
import Derived.ScopeJumps
open Nat renaming reduceAdd → nA, reduceSub → nS, reduceMul → nM, reduceBEq → nB
open Int renaming reduceToNat → nT
set_option linter.unusedSectionVars false
set_option linter.unusedVariables false
set_option linter.unusedSimpArgs false
namespace Go.Proofs.YtoknohandclcbaaGreat
open Go.RowKit
section
variable {P:Program} {all l:List Oper} {k:KS} {d:Option Nat} {T:Nat→HV} {H:Heap} {base j:Nat} {bs:Nat×Nat} {hv:List Nat} {h:Bool}
theorem z1J:exM P bs hv all k j [] T H=k T H:=rfl
theorem z3l {op:Op} {ty:TypeId} {pos:String} {af:Array Edge}:exM P bs hv all k j (⟨d,op,ty,pos,af,none⟩::l) T H=exOe (exM P bs hv all k (j+1) l) P (bsO hv bs j) (hv.contains j) d op T H:=rfl
theorem z1I {op:Op} {ty:TypeId} {pos:String} {af:Array Edge} {i:Nat} {b:Bool}:exM P bs hv all k j (⟨d,op,ty,pos,af,some (i,b)⟩::l) T H=exBm (exM P bs hv all k (j+1) l) P (bsO hv bs j) (hv.contains j) (zA4 all i) b d op T H:=rfl
theorem zTk {op:Op}:exOe k P base true d op T H=exOm k P base d op T H:=rfl
theorem zQB {op:Op}:exOe k P base false d op T H=exOn k P base d op T H:=rfl
theorem zQC {h h' : Bool} {op:Op} (e:h=h'):exOe k P base h d op T H=exOe k P base h' d op T H:=by rw[e]
theorem zUG {t:Nat} {b:Bool} {op:Op}:exBm k P base h (some t) b d op T H=zDf k P base h (T t) b d op T H:=rfl
theorem zX6 {op:Op}:zDf k P base h (.v (.bool true)) true d op T H=exOe k P base h d op T H:=by simp[zDf]
theorem zX9 {op:Op}:zDf k P base h (.v (.bool false)) false d op T H=exOe k P base h d op T H:=by simp[zDf]
theorem zX7 {op:Op}:zDf k P base h (.v (.bool true)) false d op T H=k (updO T d (.v undef)) H:=by simp[zDf]
theorem zX8 {op:Op}:zDf k P base h (.v (.bool false)) true d op T H=k (updO T d (.v undef)) H:=by simp[zDf]
theorem zMf {b:Bool} {op:Op}:zDf k P base h (.v undef) b d op T H=k (updO T d (.v undef)) H:=rfl
theorem zQS {c b:Bool} {op:Op}:zDf k P base h (.v (.bool c)) b d op T H=((c=b→exOe k P base h d op T H)∧(c=(!b)→k (updO T d (.v undef)) H)):=rfl
theorem z0x {p:Prop} {x:HV} {H' : Heap}:exRn k (rv H' p x) d T H=(p∧k (updO T d x) H):=rfl
theorem zTW:exRn k none d T H=False:=rfl
theorem zTX {p:Prop} {x:HV} {H' : Heap}:exRm k base (some (p,x,H')) d T H=(p∧isTo base H H'∧H.length≤H'.length∧k (updO T d x) H'):=rfl
theorem z0y {p:Prop} {x:HV} {H' : Heap}:exRm k base (rv H' p x) d T H=(p∧isTo base H H'∧H.length≤H'.length∧k (updO T d x) H'):=rfl
theorem zTY:exRm k base none d T H=False:=rfl
theorem zPo {x x' : Res} (e:x=x'):exRn k x d T H=exRn k x' d T H:=by rw[e]
theorem zPp {x x' : Res} (e:x=x'):exRm k base x d T H=exRm k base x' d T H:=by rw[e]
theorem zQR {t t' : Option Nat} {b:Bool} {op:Op} {h h' : Bool} (e:t=t') (e2:h=h'):exBm k P base h t b d op T H=exBm k P base h' t' b d op T H:=by rw[e,e2]
theorem zMg {v v' : HV} {b:Bool} {op:Op} (e:v=v'):zDf k P base h v b d op T H=zDf k P base h v' b d op T H:=by rw[e]
theorem zQN {fid:Nat} {caps args:List HV} (h:fid<4294967296):zDd k P (.fn fid caps) H args d T=zIt k P fid H (args++caps) d T:=by
 show zIt k P (fnF fid) H (fnA fid .any args caps) d T=_
 rw[zGY h,zFJ h]
theorem zKh {fid:Nat} {x:HV} {caps args:List HV} (h:¬fid<4294967296):zDd k P (.fn fid (x::caps)) H args d T=zIt k P (fnF fid) H (x::(args++caps)) d T:=by
 show zIt k P (fnF fid) H (fnA fid .any args (x::caps)) d T=_
 rw[zGZ h];rfl
theorem zIr {f f' : HV} {args args' : List HV} (hf:f=f') (ha:args=args'):zDd k P f H args d T=zDd k P f' H args' d T:=by rw[hf,ha]
theorem zTu {t:TypeId} {x:HV} {name:String} {args:List HV}:zHj k P (.ic t x) name H args d T=zEt k P (zAb P t name) H (x::args) d T:=rfl
theorem zKa {fid:Nat} {args:List HV}:zEt k P (some fid) H args d T=zIt k P fid H args d T:=rfl
theorem zK9 {f f' : HV} {name:String} {args args' : List HV} (hf:f=f') (ha:args=args'):zHj k P f name H args d T=zHj k P f' name H args' d T:=by rw[hf,ha]
theorem zIo {f f' : Option Nat} {args args' : List HV} (hf:f=f') (ha:args=args'):zEt k P f H args d T=zEt k P f' H args' d T:=by rw[hf,ha]
theorem zQM {fid:Nat} {caps args:List HV} (h:fid<4294967296):zDc k P (.fn fid caps) H args d T=zKw k P fid H (args++caps) d T:=by
 show zKw k P (fnF fid) H (fnA fid .any args caps) d T=_
 rw[zGY h,zFJ h]
theorem zKg {fid:Nat} {x:HV} {caps args:List HV} (h:¬fid<4294967296):zDc k P (.fn fid (x::caps)) H args d T=zKw k P (fnF fid) H (x::(args++caps)) d T:=by
 show zKw k P (fnF fid) H (fnA fid .any args (x::caps)) d T=_
 rw[zGZ h];rfl
theorem zIq {f f' : HV} {args args' : List HV} (hf:f=f') (ha:args=args'):zDc k P f H args d T=zDc k P f' H args' d T:=by rw[hf,ha]
theorem zTt {t:TypeId} {x:HV} {name:String} {args:List HV}:zHi k P (.ic t x) name H args d T=zEs k P (zAb P t name) H (x::args) d T:=rfl
theorem zK8 {fid:Nat} {args:List HV}:zEs k P (some fid) H args d T=zKw k P fid H args d T:=rfl
theorem zK7 {f f' : HV} {name:String} {args args' : List HV} (hf:f=f') (ha:args=args'):zHi k P f name H args d T=zHi k P f' name H args' d T:=by rw[hf,ha]
theorem zIn {f f' : Option Nat} {args args' : List HV} (hf:f=f') (ha:args=args'):zEs k P f H args d T=zEs k P f' H args' d T:=by rw[hf,ha]
theorem zTj {f:Operand} {args:List Operand} {tys:Array TypeId}:exOm k P base d (.call { callee:=.value f,args:=List.toArray args,argTypes:=tys }) T H=(base≤H.length∧zDd k P (hev T f) H (args.map (hev T)) d T):=rfl
theorem zM6 {rv:Operand} {name:String} {args:List Operand} {tys:Array TypeId}:exOm k P base d (.call { callee:=.invoke rv name,args:=List.toArray args,argTypes:=tys }) T H=(base≤H.length∧zHj k P (hev T rv) name H (args.map (hev T)) d T):=rfl
theorem zTg {f:Operand} {args:List Operand} {tys:Array TypeId}:exOn k P base d (.call { callee:=.value f,args:=List.toArray args,argTypes:=tys }) T H=zDc k P (hev T f) H (args.map (hev T)) d T:=rfl
theorem zM4 {rv:Operand} {name:String} {args:List Operand} {tys:Array TypeId}:exOn k P base d (.call { callee:=.invoke rv name,args:=List.toArray args,argTypes:=tys }) T H=zHi k P (hev T rv) name H (args.map (hev T)) d T:=rfl
theorem zG5 {t:TypeId} {len:Nat} {ps:List (Nat×Operand)}:exOn k P base d (.buildSlice t len (List.toArray ps)) T H=exRn k (z2 P T H t len ps) d T H:=rfl
theorem zJ8 {op:Op} {q:Prop} {b:Bool} (hi:zBq op=false) (hb:(op.operands.toList.all fun y=>nm base (hev T y))=b):((zBq op=true∨(op.operands.toList.all fun y=>nm base (hev T y))=true)∧q)=(b=true∧q):=by
 rw[hi,hb];simp
theorem zCa {op:Op} {q:Prop} {r:Prop} (hi:zBq op=true):((zBq op=true∨r)∧q)=q:=by
 rw[hi];simp
theorem zTa {x:Operand}:exOn k P base d (.move x) T H=exRn k (ropQ P T H (.move x)) d T H:=zCa rfl
theorem zM5 {x:Operand}:exOn k P base d (.assign x) T H=exRn k (ropQ P T H (.assign x)) d T H:=zCa rfl
theorem zT9 {c x y:Operand}:exOn k P base d (.pick c x y) T H=exRn k (ropQ P T H (.pick c x y)) d T H:=zCa rfl
theorem zPy {t:TypeId} {ps:Array (Nat×Operand)}:exOn k P base d (.build t ps) T H=exRn k (ropQ P T H (.build t ps)) d T H:=zCa rfl
theorem zXR {op:BinOp} {t t' : TypeId} {x y:Operand}:exOn k P base d (.binOp op t x y t') T H=exRn k (ropQ P T H (.binOp op t x y t')) d T H:=zCa rfl
theorem z1C {op:UnOp} {t:TypeId} {x:Operand}:exOn k P base d (.unOp op t x) T H=exRn k (ropQ P T H (.unOp op t x)) d T H:=zCa rfl
theorem zPw {t:TypeId} {x:Operand}:exOn k P base d (.makeInterface t x) T H=exRn k (ropQ P T H (.makeInterface t x)) d T H:=zCa rfl
theorem zTb {f:Nat} {x:Operand} {cs:List Operand}:exOn k P base d (.makeFunc (.func f) (List.toArray [x]) (List.toArray cs)) T H=exRn k (ropQ P T H (.makeFunc (.func f) (List.toArray [x]) (List.toArray cs))) d T H:=zCa rfl
theorem zTd {f:Nat} {cs:List Operand}:exOn k P base d (.makeFunc (.func f) #[] (List.toArray cs)) T H=exRn k (ropQ P T H (.makeFunc (.func f) #[] (List.toArray cs))) d T H:=zCa rfl
theorem zPx {t:TypeId} {x:Operand} {i:Nat}:exOn k P base d (.field t x i) T H=exRn k (ropQ P T H (.field t x i)) d T H:=zCa rfl
theorem zPv {t:TypeId} {x i:Operand}:exOn k P base d (.index t x i) T H=exRn k (ropQ P T H (.index t x i)) d T H:=zCa rfl
theorem zK0 {x:Operand} {i:Nat}:exOn k P base d (.extract x i) T H=exRn k (ropQ P T H (.extract x i)) d T H:=zCa rfl
theorem zTc {t:TypeId} {a:Operand}:exOn k P base d (.load t a) T H=(nm base (hev T a)=true∧exRn k (ropQ P T H (.load t a)) d T H):=zJ8 rfl (by simp[Op.operands,Call.operands])
theorem zIg {x:Operand}:exOn k P base d (.nilCheck x) T H=(nm base (hev T x)=true∧exRn k (ropQ P T H (.nilCheck x)) d T H):=zJ8 rfl (by simp[Op.operands,Call.operands])
theorem zTe {s t:TypeId} {x:Operand}:exOn k P base d (.convert s t x) T H=(nm base (hev T x)=true∧exRn k (ropQ P T H (.convert s t x)) d T H):=zJ8 rfl (by simp[Op.operands,Call.operands])
theorem zHI {t:TypeId} {x:Operand} {i:Nat}:exOn k P base d (.fieldAddr t x i) T H=(nm base (hev T x)=true∧exRn k (ropQ P T H (.fieldAddr t x i)) d T H):=zJ8 rfl (by simp[Op.operands,Call.operands])
theorem zHH {t:TypeId} {x i:Operand}:exOn k P base d (.indexAddr t x i) T H=((nm base (hev T x) && nm base (hev T i))=true∧exRn k (ropQ P T H (.indexAddr t x i)) d T H):=zJ8 rfl (by simp[Op.operands,Call.operands])
theorem zXQ {x:Operand} {t:TypeId}:exOn k P base d (.call { callee:=.builtin .len,args:=#[x],argTypes:=#[t] }) T H=(nm base (hev T x)=true∧exRn k (ropQ P T H (.call { callee:=.builtin .len,args:=#[x],argTypes:=#[t] })) d T H):=zJ8 rfl (by simp[Op.operands,Call.operands])
theorem zXP {x y:Operand} {t u:TypeId}:exOn k P base d (.call { callee:=.builtin .max,args:=#[x,y],argTypes:=#[t,u] }) T H=((nm base (hev T x) && nm base (hev T y))=true∧exRn k (ropQ P T H (.call { callee:=.builtin .max,args:=#[x,y],argTypes:=#[t,u] })) d T H):=zJ8 rfl (by simp[Op.operands,Call.operands])
theorem zXO {x y:Operand} {t u:TypeId}:exOn k P base d (.call { callee:=.builtin .min,args:=#[x,y],argTypes:=#[t,u] }) T H=((nm base (hev T x) && nm base (hev T y))=true∧exRn k (ropQ P T H (.call { callee:=.builtin .min,args:=#[x,y],argTypes:=#[t,u] })) d T H):=zJ8 rfl (by simp[Op.operands,Call.operands])
theorem zQA {t:TypeId}:exOm k P base d (.alloc t) T H=exRm k base (zH5 P H t) d T H:=rfl
theorem zXS {t:TypeId} {x:Operand}:exOm k P base d (.box t x) T H=exRm k base (rbox P H t (hev T x)) d T H:=rfl
theorem zG6 {t:TypeId} {len:Nat} {ps:List (Nat×Operand)}:exOm k P base d (.buildSlice t len (List.toArray ps)) T H=exRm k base (zAu P T H t len ps) d T H:=rfl
theorem zHJ {t:TypeId} {x y:Operand}:exOm k P base d (.makeSlice t x y) T H=exRm k base (zCJ P H t (hev T x) (hev T y)) d T H:=rfl
theorem zTh {t:TypeId} {a:Operand}:exOm k P base d (.load t a) T H=exRm k base (zJl P H t (hev T a)) d T H:=rfl
theorem zPz {t:TypeId} {a x:Operand}:exOm k P base d (.store t a x) T H=exRm k base (zJd P H t (hev T a) (hev T x)) d T H:=rfl
theorem zM7 {s x:Operand} {t:TypeId}:exOm k P base d (.call { callee:=.builtin .append,args:=#[s,x],argTypes:=#[t,t] }) T H=exRm k base (zCj P H t (hev T s) (hev T x)) d T H:=by
 show exRm k base (if t=t then zCj P H t (hev T s) (hev T x) else none) d T H=_
 rw[if_pos rfl]
theorem zXr {fid:Nat} {args args' : List HV} {R:HV} (n:Nat) (spec:HFn P fid args' R) (hargs:args.map (fz n H)=args') (hnz:nz R=true) (h:k (updO T d (zAH R H).1) (zAH R H).2):zIt k P fid H args d T :=
 ⟨n,R,_,spec,.inl ⟨hargs,hnz⟩,h⟩
theorem zB3 {fid:Nat} {args args' : List HV} {R:HV} (spec:HFn P fid args' R) (hargs:args=args') (hnm:nmL 0 args=true) (h:k (updO T d (zAH R H).1) (zAH R H).2):zIt k P fid H args d T :=
 ⟨0,R,_,spec,.inr ⟨hargs,hnm⟩,h⟩
theorem zOF {fid:Nat} {args args' : List HV} {R:HV} (spec:HFn P fid args' R) (hargs:args=args') (hnm:nmL 0 args=true) (h:k (updO T d (fzo R)) H):zKw k P fid H args d T:=by
 subst hargs
 exact ⟨R,spec,hnm,h⟩
theorem zSa {H H' : Heap}:isTo 0 H H'=True:=by cases H <;> cases H' <;> rfl
theorem zSb {m:Nat} {a:Option HObj} {t u:Heap}:isTo (m+1) (a::t) (a::u)=isTo m t u:=by simp[isTo]
end
attribute [congr] zPo zPp zQR zMg zIr zK9 zIo zIq zK7 zIn zQC
attribute [go_sem high] zX6 zX9 zX7 zX8 zMf zTk zQB
attribute [go_sem] bsO z0x zTW zTX z0y zTY zUG zQS zQN zKh zKg zTu zKa zQM zTt zK8 zSa zSb List.contains_cons List.contains_nil
attribute [go_sem ↓] z1J z3l z1I zTj zM6 zTg zM4 zG5 zM7 zTa zM5 zT9 zPy zXR z1C zPw zTd zTb zPx zPv zK0 zTc zIg zTe zHI zHH zXQ zXP zXO zQA zXS zG6 zHJ zTh zPz
end Go.Proofs.YtoknohandclcbaaGreat
namespace Go.Proofs.YtoknohandclcbaaGreat
open Go.RowKit
set_option maxRecDepth 8000
abbrev I1:TI:=⟨10,1,8,some .nilFunc,[],0,0⟩
theorem ti1:ti Tryz.prog 1=some I1:=by kernel_rfl
theorem zc1:zA I1=some [.v .nilFunc]:=by kernel_rfl
abbrev I2:TI:=⟨8,1,8,some (.int .i64 0),[],0,0⟩
theorem ti2:ti Tryz.prog 2=some I2:=by kernel_rfl
theorem zc2:zA I2=some [.v (.int .i64 0)]:=by kernel_rfl
theorem it2:zAg Tryz.prog 2=some .i64:=by kernel_rfl
abbrev I3:TI:=⟨8,1,8,some (.int .i64 0),[],0,0⟩
theorem ti3:ti Tryz.prog 3=some I3:=by kernel_rfl
theorem zc3:zA I3=some [.v (.int .i64 0)]:=by kernel_rfl
theorem it3:zAg Tryz.prog 3=some .i64:=by kernel_rfl
abbrev I4:TI:=⟨7,1,1,some (.bool false),[],0,0⟩
theorem ti4:ti Tryz.prog 4=some I4:=by kernel_rfl
theorem zc4:zA I4=some [.v (.bool false)]:=by kernel_rfl
theorem ki4:zH Tryz.prog 4 7=true:=by kernel_rfl
abbrev I5:TI:=⟨8,1,1,some (.int .u8 0),[],0,0⟩
theorem ti5:ti Tryz.prog 5=some I5:=by kernel_rfl
theorem zc5:zA I5=some [.v (.int .u8 0)]:=by kernel_rfl
theorem it5:zAg Tryz.prog 5=some .u8:=by kernel_rfl
abbrev I6:TI:=⟨8,1,1,some (.int .u8 0),[],0,0⟩
theorem ti6:ti Tryz.prog 6=some I6:=by kernel_rfl
theorem zc6:zA I6=some [.v (.int .u8 0)]:=by kernel_rfl
theorem it6:zAg Tryz.prog 6=some .u8:=by kernel_rfl
abbrev I7:TI:=⟨1,4,24,some (.agg #[(.int .i64 0),(.int .i64 0),(.bool false),(.int .u8 0)]),[(0,2),(1,3),(2,4),(3,6)],0,0⟩
theorem ti7:ti Tryz.prog 7=some I7:=by kernel_rfl
theorem zc7:zA I7=some [.v (.int .i64 0),.v (.int .i64 0),.v (.bool false),.v (.int .u8 0)]:=by kernel_rfl
abbrev I8:TI:=⟨1,4,24,some (.agg #[(.int .i64 0),(.int .i64 0),(.bool false),(.int .u8 0)]),[(0,2),(1,3),(2,4),(3,6)],0,0⟩
theorem ti8:ti Tryz.prog 8=some I8:=by kernel_rfl
theorem zc8:zA I8=some [.v (.int .i64 0),.v (.int .i64 0),.v (.bool false),.v (.int .u8 0)]:=by kernel_rfl
abbrev I9:TI:=⟨4,1,16,some (str []),[],0,0⟩
theorem ti9:ti Tryz.prog 9=some I9:=by kernel_rfl
theorem zc9:zA I9=some [.v (str [])]:=by kernel_rfl
theorem ki9:zH Tryz.prog 9 4=true:=by kernel_rfl
theorem kn9:zH Tryz.prog 9 3=false:=by kernel_rfl
abbrev I10:TI:=⟨4,1,16,some (str []),[],0,0⟩
theorem ti10:ti Tryz.prog 10=some I10:=by kernel_rfl
theorem zc10:zA I10=some [.v (str [])]:=by kernel_rfl
theorem ki10:zH Tryz.prog 10 4=true:=by kernel_rfl
theorem kn10:zH Tryz.prog 10 3=false:=by kernel_rfl
abbrev I11:TI:=⟨4,1,16,some (str []),[],0,0⟩
theorem ti11:ti Tryz.prog 11=some I11:=by kernel_rfl
theorem zc11:zA I11=some [.v (str [])]:=by kernel_rfl
theorem ki11:zH Tryz.prog 11 4=true:=by kernel_rfl
theorem kn11:zH Tryz.prog 11 3=false:=by kernel_rfl
abbrev I12:TI:=⟨8,1,8,some (.int .u64 0),[],0,0⟩
theorem ti12:ti Tryz.prog 12=some I12:=by kernel_rfl
theorem zc12:zA I12=some [.v (.int .u64 0)]:=by kernel_rfl
theorem it12:zAg Tryz.prog 12=some .u64:=by kernel_rfl
abbrev I13:TI:=⟨1,2,24,some (.agg #[(str []),(.int .u64 0)]),[(0,9),(1,12)],0,0⟩
theorem ti13:ti Tryz.prog 13=some I13:=by kernel_rfl
theorem zc13:zA I13=some [.v (str []),.v (.int .u64 0)]:=by kernel_rfl
abbrev I14:TI:=⟨1,2,24,some (.agg #[(str []),(.int .u64 0)]),[(0,9),(1,12)],0,0⟩
theorem ti14:ti Tryz.prog 14=some I14:=by kernel_rfl
theorem zc14:zA I14=some [.v (str []),.v (.int .u64 0)]:=by kernel_rfl
abbrev I15:TI:=⟨6,1,8,some (.pointer none),[],259,0⟩
theorem ti15:ti Tryz.prog 15=some I15:=by kernel_rfl
theorem zc15:zA I15=some [.v (.pointer none)]:=by kernel_rfl
abbrev I16:TI:=⟨6,1,8,some (.pointer none),[],262,0⟩
theorem ti16:ti Tryz.prog 16=some I16:=by kernel_rfl
theorem zc16:zA I16=some [.v (.pointer none)]:=by kernel_rfl
abbrev I17:TI:=⟨6,1,8,some (.pointer none),[],271,0⟩
theorem ti17:ti Tryz.prog 17=some I17:=by kernel_rfl
theorem zc17:zA I17=some [.v (.pointer none)]:=by kernel_rfl
abbrev I18:TI:=⟨1,1,8,some (.agg #[(.pointer none)]),[(0,17)],0,0⟩
theorem ti18:ti Tryz.prog 18=some I18:=by kernel_rfl
theorem zc18:zA I18=some [.v (.pointer none)]:=by kernel_rfl
abbrev I19:TI:=⟨1,1,8,some (.agg #[(.pointer none)]),[(0,17)],0,0⟩
theorem ti19:ti Tryz.prog 19=some I19:=by kernel_rfl
theorem zc19:zA I19=some [.v (.pointer none)]:=by kernel_rfl
abbrev I20:TI:=⟨9,1,16,some .nilIface,[],0,0⟩
theorem ti20:ti Tryz.prog 20=some I20:=by kernel_rfl
theorem zc20:zA I20=some [.v .nilIface]:=by kernel_rfl
theorem ki20:zH Tryz.prog 20 9=true:=by kernel_rfl
abbrev I21:TI:=⟨8,1,4,some (.int .i32 0),[],0,0⟩
theorem ti21:ti Tryz.prog 21=some I21:=by kernel_rfl
theorem zc21:zA I21=some [.v (.int .i32 0)]:=by kernel_rfl
theorem it21:zAg Tryz.prog 21=some .i32:=by kernel_rfl
abbrev I22:TI:=⟨3,1,24,some (.slice none 0 0),[],3,0⟩
theorem ti22:ti Tryz.prog 22=some I22:=by kernel_rfl
theorem zc22:zA I22=some [.v (.slice none 0 0)]:=by kernel_rfl
theorem ki22:zH Tryz.prog 22 3=true:=by kernel_rfl
abbrev I23:TI:=⟨3,1,24,some (.slice none 0 0),[],84,0⟩
theorem ti23:ti Tryz.prog 23=some I23:=by kernel_rfl
theorem zc23:zA I23=some [.v (.slice none 0 0)]:=by kernel_rfl
theorem ki23:zH Tryz.prog 23 3=true:=by kernel_rfl
abbrev I24:TI:=⟨1,2,48,some (.agg #[(.slice none 0 0),(.slice none 0 0)]),[(0,22),(1,23)],0,0⟩
theorem ti24:ti Tryz.prog 24=some I24:=by kernel_rfl
theorem zc24:zA I24=some [.v (.slice none 0 0),.v (.slice none 0 0)]:=by kernel_rfl
abbrev I25:TI:=⟨1,2,48,some (.agg #[(.slice none 0 0),(.slice none 0 0)]),[(0,22),(1,23)],0,0⟩
theorem ti25:ti Tryz.prog 25=some I25:=by kernel_rfl
theorem zc25:zA I25=some [.v (.slice none 0 0),.v (.slice none 0 0)]:=by kernel_rfl
abbrev I26:TI:=⟨3,1,24,some (.slice none 0 0),[],50,0⟩
theorem ti26:ti Tryz.prog 26=some I26:=by kernel_rfl
theorem zc26:zA I26=some [.v (.slice none 0 0)]:=by kernel_rfl
theorem ki26:zH Tryz.prog 26 3=true:=by kernel_rfl
abbrev I27:TI:=⟨3,1,24,some (.slice none 0 0),[],44,0⟩
theorem ti27:ti Tryz.prog 27=some I27:=by kernel_rfl
theorem zc27:zA I27=some [.v (.slice none 0 0)]:=by kernel_rfl
theorem ki27:zH Tryz.prog 27 3=true:=by kernel_rfl
abbrev I28:TI:=⟨1,5,104,some (.agg #[(.slice none 0 0),(.slice none 0 0),(.slice none 0 0),(.slice none 0 0),(.int .i64 0)]),[(0,22),(1,26),(2,27),(3,27),(4,3)],0,0⟩
theorem ti28:ti Tryz.prog 28=some I28:=by kernel_rfl
theorem zc28:zA I28=some [.v (.slice none 0 0),.v (.slice none 0 0),.v (.slice none 0 0),.v (.slice none 0 0),.v (.int .i64 0)]:=by kernel_rfl
abbrev I29:TI:=⟨1,5,104,some (.agg #[(.slice none 0 0),(.slice none 0 0),(.slice none 0 0),(.slice none 0 0),(.int .i64 0)]),[(0,22),(1,26),(2,27),(3,27),(4,3)],0,0⟩
theorem ti29:ti Tryz.prog 29=some I29:=by kernel_rfl
theorem zc29:zA I29=some [.v (.slice none 0 0),.v (.slice none 0 0),.v (.slice none 0 0),.v (.slice none 0 0),.v (.int .i64 0)]:=by kernel_rfl
abbrev I30:TI:=⟨10,1,8,some .nilFunc,[],0,0⟩
theorem ti30:ti Tryz.prog 30=some I30:=by kernel_rfl
theorem zc30:zA I30=some [.v .nilFunc]:=by kernel_rfl
abbrev I31:TI:=⟨10,1,8,some .nilFunc,[],0,0⟩
theorem ti31:ti Tryz.prog 31=some I31:=by kernel_rfl
theorem zc31:zA I31=some [.v .nilFunc]:=by kernel_rfl
abbrev I32:TI:=⟨3,1,24,some (.slice none 0 0),[],74,0⟩
theorem ti32:ti Tryz.prog 32=some I32:=by kernel_rfl
theorem zc32:zA I32=some [.v (.slice none 0 0)]:=by kernel_rfl
theorem ki32:zH Tryz.prog 32 3=true:=by kernel_rfl
abbrev I34:TI:=⟨10,1,8,some .nilFunc,[],0,0⟩
theorem ti34:ti Tryz.prog 34=some I34:=by kernel_rfl
theorem zc34:zA I34=some [.v .nilFunc]:=by kernel_rfl
abbrev I35:TI:=⟨10,1,8,some .nilFunc,[],0,0⟩
theorem ti35:ti Tryz.prog 35=some I35:=by kernel_rfl
theorem zc35:zA I35=some [.v .nilFunc]:=by kernel_rfl
abbrev I36:TI:=⟨10,1,8,some .nilFunc,[],0,0⟩
theorem ti36:ti Tryz.prog 36=some I36:=by kernel_rfl
theorem zc36:zA I36=some [.v .nilFunc]:=by kernel_rfl
abbrev I37:TI:=⟨8,1,2,some (.int .u16 0),[],0,0⟩
theorem ti37:ti Tryz.prog 37=some I37:=by kernel_rfl
theorem zc37:zA I37=some [.v (.int .u16 0)]:=by kernel_rfl
theorem it37:zAg Tryz.prog 37=some .u16:=by kernel_rfl
abbrev I38:TI:=⟨10,1,8,some .nilFunc,[],0,0⟩
theorem ti38:ti Tryz.prog 38=some I38:=by kernel_rfl
theorem zc38:zA I38=some [.v .nilFunc]:=by kernel_rfl
abbrev I40:TI:=⟨10,1,8,some .nilFunc,[],0,0⟩
theorem ti40:ti Tryz.prog 40=some I40:=by kernel_rfl
theorem zc40:zA I40=some [.v .nilFunc]:=by kernel_rfl
abbrev I41:TI:=⟨10,1,8,some .nilFunc,[],0,0⟩
theorem ti41:ti Tryz.prog 41=some I41:=by kernel_rfl
theorem zc41:zA I41=some [.v .nilFunc]:=by kernel_rfl
abbrev I42:TI:=⟨10,1,8,some .nilFunc,[],0,0⟩
theorem ti42:ti Tryz.prog 42=some I42:=by kernel_rfl
theorem zc42:zA I42=some [.v .nilFunc]:=by kernel_rfl
abbrev I43:TI:=⟨1,2,48,some (.agg #[(.slice none 0 0),(.slice none 0 0)]),[(0,22),(1,22)],0,0⟩
theorem ti43:ti Tryz.prog 43=some I43:=by kernel_rfl
theorem zc43:zA I43=some [.v (.slice none 0 0),.v (.slice none 0 0)]:=by kernel_rfl
abbrev I44:TI:=⟨1,2,48,some (.agg #[(.slice none 0 0),(.slice none 0 0)]),[(0,22),(1,22)],0,0⟩
theorem ti44:ti Tryz.prog 44=some I44:=by kernel_rfl
theorem zc44:zA I44=some [.v (.slice none 0 0),.v (.slice none 0 0)]:=by kernel_rfl
abbrev I46:TI:=⟨10,1,8,some .nilFunc,[],0,0⟩
theorem ti46:ti Tryz.prog 46=some I46:=by kernel_rfl
theorem zc46:zA I46=some [.v .nilFunc]:=by kernel_rfl
abbrev I47:TI:=⟨10,1,8,some .nilFunc,[],0,0⟩
theorem ti47:ti Tryz.prog 47=some I47:=by kernel_rfl
theorem zc47:zA I47=some [.v .nilFunc]:=by kernel_rfl
abbrev I48:TI:=⟨10,1,8,some .nilFunc,[],0,0⟩
theorem ti48:ti Tryz.prog 48=some I48:=by kernel_rfl
theorem zc48:zA I48=some [.v .nilFunc]:=by kernel_rfl
abbrev I49:TI:=⟨1,4,96,some (.agg #[(.slice none 0 0),(.slice none 0 0),(.slice none 0 0),(.slice none 0 0)]),[(0,32),(1,44),(3,22)],0,0⟩
theorem ti49:ti Tryz.prog 49=some I49:=by kernel_rfl
theorem zc49:zA I49=some [.v (.slice none 0 0),.v (.slice none 0 0),.v (.slice none 0 0),.v (.slice none 0 0)]:=by kernel_rfl
abbrev I50:TI:=⟨1,4,96,some (.agg #[(.slice none 0 0),(.slice none 0 0),(.slice none 0 0),(.slice none 0 0)]),[(0,32),(1,44),(3,22)],0,0⟩
theorem ti50:ti Tryz.prog 50=some I50:=by kernel_rfl
theorem zc50:zA I50=some [.v (.slice none 0 0),.v (.slice none 0 0),.v (.slice none 0 0),.v (.slice none 0 0)]:=by kernel_rfl
abbrev I51:TI:=⟨10,1,8,some .nilFunc,[],0,0⟩
theorem ti51:ti Tryz.prog 51=some I51:=by kernel_rfl
theorem zc51:zA I51=some [.v .nilFunc]:=by kernel_rfl
abbrev I52:TI:=⟨10,1,8,some .nilFunc,[],0,0⟩
theorem ti52:ti Tryz.prog 52=some I52:=by kernel_rfl
theorem zc52:zA I52=some [.v .nilFunc]:=by kernel_rfl
abbrev I53:TI:=⟨10,1,8,some .nilFunc,[],0,0⟩
theorem ti53:ti Tryz.prog 53=some I53:=by kernel_rfl
theorem zc53:zA I53=some [.v .nilFunc]:=by kernel_rfl
abbrev I54:TI:=⟨10,1,8,some .nilFunc,[],0,0⟩
theorem ti54:ti Tryz.prog 54=some I54:=by kernel_rfl
theorem zc54:zA I54=some [.v .nilFunc]:=by kernel_rfl
abbrev I55:TI:=⟨10,1,8,some .nilFunc,[],0,0⟩
theorem ti55:ti Tryz.prog 55=some I55:=by kernel_rfl
theorem zc55:zA I55=some [.v .nilFunc]:=by kernel_rfl
abbrev I56:TI:=⟨10,1,8,some .nilFunc,[],0,0⟩
theorem ti56:ti Tryz.prog 56=some I56:=by kernel_rfl
theorem zc56:zA I56=some [.v .nilFunc]:=by kernel_rfl
abbrev I57:TI:=⟨10,1,8,some .nilFunc,[],0,0⟩
theorem ti57:ti Tryz.prog 57=some I57:=by kernel_rfl
theorem zc57:zA I57=some [.v .nilFunc]:=by kernel_rfl
abbrev I58:TI:=⟨10,1,8,some .nilFunc,[],0,0⟩
theorem ti58:ti Tryz.prog 58=some I58:=by kernel_rfl
theorem zc58:zA I58=some [.v .nilFunc]:=by kernel_rfl
abbrev I59:TI:=⟨10,1,8,some .nilFunc,[],0,0⟩
theorem ti59:ti Tryz.prog 59=some I59:=by kernel_rfl
theorem zc59:zA I59=some [.v .nilFunc]:=by kernel_rfl
abbrev I60:TI:=⟨3,1,24,some (.slice none 0 0),[],22,0⟩
theorem ti60:ti Tryz.prog 60=some I60:=by kernel_rfl
theorem zc60:zA I60=some [.v (.slice none 0 0)]:=by kernel_rfl
theorem ki60:zH Tryz.prog 60 3=true:=by kernel_rfl
abbrev I61:TI:=⟨10,1,8,some .nilFunc,[],0,0⟩
theorem ti61:ti Tryz.prog 61=some I61:=by kernel_rfl
theorem zc61:zA I61=some [.v .nilFunc]:=by kernel_rfl
abbrev I62:TI:=⟨10,1,8,some .nilFunc,[],0,0⟩
theorem ti62:ti Tryz.prog 62=some I62:=by kernel_rfl
theorem zc62:zA I62=some [.v .nilFunc]:=by kernel_rfl
abbrev I63:TI:=⟨10,1,8,some .nilFunc,[],0,0⟩
theorem ti63:ti Tryz.prog 63=some I63:=by kernel_rfl
theorem zc63:zA I63=some [.v .nilFunc]:=by kernel_rfl
abbrev I64:TI:=⟨10,1,8,some .nilFunc,[],0,0⟩
theorem ti64:ti Tryz.prog 64=some I64:=by kernel_rfl
theorem zc64:zA I64=some [.v .nilFunc]:=by kernel_rfl
abbrev I65:TI:=⟨10,1,8,some .nilFunc,[],0,0⟩
theorem ti65:ti Tryz.prog 65=some I65:=by kernel_rfl
theorem zc65:zA I65=some [.v .nilFunc]:=by kernel_rfl
abbrev I66:TI:=⟨6,1,8,some (.pointer none),[],68,0⟩
theorem ti66:ti Tryz.prog 66=some I66:=by kernel_rfl
theorem zc66:zA I66=some [.v (.pointer none)]:=by kernel_rfl
abbrev I67:TI:=⟨1,7,152,some (.agg #[(.slice none 0 0),(.slice none 0 0),(.slice none 0 0),(.slice none 0 0),(.int .i64 0),(.slice none 0 0),(.slice none 0 0)]),[(0,29),(5,25)],0,0⟩
theorem ti67:ti Tryz.prog 67=some I67:=by kernel_rfl
theorem zc67:zA I67=some [.v (.slice none 0 0),.v (.slice none 0 0),.v (.slice none 0 0),.v (.slice none 0 0),.v (.int .i64 0),.v (.slice none 0 0),.v (.slice none 0 0)]:=by kernel_rfl
abbrev I68:TI:=⟨1,7,152,some (.agg #[(.slice none 0 0),(.slice none 0 0),(.slice none 0 0),(.slice none 0 0),(.int .i64 0),(.slice none 0 0),(.slice none 0 0)]),[(0,29),(5,25)],0,0⟩
theorem ti68:ti Tryz.prog 68=some I68:=by kernel_rfl
theorem zc68:zA I68=some [.v (.slice none 0 0),.v (.slice none 0 0),.v (.slice none 0 0),.v (.slice none 0 0),.v (.int .i64 0),.v (.slice none 0 0),.v (.slice none 0 0)]:=by kernel_rfl
abbrev I69:TI:=⟨10,1,8,some .nilFunc,[],0,0⟩
theorem ti69:ti Tryz.prog 69=some I69:=by kernel_rfl
theorem zc69:zA I69=some [.v .nilFunc]:=by kernel_rfl
abbrev I70:TI:=⟨10,1,8,some .nilFunc,[],0,0⟩
theorem ti70:ti Tryz.prog 70=some I70:=by kernel_rfl
theorem zc70:zA I70=some [.v .nilFunc]:=by kernel_rfl
abbrev I72:TI:=⟨10,1,8,some .nilFunc,[],0,0⟩
theorem ti72:ti Tryz.prog 72=some I72:=by kernel_rfl
theorem zc72:zA I72=some [.v .nilFunc]:=by kernel_rfl
abbrev I73:TI:=⟨1,2,16,some (.agg #[(.int .i64 0),(.bool false)]),[(0,3),(1,4)],0,0⟩
theorem ti73:ti Tryz.prog 73=some I73:=by kernel_rfl
theorem zc73:zA I73=some [.v (.int .i64 0),.v (.bool false)]:=by kernel_rfl
abbrev I74:TI:=⟨1,2,16,some (.agg #[(.int .i64 0),(.bool false)]),[(0,3),(1,4)],0,0⟩
theorem ti74:ti Tryz.prog 74=some I74:=by kernel_rfl
theorem zc74:zA I74=some [.v (.int .i64 0),.v (.bool false)]:=by kernel_rfl
abbrev I75:TI:=⟨10,1,8,some .nilFunc,[],0,0⟩
theorem ti75:ti Tryz.prog 75=some I75:=by kernel_rfl
theorem zc75:zA I75=some [.v .nilFunc]:=by kernel_rfl
abbrev I76:TI:=⟨10,1,8,some .nilFunc,[],0,0⟩
theorem ti76:ti Tryz.prog 76=some I76:=by kernel_rfl
theorem zc76:zA I76=some [.v .nilFunc]:=by kernel_rfl
abbrev I77:TI:=⟨3,1,24,some (.slice none 0 0),[],106,0⟩
theorem ti77:ti Tryz.prog 77=some I77:=by kernel_rfl
theorem zc77:zA I77=some [.v (.slice none 0 0)]:=by kernel_rfl
theorem ki77:zH Tryz.prog 77 3=true:=by kernel_rfl
abbrev I78:TI:=⟨1,2,48,some (.agg #[(.slice none 0 0),(.slice none 0 0)]),[(0,22),(1,77)],0,0⟩
theorem ti78:ti Tryz.prog 78=some I78:=by kernel_rfl
theorem zc78:zA I78=some [.v (.slice none 0 0),.v (.slice none 0 0)]:=by kernel_rfl
abbrev I79:TI:=⟨1,2,48,some (.agg #[(.slice none 0 0),(.slice none 0 0)]),[(0,22),(1,77)],0,0⟩
theorem ti79:ti Tryz.prog 79=some I79:=by kernel_rfl
theorem zc79:zA I79=some [.v (.slice none 0 0),.v (.slice none 0 0)]:=by kernel_rfl
abbrev I81:TI:=⟨10,1,8,some .nilFunc,[],0,0⟩
theorem ti81:ti Tryz.prog 81=some I81:=by kernel_rfl
theorem zc81:zA I81=some [.v .nilFunc]:=by kernel_rfl
abbrev I82:TI:=⟨10,1,8,some .nilFunc,[],0,0⟩
theorem ti82:ti Tryz.prog 82=some I82:=by kernel_rfl
theorem zc82:zA I82=some [.v .nilFunc]:=by kernel_rfl
abbrev I83:TI:=⟨10,1,8,some .nilFunc,[],0,0⟩
theorem ti83:ti Tryz.prog 83=some I83:=by kernel_rfl
theorem zc83:zA I83=some [.v .nilFunc]:=by kernel_rfl
abbrev I84:TI:=⟨3,1,24,some (.slice none 0 0),[],87,0⟩
theorem ti84:ti Tryz.prog 84=some I84:=by kernel_rfl
theorem zc84:zA I84=some [.v (.slice none 0 0)]:=by kernel_rfl
theorem ki84:zH Tryz.prog 84 3=true:=by kernel_rfl
abbrev I85:TI:=⟨10,1,8,some .nilFunc,[],0,0⟩
theorem ti85:ti Tryz.prog 85=some I85:=by kernel_rfl
theorem zc85:zA I85=some [.v .nilFunc]:=by kernel_rfl
abbrev I86:TI:=⟨1,5,40,some (.agg #[(.int .i64 0),(.int .i64 0),(.int .i64 0),(.int .i64 0),(.int .i64 0)]),[(0,3),(1,3),(2,3),(3,3),(4,3)],0,0⟩
theorem ti86:ti Tryz.prog 86=some I86:=by kernel_rfl
theorem zc86:zA I86=some [.v (.int .i64 0),.v (.int .i64 0),.v (.int .i64 0),.v (.int .i64 0),.v (.int .i64 0)]:=by kernel_rfl
abbrev I87:TI:=⟨1,5,40,some (.agg #[(.int .i64 0),(.int .i64 0),(.int .i64 0),(.int .i64 0),(.int .i64 0)]),[(0,3),(1,3),(2,3),(3,3),(4,3)],0,0⟩
theorem ti87:ti Tryz.prog 87=some I87:=by kernel_rfl
theorem zc87:zA I87=some [.v (.int .i64 0),.v (.int .i64 0),.v (.int .i64 0),.v (.int .i64 0),.v (.int .i64 0)]:=by kernel_rfl
abbrev I88:TI:=⟨10,1,8,some .nilFunc,[],0,0⟩
theorem ti88:ti Tryz.prog 88=some I88:=by kernel_rfl
theorem zc88:zA I88=some [.v .nilFunc]:=by kernel_rfl
abbrev I89:TI:=⟨10,1,8,some .nilFunc,[],0,0⟩
theorem ti89:ti Tryz.prog 89=some I89:=by kernel_rfl
theorem zc89:zA I89=some [.v .nilFunc]:=by kernel_rfl
abbrev I90:TI:=⟨10,1,8,some .nilFunc,[],0,0⟩
theorem ti90:ti Tryz.prog 90=some I90:=by kernel_rfl
theorem zc90:zA I90=some [.v .nilFunc]:=by kernel_rfl
abbrev I91:TI:=⟨10,1,8,some .nilFunc,[],0,0⟩
theorem ti91:ti Tryz.prog 91=some I91:=by kernel_rfl
theorem zc91:zA I91=some [.v .nilFunc]:=by kernel_rfl
abbrev I92:TI:=⟨10,1,8,some .nilFunc,[],0,0⟩
theorem ti92:ti Tryz.prog 92=some I92:=by kernel_rfl
theorem zc92:zA I92=some [.v .nilFunc]:=by kernel_rfl
abbrev I93:TI:=⟨5,1,8,some (.map none),[],3,3⟩
theorem ti93:ti Tryz.prog 93=some I93:=by kernel_rfl
theorem zc93:zA I93=some [.v (.map none)]:=by kernel_rfl
abbrev I94:TI:=⟨10,1,8,some .nilFunc,[],0,0⟩
theorem ti94:ti Tryz.prog 94=some I94:=by kernel_rfl
theorem zc94:zA I94=some [.v .nilFunc]:=by kernel_rfl
abbrev I95:TI:=⟨10,1,8,some .nilFunc,[],0,0⟩
theorem ti95:ti Tryz.prog 95=some I95:=by kernel_rfl
theorem zc95:zA I95=some [.v .nilFunc]:=by kernel_rfl
abbrev I96:TI:=⟨10,1,8,some .nilFunc,[],0,0⟩
theorem ti96:ti Tryz.prog 96=some I96:=by kernel_rfl
theorem zc96:zA I96=some [.v .nilFunc]:=by kernel_rfl
abbrev I97:TI:=⟨10,1,8,some .nilFunc,[],0,0⟩
theorem ti97:ti Tryz.prog 97=some I97:=by kernel_rfl
theorem zc97:zA I97=some [.v .nilFunc]:=by kernel_rfl
abbrev I98:TI:=⟨1,4,32,some (.agg #[(.int .i64 0),(.bool false),(.int .i64 0),(.bool false)]),[(0,74),(2,3),(3,4)],0,0⟩
theorem ti98:ti Tryz.prog 98=some I98:=by kernel_rfl
theorem zc98:zA I98=some [.v (.int .i64 0),.v (.bool false),.v (.int .i64 0),.v (.bool false)]:=by kernel_rfl
abbrev I99:TI:=⟨1,4,32,some (.agg #[(.int .i64 0),(.bool false),(.int .i64 0),(.bool false)]),[(0,74),(2,3),(3,4)],0,0⟩
theorem ti99:ti Tryz.prog 99=some I99:=by kernel_rfl
theorem zc99:zA I99=some [.v (.int .i64 0),.v (.bool false),.v (.int .i64 0),.v (.bool false)]:=by kernel_rfl
abbrev I100:TI:=⟨10,1,8,some .nilFunc,[],0,0⟩
theorem z9n:ti Tryz.prog 100=some I100:=by kernel_rfl
theorem z7K:zA I100=some [.v .nilFunc]:=by kernel_rfl
abbrev I101:TI:=⟨10,1,8,some .nilFunc,[],0,0⟩
theorem z9m:ti Tryz.prog 101=some I101:=by kernel_rfl
theorem z7J:zA I101=some [.v .nilFunc]:=by kernel_rfl
abbrev I103:TI:=⟨10,1,8,some .nilFunc,[],0,0⟩
theorem z9l:ti Tryz.prog 103=some I103:=by kernel_rfl
theorem z7I:zA I103=some [.v .nilFunc]:=by kernel_rfl
abbrev I104:TI:=⟨3,1,24,some (.slice none 0 0),[],144,0⟩
theorem z9k:ti Tryz.prog 104=some I104:=by kernel_rfl
theorem z7H:zA I104=some [.v (.slice none 0 0)]:=by kernel_rfl
theorem yAS:zH Tryz.prog 104 3=true:=by kernel_rfl
abbrev I105:TI:=⟨1,4,64,some (.agg #[(.int .i64 0),(.slice none 0 0),(.bool false),(.slice none 0 0)]),[(0,3),(1,22),(2,4),(3,104)],0,0⟩
theorem z9j:ti Tryz.prog 105=some I105:=by kernel_rfl
theorem z7G:zA I105=some [.v (.int .i64 0),.v (.slice none 0 0),.v (.bool false),.v (.slice none 0 0)]:=by kernel_rfl
abbrev I106:TI:=⟨1,4,64,some (.agg #[(.int .i64 0),(.slice none 0 0),(.bool false),(.slice none 0 0)]),[(0,3),(1,22),(2,4),(3,104)],0,0⟩
theorem z9i:ti Tryz.prog 106=some I106:=by kernel_rfl
theorem z7F:zA I106=some [.v (.int .i64 0),.v (.slice none 0 0),.v (.bool false),.v (.slice none 0 0)]:=by kernel_rfl
abbrev I107:TI:=⟨3,1,24,some (.slice none 0 0),[],30,0⟩
theorem z9h:ti Tryz.prog 107=some I107:=by kernel_rfl
theorem z7E:zA I107=some [.v (.slice none 0 0)]:=by kernel_rfl
theorem yAR:zH Tryz.prog 107 3=true:=by kernel_rfl
abbrev I108:TI:=⟨10,1,8,some .nilFunc,[],0,0⟩
theorem z9g:ti Tryz.prog 108=some I108:=by kernel_rfl
theorem z7D:zA I108=some [.v .nilFunc]:=by kernel_rfl
abbrev I109:TI:=⟨10,1,8,some .nilFunc,[],0,0⟩
theorem z9f:ti Tryz.prog 109=some I109:=by kernel_rfl
theorem z7C:zA I109=some [.v .nilFunc]:=by kernel_rfl
abbrev I110:TI:=⟨10,1,8,some .nilFunc,[],0,0⟩
theorem z9e:ti Tryz.prog 110=some I110:=by kernel_rfl
theorem z7B:zA I110=some [.v .nilFunc]:=by kernel_rfl
abbrev I111:TI:=⟨10,1,8,some .nilFunc,[],0,0⟩
theorem z9d:ti Tryz.prog 111=some I111:=by kernel_rfl
theorem z7A:zA I111=some [.v .nilFunc]:=by kernel_rfl
abbrev I112:TI:=⟨10,1,8,some .nilFunc,[],0,0⟩
theorem z9c:ti Tryz.prog 112=some I112:=by kernel_rfl
theorem z6z:zA I112=some [.v .nilFunc]:=by kernel_rfl
abbrev I113:TI:=⟨10,1,8,some .nilFunc,[],0,0⟩
theorem z9b:ti Tryz.prog 113=some I113:=by kernel_rfl
theorem z6y:zA I113=some [.v .nilFunc]:=by kernel_rfl
abbrev I114:TI:=⟨10,1,8,some .nilFunc,[],0,0⟩
theorem z9a:ti Tryz.prog 114=some I114:=by kernel_rfl
theorem z6x:zA I114=some [.v .nilFunc]:=by kernel_rfl
abbrev I115:TI:=⟨10,1,8,some .nilFunc,[],0,0⟩
theorem z99:ti Tryz.prog 115=some I115:=by kernel_rfl
theorem z6w:zA I115=some [.v .nilFunc]:=by kernel_rfl
abbrev I116:TI:=⟨3,1,24,some (.slice none 0 0),[],123,0⟩
theorem z98:ti Tryz.prog 116=some I116:=by kernel_rfl
theorem z6v:zA I116=some [.v (.slice none 0 0)]:=by kernel_rfl
theorem yAQ:zH Tryz.prog 116 3=true:=by kernel_rfl
abbrev I118:TI:=⟨10,1,8,some .nilFunc,[],0,0⟩
theorem z97:ti Tryz.prog 118=some I118:=by kernel_rfl
theorem z6u:zA I118=some [.v .nilFunc]:=by kernel_rfl
abbrev I119:TI:=⟨10,1,8,some .nilFunc,[],0,0⟩
theorem z96:ti Tryz.prog 119=some I119:=by kernel_rfl
theorem z6t:zA I119=some [.v .nilFunc]:=by kernel_rfl
abbrev I120:TI:=⟨3,1,24,some (.slice none 0 0),[],159,0⟩
theorem z95:ti Tryz.prog 120=some I120:=by kernel_rfl
theorem z6s:zA I120=some [.v (.slice none 0 0)]:=by kernel_rfl
theorem yAP:zH Tryz.prog 120 3=true:=by kernel_rfl
abbrev I121:TI:=⟨10,1,8,some .nilFunc,[],0,0⟩
theorem z94:ti Tryz.prog 121=some I121:=by kernel_rfl
theorem z6r:zA I121=some [.v .nilFunc]:=by kernel_rfl
abbrev I122:TI:=⟨1,3,72,some (.agg #[(.slice none 0 0),(.slice none 0 0),(.slice none 0 0)]),[(0,44),(2,32)],0,0⟩
theorem z93:ti Tryz.prog 122=some I122:=by kernel_rfl
theorem z6q:zA I122=some [.v (.slice none 0 0),.v (.slice none 0 0),.v (.slice none 0 0)]:=by kernel_rfl
abbrev I123:TI:=⟨1,3,72,some (.agg #[(.slice none 0 0),(.slice none 0 0),(.slice none 0 0)]),[(0,44),(2,32)],0,0⟩
theorem z92:ti Tryz.prog 123=some I123:=by kernel_rfl
theorem z6p:zA I123=some [.v (.slice none 0 0),.v (.slice none 0 0),.v (.slice none 0 0)]:=by kernel_rfl
abbrev I124:TI:=⟨10,1,8,some .nilFunc,[],0,0⟩
theorem z91:ti Tryz.prog 124=some I124:=by kernel_rfl
theorem z6o:zA I124=some [.v .nilFunc]:=by kernel_rfl
abbrev I125:TI:=⟨10,1,8,some .nilFunc,[],0,0⟩
theorem z90:ti Tryz.prog 125=some I125:=by kernel_rfl
theorem z6n:zA I125=some [.v .nilFunc]:=by kernel_rfl
abbrev I126:TI:=⟨10,1,8,some .nilFunc,[],0,0⟩
theorem z9Z:ti Tryz.prog 126=some I126:=by kernel_rfl
theorem z6m:zA I126=some [.v .nilFunc]:=by kernel_rfl
abbrev I127:TI:=⟨10,1,8,some .nilFunc,[],0,0⟩
theorem z9Y:ti Tryz.prog 127=some I127:=by kernel_rfl
theorem z6l:zA I127=some [.v .nilFunc]:=by kernel_rfl
abbrev I128:TI:=⟨10,1,8,some .nilFunc,[],0,0⟩
theorem z9X:ti Tryz.prog 128=some I128:=by kernel_rfl
theorem z6k:zA I128=some [.v .nilFunc]:=by kernel_rfl
abbrev I129:TI:=⟨10,1,8,some .nilFunc,[],0,0⟩
theorem z9W:ti Tryz.prog 129=some I129:=by kernel_rfl
theorem z6j:zA I129=some [.v .nilFunc]:=by kernel_rfl
abbrev I130:TI:=⟨10,1,8,some .nilFunc,[],0,0⟩
theorem z9V:ti Tryz.prog 130=some I130:=by kernel_rfl
theorem z6i:zA I130=some [.v .nilFunc]:=by kernel_rfl
abbrev I131:TI:=⟨10,1,8,some .nilFunc,[],0,0⟩
theorem z9U:ti Tryz.prog 131=some I131:=by kernel_rfl
theorem z6h:zA I131=some [.v .nilFunc]:=by kernel_rfl
abbrev I132:TI:=⟨10,1,8,some .nilFunc,[],0,0⟩
theorem z9T:ti Tryz.prog 132=some I132:=by kernel_rfl
theorem z6g:zA I132=some [.v .nilFunc]:=by kernel_rfl
abbrev I133:TI:=⟨2,2,16,some (.agg #[(.int .i64 0),(.int .i64 0)]),[],3,2⟩
theorem z9S:ti Tryz.prog 133=some I133:=by kernel_rfl
theorem z6f:zA I133=some [.v (.int .i64 0),.v (.int .i64 0)]:=by kernel_rfl
abbrev I134:TI:=⟨10,1,8,some .nilFunc,[],0,0⟩
theorem z9R:ti Tryz.prog 134=some I134:=by kernel_rfl
theorem z6e:zA I134=some [.v .nilFunc]:=by kernel_rfl
abbrev I136:TI:=⟨10,1,8,some .nilFunc,[],0,0⟩
theorem z9Q:ti Tryz.prog 136=some I136:=by kernel_rfl
theorem z6d:zA I136=some [.v .nilFunc]:=by kernel_rfl
abbrev I138:TI:=⟨10,1,8,some .nilFunc,[],0,0⟩
theorem z9P:ti Tryz.prog 138=some I138:=by kernel_rfl
theorem z6c:zA I138=some [.v .nilFunc]:=by kernel_rfl
abbrev I139:TI:=⟨10,1,8,some .nilFunc,[],0,0⟩
theorem z9O:ti Tryz.prog 139=some I139:=by kernel_rfl
theorem z6b:zA I139=some [.v .nilFunc]:=by kernel_rfl
abbrev I141:TI:=⟨10,1,8,some .nilFunc,[],0,0⟩
theorem z9N:ti Tryz.prog 141=some I141:=by kernel_rfl
theorem z6a:zA I141=some [.v .nilFunc]:=by kernel_rfl
abbrev I142:TI:=⟨10,1,8,some .nilFunc,[],0,0⟩
theorem z9M:ti Tryz.prog 142=some I142:=by kernel_rfl
theorem z69:zA I142=some [.v .nilFunc]:=by kernel_rfl
abbrev I143:TI:=⟨1,2,16,some (.agg #[(.int .i64 0),(.int .i64 0)]),[(0,3),(1,3)],0,0⟩
theorem z9L:ti Tryz.prog 143=some I143:=by kernel_rfl
theorem z68:zA I143=some [.v (.int .i64 0),.v (.int .i64 0)]:=by kernel_rfl
abbrev I144:TI:=⟨1,2,16,some (.agg #[(.int .i64 0),(.int .i64 0)]),[(0,3),(1,3)],0,0⟩
theorem z9K:ti Tryz.prog 144=some I144:=by kernel_rfl
theorem z67:zA I144=some [.v (.int .i64 0),.v (.int .i64 0)]:=by kernel_rfl
abbrev I145:TI:=⟨10,1,8,some .nilFunc,[],0,0⟩
theorem z9J:ti Tryz.prog 145=some I145:=by kernel_rfl
theorem z66:zA I145=some [.v .nilFunc]:=by kernel_rfl
abbrev I146:TI:=⟨10,1,8,some .nilFunc,[],0,0⟩
theorem z9I:ti Tryz.prog 146=some I146:=by kernel_rfl
theorem z65:zA I146=some [.v .nilFunc]:=by kernel_rfl
abbrev I147:TI:=⟨10,1,8,some .nilFunc,[],0,0⟩
theorem z9H:ti Tryz.prog 147=some I147:=by kernel_rfl
theorem z62:zA I147=some [.v .nilFunc]:=by kernel_rfl
abbrev I148:TI:=⟨10,1,8,some .nilFunc,[],0,0⟩
theorem z9G:ti Tryz.prog 148=some I148:=by kernel_rfl
theorem z61:zA I148=some [.v .nilFunc]:=by kernel_rfl
abbrev I149:TI:=⟨10,1,8,some .nilFunc,[],0,0⟩
theorem z9F:ti Tryz.prog 149=some I149:=by kernel_rfl
theorem z60:zA I149=some [.v .nilFunc]:=by kernel_rfl
abbrev I150:TI:=⟨10,1,8,some .nilFunc,[],0,0⟩
theorem z9E:ti Tryz.prog 150=some I150:=by kernel_rfl
theorem z6Z:zA I150=some [.v .nilFunc]:=by kernel_rfl
abbrev I151:TI:=⟨10,1,8,some .nilFunc,[],0,0⟩
theorem z9D:ti Tryz.prog 151=some I151:=by kernel_rfl
theorem z6Y:zA I151=some [.v .nilFunc]:=by kernel_rfl
abbrev I152:TI:=⟨10,1,8,some .nilFunc,[],0,0⟩
theorem z9C:ti Tryz.prog 152=some I152:=by kernel_rfl
theorem z6X:zA I152=some [.v .nilFunc]:=by kernel_rfl
abbrev I153:TI:=⟨10,1,8,some .nilFunc,[],0,0⟩
theorem z9B:ti Tryz.prog 153=some I153:=by kernel_rfl
theorem z6W:zA I153=some [.v .nilFunc]:=by kernel_rfl
abbrev I154:TI:=⟨10,1,8,some .nilFunc,[],0,0⟩
theorem z9A:ti Tryz.prog 154=some I154:=by kernel_rfl
theorem z6V:zA I154=some [.v .nilFunc]:=by kernel_rfl
abbrev I155:TI:=⟨10,1,8,some .nilFunc,[],0,0⟩
theorem z8z:ti Tryz.prog 155=some I155:=by kernel_rfl
theorem z6U:zA I155=some [.v .nilFunc]:=by kernel_rfl
abbrev I156:TI:=⟨10,1,8,some .nilFunc,[],0,0⟩
theorem z8y:ti Tryz.prog 156=some I156:=by kernel_rfl
theorem z6T:zA I156=some [.v .nilFunc]:=by kernel_rfl
abbrev I157:TI:=⟨10,1,8,some .nilFunc,[],0,0⟩
theorem z8x:ti Tryz.prog 157=some I157:=by kernel_rfl
theorem z6S:zA I157=some [.v .nilFunc]:=by kernel_rfl
abbrev I158:TI:=⟨1,3,24,some (.agg #[(.int .i64 0),(.int .i64 0),(.int .i64 0)]),[(0,3),(1,3),(2,3)],0,0⟩
theorem z8w:ti Tryz.prog 158=some I158:=by kernel_rfl
theorem z6R:zA I158=some [.v (.int .i64 0),.v (.int .i64 0),.v (.int .i64 0)]:=by kernel_rfl
abbrev I159:TI:=⟨1,3,24,some (.agg #[(.int .i64 0),(.int .i64 0),(.int .i64 0)]),[(0,3),(1,3),(2,3)],0,0⟩
theorem z8v:ti Tryz.prog 159=some I159:=by kernel_rfl
theorem z6Q:zA I159=some [.v (.int .i64 0),.v (.int .i64 0),.v (.int .i64 0)]:=by kernel_rfl
abbrev I160:TI:=⟨10,1,8,some .nilFunc,[],0,0⟩
theorem z8u:ti Tryz.prog 160=some I160:=by kernel_rfl
theorem z6P:zA I160=some [.v .nilFunc]:=by kernel_rfl
abbrev I161:TI:=⟨10,1,8,some .nilFunc,[],0,0⟩
theorem z8t:ti Tryz.prog 161=some I161:=by kernel_rfl
theorem z6O:zA I161=some [.v .nilFunc]:=by kernel_rfl
abbrev I162:TI:=⟨10,1,8,some .nilFunc,[],0,0⟩
theorem z8s:ti Tryz.prog 162=some I162:=by kernel_rfl
theorem z6N:zA I162=some [.v .nilFunc]:=by kernel_rfl
abbrev I163:TI:=⟨10,1,8,some .nilFunc,[],0,0⟩
theorem z8r:ti Tryz.prog 163=some I163:=by kernel_rfl
theorem z6M:zA I163=some [.v .nilFunc]:=by kernel_rfl
abbrev I164:TI:=⟨10,1,8,some .nilFunc,[],0,0⟩
theorem z8q:ti Tryz.prog 164=some I164:=by kernel_rfl
theorem z6L:zA I164=some [.v .nilFunc]:=by kernel_rfl
abbrev I165:TI:=⟨10,1,8,some .nilFunc,[],0,0⟩
theorem z8p:ti Tryz.prog 165=some I165:=by kernel_rfl
theorem z6K:zA I165=some [.v .nilFunc]:=by kernel_rfl
abbrev I166:TI:=⟨10,1,8,some .nilFunc,[],0,0⟩
theorem z8o:ti Tryz.prog 166=some I166:=by kernel_rfl
theorem z6J:zA I166=some [.v .nilFunc]:=by kernel_rfl
abbrev I167:TI:=⟨1,2,48,some (.agg #[(.slice none 0 0),(.slice none 0 0)]),[(0,44)],0,0⟩
theorem z8n:ti Tryz.prog 167=some I167:=by kernel_rfl
theorem z6I:zA I167=some [.v (.slice none 0 0),.v (.slice none 0 0)]:=by kernel_rfl
abbrev I168:TI:=⟨1,2,48,some (.agg #[(.slice none 0 0),(.slice none 0 0)]),[(0,44)],0,0⟩
theorem z8m:ti Tryz.prog 168=some I168:=by kernel_rfl
theorem z6H:zA I168=some [.v (.slice none 0 0),.v (.slice none 0 0)]:=by kernel_rfl
abbrev I169:TI:=⟨10,1,8,some .nilFunc,[],0,0⟩
theorem z8l:ti Tryz.prog 169=some I169:=by kernel_rfl
theorem z6G:zA I169=some [.v .nilFunc]:=by kernel_rfl
abbrev I170:TI:=⟨10,1,8,some .nilFunc,[],0,0⟩
theorem z8k:ti Tryz.prog 170=some I170:=by kernel_rfl
theorem z6F:zA I170=some [.v .nilFunc]:=by kernel_rfl
abbrev I171:TI:=⟨10,1,8,some .nilFunc,[],0,0⟩
theorem z8j:ti Tryz.prog 171=some I171:=by kernel_rfl
theorem z6E:zA I171=some [.v .nilFunc]:=by kernel_rfl
abbrev I172:TI:=⟨10,1,8,some .nilFunc,[],0,0⟩
theorem z8i:ti Tryz.prog 172=some I172:=by kernel_rfl
theorem z6D:zA I172=some [.v .nilFunc]:=by kernel_rfl
abbrev I173:TI:=⟨10,1,8,some .nilFunc,[],0,0⟩
theorem z8h:ti Tryz.prog 173=some I173:=by kernel_rfl
theorem z6C:zA I173=some [.v .nilFunc]:=by kernel_rfl
abbrev I174:TI:=⟨10,1,8,some .nilFunc,[],0,0⟩
theorem z8g:ti Tryz.prog 174=some I174:=by kernel_rfl
theorem z6B:zA I174=some [.v .nilFunc]:=by kernel_rfl
abbrev I175:TI:=⟨10,1,8,some .nilFunc,[],0,0⟩
theorem z8f:ti Tryz.prog 175=some I175:=by kernel_rfl
theorem z6A:zA I175=some [.v .nilFunc]:=by kernel_rfl
abbrev I176:TI:=⟨10,1,8,some .nilFunc,[],0,0⟩
theorem z8e:ti Tryz.prog 176=some I176:=by kernel_rfl
theorem z5z:zA I176=some [.v .nilFunc]:=by kernel_rfl
abbrev I177:TI:=⟨10,1,8,some .nilFunc,[],0,0⟩
theorem z8d:ti Tryz.prog 177=some I177:=by kernel_rfl
theorem z5y:zA I177=some [.v .nilFunc]:=by kernel_rfl
abbrev I178:TI:=⟨8,1,8,some (.int .u64 0),[],0,0⟩
theorem z8c:ti Tryz.prog 178=some I178:=by kernel_rfl
theorem z5x:zA I178=some [.v (.int .u64 0)]:=by kernel_rfl
theorem yA1:zAg Tryz.prog 178=some .u64:=by kernel_rfl
abbrev I179:TI:=⟨3,1,24,some (.slice none 0 0),[],3,0⟩
theorem z8b:ti Tryz.prog 179=some I179:=by kernel_rfl
theorem z5w:zA I179=some [.v (.slice none 0 0)]:=by kernel_rfl
theorem yAO:zH Tryz.prog 179 3=true:=by kernel_rfl
abbrev I180:TI:=⟨10,1,8,some .nilFunc,[],0,0⟩
theorem z8a:ti Tryz.prog 180=some I180:=by kernel_rfl
theorem z5v:zA I180=some [.v .nilFunc]:=by kernel_rfl
abbrev I181:TI:=⟨3,1,24,some (.slice none 0 0),[],79,0⟩
theorem z89:ti Tryz.prog 181=some I181:=by kernel_rfl
theorem z5u:zA I181=some [.v (.slice none 0 0)]:=by kernel_rfl
theorem yAN:zH Tryz.prog 181 3=true:=by kernel_rfl
abbrev I182:TI:=⟨10,1,8,some .nilFunc,[],0,0⟩
theorem z88:ti Tryz.prog 182=some I182:=by kernel_rfl
theorem z5t:zA I182=some [.v .nilFunc]:=by kernel_rfl
abbrev I183:TI:=⟨5,1,8,some (.map none),[],4,9⟩
theorem z87:ti Tryz.prog 183=some I183:=by kernel_rfl
theorem z5s:zA I183=some [.v (.map none)]:=by kernel_rfl
abbrev I184:TI:=⟨10,1,8,some .nilFunc,[],0,0⟩
theorem z86:ti Tryz.prog 184=some I184:=by kernel_rfl
theorem z5r:zA I184=some [.v .nilFunc]:=by kernel_rfl
abbrev I185:TI:=⟨10,1,8,some .nilFunc,[],0,0⟩
theorem z85:ti Tryz.prog 185=some I185:=by kernel_rfl
theorem z5q:zA I185=some [.v .nilFunc]:=by kernel_rfl
abbrev I186:TI:=⟨3,1,24,some (.slice none 0 0),[],190,0⟩
theorem z84:ti Tryz.prog 186=some I186:=by kernel_rfl
theorem z5p:zA I186=some [.v (.slice none 0 0)]:=by kernel_rfl
theorem yAM:zH Tryz.prog 186 3=true:=by kernel_rfl
abbrev I188:TI:=⟨10,1,8,some .nilFunc,[],0,0⟩
theorem z83:ti Tryz.prog 188=some I188:=by kernel_rfl
theorem z5o:zA I188=some [.v .nilFunc]:=by kernel_rfl
abbrev I189:TI:=⟨1,3,72,some (.agg #[(.slice none 0 0),(.slice none 0 0),(.slice none 0 0)]),[(0,79),(2,32)],0,0⟩
theorem z82:ti Tryz.prog 189=some I189:=by kernel_rfl
theorem z5n:zA I189=some [.v (.slice none 0 0),.v (.slice none 0 0),.v (.slice none 0 0)]:=by kernel_rfl
abbrev I190:TI:=⟨1,3,72,some (.agg #[(.slice none 0 0),(.slice none 0 0),(.slice none 0 0)]),[(0,79),(2,32)],0,0⟩
theorem z81:ti Tryz.prog 190=some I190:=by kernel_rfl
theorem z5m:zA I190=some [.v (.slice none 0 0),.v (.slice none 0 0),.v (.slice none 0 0)]:=by kernel_rfl
abbrev I191:TI:=⟨3,1,24,some (.slice none 0 0),[],4,0⟩
theorem z80:ti Tryz.prog 191=some I191:=by kernel_rfl
theorem z5l:zA I191=some [.v (.slice none 0 0)]:=by kernel_rfl
theorem yAL:zH Tryz.prog 191 3=true:=by kernel_rfl
abbrev I192:TI:=⟨10,1,8,some .nilFunc,[],0,0⟩
theorem z8Z:ti Tryz.prog 192=some I192:=by kernel_rfl
theorem z5k:zA I192=some [.v .nilFunc]:=by kernel_rfl
abbrev I193:TI:=⟨10,1,8,some .nilFunc,[],0,0⟩
theorem z8Y:ti Tryz.prog 193=some I193:=by kernel_rfl
theorem z5j:zA I193=some [.v .nilFunc]:=by kernel_rfl
abbrev I194:TI:=⟨10,1,8,some .nilFunc,[],0,0⟩
theorem z8X:ti Tryz.prog 194=some I194:=by kernel_rfl
theorem z5i:zA I194=some [.v .nilFunc]:=by kernel_rfl
abbrev I195:TI:=⟨10,1,8,some .nilFunc,[],0,0⟩
theorem z8W:ti Tryz.prog 195=some I195:=by kernel_rfl
theorem z5h:zA I195=some [.v .nilFunc]:=by kernel_rfl
abbrev I196:TI:=⟨10,1,8,some .nilFunc,[],0,0⟩
theorem z8V:ti Tryz.prog 196=some I196:=by kernel_rfl
theorem z5g:zA I196=some [.v .nilFunc]:=by kernel_rfl
abbrev I197:TI:=⟨6,1,8,some (.pointer none),[],106,0⟩
theorem z8U:ti Tryz.prog 197=some I197:=by kernel_rfl
theorem z5f:zA I197=some [.v (.pointer none)]:=by kernel_rfl
abbrev I198:TI:=⟨10,1,8,some .nilFunc,[],0,0⟩
theorem z8T:ti Tryz.prog 198=some I198:=by kernel_rfl
theorem z5e:zA I198=some [.v .nilFunc]:=by kernel_rfl
abbrev I199:TI:=⟨10,1,8,some .nilFunc,[],0,0⟩
theorem z8S:ti Tryz.prog 199=some I199:=by kernel_rfl
theorem z5d:zA I199=some [.v .nilFunc]:=by kernel_rfl
abbrev I200:TI:=⟨9,1,16,some .nilIface,[],0,0⟩
theorem z8R:ti Tryz.prog 200=some I200:=by kernel_rfl
theorem z5c:zA I200=some [.v .nilIface]:=by kernel_rfl
theorem yAK:zH Tryz.prog 200 9=true:=by kernel_rfl
abbrev I201:TI:=⟨9,1,16,some .nilIface,[],0,0⟩
theorem z8Q:ti Tryz.prog 201=some I201:=by kernel_rfl
theorem z5b:zA I201=some [.v .nilIface]:=by kernel_rfl
theorem yAJ:zH Tryz.prog 201 9=true:=by kernel_rfl
abbrev I202:TI:=⟨10,1,8,some .nilFunc,[],0,0⟩
theorem z8P:ti Tryz.prog 202=some I202:=by kernel_rfl
theorem z5a:zA I202=some [.v .nilFunc]:=by kernel_rfl
abbrev I203:TI:=⟨10,1,8,some .nilFunc,[],0,0⟩
theorem z8O:ti Tryz.prog 203=some I203:=by kernel_rfl
theorem z59:zA I203=some [.v .nilFunc]:=by kernel_rfl
abbrev I204:TI:=⟨10,1,8,some .nilFunc,[],0,0⟩
theorem z8N:ti Tryz.prog 204=some I204:=by kernel_rfl
theorem z58:zA I204=some [.v .nilFunc]:=by kernel_rfl
abbrev I205:TI:=⟨10,1,8,some .nilFunc,[],0,0⟩
theorem z8M:ti Tryz.prog 205=some I205:=by kernel_rfl
theorem z56:zA I205=some [.v .nilFunc]:=by kernel_rfl
abbrev I206:TI:=⟨10,1,8,some .nilFunc,[],0,0⟩
theorem z8L:ti Tryz.prog 206=some I206:=by kernel_rfl
theorem z55:zA I206=some [.v .nilFunc]:=by kernel_rfl
abbrev I207:TI:=⟨10,1,8,some .nilFunc,[],0,0⟩
theorem z8K:ti Tryz.prog 207=some I207:=by kernel_rfl
theorem z54:zA I207=some [.v .nilFunc]:=by kernel_rfl
abbrev I208:TI:=⟨10,1,8,some .nilFunc,[],0,0⟩
theorem z8J:ti Tryz.prog 208=some I208:=by kernel_rfl
theorem z52:zA I208=some [.v .nilFunc]:=by kernel_rfl
abbrev I209:TI:=⟨8,1,8,some (.int .i64 0),[],0,0⟩
theorem z8I:ti Tryz.prog 209=some I209:=by kernel_rfl
theorem z51:zA I209=some [.v (.int .i64 0)]:=by kernel_rfl
theorem yA0:zAg Tryz.prog 209=some .i64:=by kernel_rfl
abbrev I211:TI:=⟨10,1,8,some .nilFunc,[],0,0⟩
theorem z8H:ti Tryz.prog 211=some I211:=by kernel_rfl
theorem z50:zA I211=some [.v .nilFunc]:=by kernel_rfl
abbrev I212:TI:=⟨10,1,8,some .nilFunc,[],0,0⟩
theorem z8G:ti Tryz.prog 212=some I212:=by kernel_rfl
theorem z5Z:zA I212=some [.v .nilFunc]:=by kernel_rfl
abbrev I213:TI:=⟨10,1,8,some .nilFunc,[],0,0⟩
theorem z8F:ti Tryz.prog 213=some I213:=by kernel_rfl
theorem z5Y:zA I213=some [.v .nilFunc]:=by kernel_rfl
abbrev I214:TI:=⟨10,1,8,some .nilFunc,[],0,0⟩
theorem z8E:ti Tryz.prog 214=some I214:=by kernel_rfl
theorem z5X:zA I214=some [.v .nilFunc]:=by kernel_rfl
abbrev I215:TI:=⟨10,1,8,some .nilFunc,[],0,0⟩
theorem z8D:ti Tryz.prog 215=some I215:=by kernel_rfl
theorem z5W:zA I215=some [.v .nilFunc]:=by kernel_rfl
abbrev I216:TI:=⟨10,1,8,some .nilFunc,[],0,0⟩
theorem z8C:ti Tryz.prog 216=some I216:=by kernel_rfl
theorem z5V:zA I216=some [.v .nilFunc]:=by kernel_rfl
abbrev I217:TI:=⟨8,1,4,some (.int .u32 0),[],0,0⟩
theorem z8B:ti Tryz.prog 217=some I217:=by kernel_rfl
theorem z5U:zA I217=some [.v (.int .u32 0)]:=by kernel_rfl
theorem yAZ:zAg Tryz.prog 217=some .u32:=by kernel_rfl
abbrev I218:TI:=⟨10,1,8,some .nilFunc,[],0,0⟩
theorem z8A:ti Tryz.prog 218=some I218:=by kernel_rfl
theorem z5T:zA I218=some [.v .nilFunc]:=by kernel_rfl
abbrev I219:TI:=⟨8,1,8,some (.int .u64 0),[],0,0⟩
theorem z7z:ti Tryz.prog 219=some I219:=by kernel_rfl
theorem z5S:zA I219=some [.v (.int .u64 0)]:=by kernel_rfl
theorem yAY:zAg Tryz.prog 219=some .u64:=by kernel_rfl
abbrev I220:TI:=⟨10,1,8,some .nilFunc,[],0,0⟩
theorem z7y:ti Tryz.prog 220=some I220:=by kernel_rfl
theorem z5R:zA I220=some [.v .nilFunc]:=by kernel_rfl
abbrev I221:TI:=⟨10,1,8,some .nilFunc,[],0,0⟩
theorem z7x:ti Tryz.prog 221=some I221:=by kernel_rfl
theorem z5Q:zA I221=some [.v .nilFunc]:=by kernel_rfl
abbrev I222:TI:=⟨10,1,8,some .nilFunc,[],0,0⟩
theorem z7w:ti Tryz.prog 222=some I222:=by kernel_rfl
theorem z5P:zA I222=some [.v .nilFunc]:=by kernel_rfl
abbrev I223:TI:=⟨10,1,8,some .nilFunc,[],0,0⟩
theorem z7v:ti Tryz.prog 223=some I223:=by kernel_rfl
theorem z5O:zA I223=some [.v .nilFunc]:=by kernel_rfl
abbrev I224:TI:=⟨10,1,8,some .nilFunc,[],0,0⟩
theorem z7u:ti Tryz.prog 224=some I224:=by kernel_rfl
theorem z5N:zA I224=some [.v .nilFunc]:=by kernel_rfl
abbrev I226:TI:=⟨10,1,8,some .nilFunc,[],0,0⟩
theorem z7t:ti Tryz.prog 226=some I226:=by kernel_rfl
theorem z5M:zA I226=some [.v .nilFunc]:=by kernel_rfl
abbrev I227:TI:=⟨10,1,8,some .nilFunc,[],0,0⟩
theorem z7s:ti Tryz.prog 227=some I227:=by kernel_rfl
theorem z5L:zA I227=some [.v .nilFunc]:=by kernel_rfl
abbrev I228:TI:=⟨6,1,8,some (.pointer none),[],230,0⟩
theorem z7r:ti Tryz.prog 228=some I228:=by kernel_rfl
theorem z5K:zA I228=some [.v (.pointer none)]:=by kernel_rfl
abbrev I229:TI:=⟨1,2,32,some (.agg #[(.pointer none),(.slice none 0 0)]),[(0,197),(1,22)],0,0⟩
theorem z7q:ti Tryz.prog 229=some I229:=by kernel_rfl
theorem z5J:zA I229=some [.v (.pointer none),.v (.slice none 0 0)]:=by kernel_rfl
abbrev I230:TI:=⟨1,2,32,some (.agg #[(.pointer none),(.slice none 0 0)]),[(0,197),(1,22)],0,0⟩
theorem z7p:ti Tryz.prog 230=some I230:=by kernel_rfl
theorem z5I:zA I230=some [.v (.pointer none),.v (.slice none 0 0)]:=by kernel_rfl
abbrev I231:TI:=⟨10,1,8,some .nilFunc,[],0,0⟩
theorem z7o:ti Tryz.prog 231=some I231:=by kernel_rfl
theorem z5H:zA I231=some [.v .nilFunc]:=by kernel_rfl
abbrev I232:TI:=⟨10,1,8,some .nilFunc,[],0,0⟩
theorem z7n:ti Tryz.prog 232=some I232:=by kernel_rfl
theorem z5G:zA I232=some [.v .nilFunc]:=by kernel_rfl
abbrev I233:TI:=⟨10,1,8,some .nilFunc,[],0,0⟩
theorem z7m:ti Tryz.prog 233=some I233:=by kernel_rfl
theorem z5F:zA I233=some [.v .nilFunc]:=by kernel_rfl
abbrev I234:TI:=⟨8,1,8,some (.int .u64 0),[],0,0⟩
theorem z7l:ti Tryz.prog 234=some I234:=by kernel_rfl
theorem z5E:zA I234=some [.v (.int .u64 0)]:=by kernel_rfl
theorem yAX:zAg Tryz.prog 234=some .u64:=by kernel_rfl
abbrev I235:TI:=⟨10,1,8,some .nilFunc,[],0,0⟩
theorem z7k:ti Tryz.prog 235=some I235:=by kernel_rfl
theorem z5D:zA I235=some [.v .nilFunc]:=by kernel_rfl
abbrev I236:TI:=⟨10,1,8,some .nilFunc,[],0,0⟩
theorem z7j:ti Tryz.prog 236=some I236:=by kernel_rfl
theorem z5C:zA I236=some [.v .nilFunc]:=by kernel_rfl
abbrev I237:TI:=⟨10,1,8,some .nilFunc,[],0,0⟩
theorem z7i:ti Tryz.prog 237=some I237:=by kernel_rfl
theorem z5B:zA I237=some [.v .nilFunc]:=by kernel_rfl
abbrev I238:TI:=⟨6,1,8,some (.pointer none),[],3,0⟩
theorem z7h:ti Tryz.prog 238=some I238:=by kernel_rfl
theorem z5A:zA I238=some [.v (.pointer none)]:=by kernel_rfl
abbrev I239:TI:=⟨10,1,8,some .nilFunc,[],0,0⟩
theorem z7g:ti Tryz.prog 239=some I239:=by kernel_rfl
theorem z4z:zA I239=some [.v .nilFunc]:=by kernel_rfl
abbrev I240:TI:=⟨3,1,24,some (.slice none 0 0),[],5,0⟩
theorem z7f:ti Tryz.prog 240=some I240:=by kernel_rfl
theorem z4y:zA I240=some [.v (.slice none 0 0)]:=by kernel_rfl
theorem yAI:zH Tryz.prog 240 3=true:=by kernel_rfl
abbrev I241:TI:=⟨10,1,8,some .nilFunc,[],0,0⟩
theorem z7e:ti Tryz.prog 241=some I241:=by kernel_rfl
theorem z4x:zA I241=some [.v .nilFunc]:=by kernel_rfl
abbrev I242:TI:=⟨10,1,8,some .nilFunc,[],0,0⟩
theorem z7d:ti Tryz.prog 242=some I242:=by kernel_rfl
theorem z4w:zA I242=some [.v .nilFunc]:=by kernel_rfl
abbrev I243:TI:=⟨10,1,8,some .nilFunc,[],0,0⟩
theorem z7c:ti Tryz.prog 243=some I243:=by kernel_rfl
theorem z4v:zA I243=some [.v .nilFunc]:=by kernel_rfl
abbrev I244:TI:=⟨3,1,24,some (.slice none 0 0),[],144,0⟩
theorem z7b:ti Tryz.prog 244=some I244:=by kernel_rfl
theorem z4u:zA I244=some [.v (.slice none 0 0)]:=by kernel_rfl
theorem yAH:zH Tryz.prog 244 3=true:=by kernel_rfl
abbrev I245:TI:=⟨10,1,8,some .nilFunc,[],0,0⟩
theorem z7a:ti Tryz.prog 245=some I245:=by kernel_rfl
theorem z4t:zA I245=some [.v .nilFunc]:=by kernel_rfl
abbrev I246:TI:=⟨10,1,8,some .nilFunc,[],0,0⟩
theorem z79:ti Tryz.prog 246=some I246:=by kernel_rfl
theorem z4s:zA I246=some [.v .nilFunc]:=by kernel_rfl
abbrev I247:TI:=⟨6,1,8,some (.pointer none),[],234,0⟩
theorem z78:ti Tryz.prog 247=some I247:=by kernel_rfl
theorem z4r:zA I247=some [.v (.pointer none)]:=by kernel_rfl
abbrev I249:TI:=⟨10,1,8,some .nilFunc,[],0,0⟩
theorem z77:ti Tryz.prog 249=some I249:=by kernel_rfl
theorem z4q:zA I249=some [.v .nilFunc]:=by kernel_rfl
abbrev I250:TI:=⟨10,1,8,some .nilFunc,[],0,0⟩
theorem z76:ti Tryz.prog 250=some I250:=by kernel_rfl
theorem z4p:zA I250=some [.v .nilFunc]:=by kernel_rfl
abbrev I251:TI:=⟨10,1,8,some .nilFunc,[],0,0⟩
theorem z75:ti Tryz.prog 251=some I251:=by kernel_rfl
theorem z4o:zA I251=some [.v .nilFunc]:=by kernel_rfl
abbrev I252:TI:=⟨10,1,8,some .nilFunc,[],0,0⟩
theorem z74:ti Tryz.prog 252=some I252:=by kernel_rfl
theorem z4n:zA I252=some [.v .nilFunc]:=by kernel_rfl
abbrev I253:TI:=⟨10,1,8,some .nilFunc,[],0,0⟩
theorem z73:ti Tryz.prog 253=some I253:=by kernel_rfl
theorem z4m:zA I253=some [.v .nilFunc]:=by kernel_rfl
abbrev I254:TI:=⟨10,1,8,some .nilFunc,[],0,0⟩
theorem z72:ti Tryz.prog 254=some I254:=by kernel_rfl
theorem z4l:zA I254=some [.v .nilFunc]:=by kernel_rfl
abbrev I255:TI:=⟨10,1,8,some .nilFunc,[],0,0⟩
theorem z71:ti Tryz.prog 255=some I255:=by kernel_rfl
theorem z4k:zA I255=some [.v .nilFunc]:=by kernel_rfl
abbrev I256:TI:=⟨10,1,8,some .nilFunc,[],0,0⟩
theorem z70:ti Tryz.prog 256=some I256:=by kernel_rfl
theorem z4j:zA I256=some [.v .nilFunc]:=by kernel_rfl
abbrev I257:TI:=⟨10,1,8,some .nilFunc,[],0,0⟩
theorem z7Z:ti Tryz.prog 257=some I257:=by kernel_rfl
theorem z4i:zA I257=some [.v .nilFunc]:=by kernel_rfl
abbrev I258:TI:=⟨1,4,40,some (.agg #[(.pointer none),(.pointer none),(.pointer none),(str [])]),[(0,17),(1,17),(2,17),(3,9)],0,0⟩
theorem z7Y:ti Tryz.prog 258=some I258:=by kernel_rfl
theorem z4h:zA I258=some [.v (.pointer none),.v (.pointer none),.v (.pointer none),.v (str [])]:=by kernel_rfl
abbrev I259:TI:=⟨1,4,40,some (.agg #[(.pointer none),(.pointer none),(.pointer none),(str [])]),[(0,17),(1,17),(2,17),(3,9)],0,0⟩
theorem z7X:ti Tryz.prog 259=some I259:=by kernel_rfl
theorem z4g:zA I259=some [.v (.pointer none),.v (.pointer none),.v (.pointer none),.v (str [])]:=by kernel_rfl
abbrev I260:TI:=⟨2,0,0,some (.agg #[]),[],16,0⟩
theorem z7W:ti Tryz.prog 260=some I260:=by kernel_rfl
theorem z4f:zA I260=some []:=by kernel_rfl
abbrev I261:TI:=⟨1,0,0,some (.agg #[]),[(0,260)],0,0⟩
theorem z7V:ti Tryz.prog 261=some I261:=by kernel_rfl
theorem z4e:zA I261=some []:=by kernel_rfl
abbrev I262:TI:=⟨1,0,0,some (.agg #[]),[(0,260)],0,0⟩
theorem z7U:ti Tryz.prog 262=some I262:=by kernel_rfl
theorem z4d:zA I262=some []:=by kernel_rfl
abbrev I263:TI:=⟨10,1,8,some .nilFunc,[],0,0⟩
theorem z7T:ti Tryz.prog 263=some I263:=by kernel_rfl
theorem z4c:zA I263=some [.v .nilFunc]:=by kernel_rfl
abbrev I264:TI:=⟨8,1,1,some (.int .u8 0),[],0,0⟩
theorem z7S:ti Tryz.prog 264=some I264:=by kernel_rfl
theorem z4b:zA I264=some [.v (.int .u8 0)]:=by kernel_rfl
theorem yAW:zAg Tryz.prog 264=some .u8:=by kernel_rfl
abbrev I265:TI:=⟨8,1,1,some (.int .u8 0),[],0,0⟩
theorem z7R:ti Tryz.prog 265=some I265:=by kernel_rfl
theorem z4a:zA I265=some [.v (.int .u8 0)]:=by kernel_rfl
theorem yAV:zAg Tryz.prog 265=some .u8:=by kernel_rfl
abbrev I266:TI:=⟨10,1,8,some .nilFunc,[],0,0⟩
theorem z7Q:ti Tryz.prog 266=some I266:=by kernel_rfl
theorem z49:zA I266=some [.v .nilFunc]:=by kernel_rfl
abbrev I267:TI:=⟨6,1,8,some (.pointer none),[],5,0⟩
theorem z7P:ti Tryz.prog 267=some I267:=by kernel_rfl
theorem z48:zA I267=some [.v (.pointer none)]:=by kernel_rfl
abbrev I268:TI:=⟨8,1,4,some (.int .i32 0),[],0,0⟩
theorem z7O:ti Tryz.prog 268=some I268:=by kernel_rfl
theorem z47:zA I268=some [.v (.int .i32 0)]:=by kernel_rfl
theorem yAU:zAg Tryz.prog 268=some .i32:=by kernel_rfl
abbrev I269:TI:=⟨8,1,4,some (.int .i32 0),[],0,0⟩
theorem z7N:ti Tryz.prog 269=some I269:=by kernel_rfl
theorem z45:zA I269=some [.v (.int .i32 0)]:=by kernel_rfl
theorem yAT:zAg Tryz.prog 269=some .i32:=by kernel_rfl
abbrev I270:TI:=⟨1,11,48,some (.agg #[(.int .u64 0),(.int .u64 0),(.int .u32 0),(.int .u8 0),(.int .u8 0),(.int .u8 0),(.int .u8 0),.nilFunc,(.pointer none),(.int .i32 0),(.int .i32 0)]),[(0,12),(1,12),(2,217),(3,264),(4,5),(5,5),(6,265),(7,266),(8,267),(9,268),(10,269)],0,0⟩
theorem z7M:ti Tryz.prog 270=some I270:=by kernel_rfl
theorem z43:zA I270=some [.v (.int .u64 0),.v (.int .u64 0),.v (.int .u32 0),.v (.int .u8 0),.v (.int .u8 0),.v (.int .u8 0),.v (.int .u8 0),.v .nilFunc,.v (.pointer none),.v (.int .i32 0),.v (.int .i32 0)]:=by kernel_rfl
abbrev I271:TI:=⟨1,11,48,some (.agg #[(.int .u64 0),(.int .u64 0),(.int .u32 0),(.int .u8 0),(.int .u8 0),(.int .u8 0),(.int .u8 0),.nilFunc,(.pointer none),(.int .i32 0),(.int .i32 0)]),[(0,12),(1,12),(2,217),(3,264),(4,5),(5,5),(6,265),(7,266),(8,267),(9,268),(10,269)],0,0⟩
theorem z7L:ti Tryz.prog 271=some I271:=by kernel_rfl
theorem z42:zA I271=some [.v (.int .u64 0),.v (.int .u64 0),.v (.int .u32 0),.v (.int .u8 0),.v (.int .u8 0),.v (.int .u8 0),.v (.int .u8 0),.v .nilFunc,.v (.pointer none),.v (.int .i32 0),.v (.int .i32 0)]:=by kernel_rfl
theorem yAk:zI Tryz.prog 7 0=some (0,I2):=by kernel_rfl
theorem yAj:zI Tryz.prog 7 1=some (1,I3):=by kernel_rfl
theorem yAi:zI Tryz.prog 7 2=some (2,I4):=by kernel_rfl
theorem yAh:zI Tryz.prog 7 3=some (3,I6):=by kernel_rfl
theorem yAg:zI Tryz.prog 8 0=some (0,I2):=by kernel_rfl
theorem yAf:zI Tryz.prog 8 1=some (1,I3):=by kernel_rfl
theorem yAe:zI Tryz.prog 8 2=some (2,I4):=by kernel_rfl
theorem yAd:zI Tryz.prog 8 3=some (3,I6):=by kernel_rfl
theorem z3c:zI Tryz.prog 13 0=some (0,I9):=by kernel_rfl
theorem z3b:zI Tryz.prog 13 1=some (1,I12):=by kernel_rfl
theorem z3a:zI Tryz.prog 14 0=some (0,I9):=by kernel_rfl
theorem z39:zI Tryz.prog 14 1=some (1,I12):=by kernel_rfl
theorem z38:zI Tryz.prog 18 0=some (0,I17):=by kernel_rfl
theorem z37:zI Tryz.prog 19 0=some (0,I17):=by kernel_rfl
theorem el22:zL Tryz.prog 22 3=some (I22,3,I3):=by kernel_rfl
theorem el23:zL Tryz.prog 23 3=some (I23,84,I84):=by kernel_rfl
theorem z34:zI Tryz.prog 24 0=some (0,I22):=by kernel_rfl
theorem z31:zI Tryz.prog 24 1=some (1,I23):=by kernel_rfl
theorem z30:zI Tryz.prog 25 0=some (0,I22):=by kernel_rfl
theorem z3Z:zI Tryz.prog 25 1=some (1,I23):=by kernel_rfl
theorem el26:zL Tryz.prog 26 3=some (I26,50,I50):=by kernel_rfl
theorem el27:zL Tryz.prog 27 3=some (I27,44,I44):=by kernel_rfl
theorem z3Y:zI Tryz.prog 28 0=some (0,I22):=by kernel_rfl
theorem z3X:zI Tryz.prog 28 1=some (1,I26):=by kernel_rfl
theorem z3W:zI Tryz.prog 28 2=some (2,I27):=by kernel_rfl
theorem z3V:zI Tryz.prog 28 3=some (3,I27):=by kernel_rfl
theorem z3U:zI Tryz.prog 28 4=some (4,I3):=by kernel_rfl
theorem z3T:zI Tryz.prog 29 0=some (0,I22):=by kernel_rfl
theorem z3S:zI Tryz.prog 29 1=some (1,I26):=by kernel_rfl
theorem z3R:zI Tryz.prog 29 2=some (2,I27):=by kernel_rfl
theorem z3Q:zI Tryz.prog 29 3=some (3,I27):=by kernel_rfl
theorem z3P:zI Tryz.prog 29 4=some (4,I3):=by kernel_rfl
theorem el32:zL Tryz.prog 32 3=some (I32,74,I74):=by kernel_rfl
theorem z3O:zI Tryz.prog 43 0=some (0,I22):=by kernel_rfl
theorem z3N:zI Tryz.prog 43 1=some (1,I22):=by kernel_rfl
theorem z3M:zI Tryz.prog 44 0=some (0,I22):=by kernel_rfl
theorem z3L:zI Tryz.prog 44 1=some (1,I22):=by kernel_rfl
theorem z3K:zI Tryz.prog 49 0=some (0,I32):=by kernel_rfl
theorem z3J:zI Tryz.prog 49 1=some (1,I44):=by kernel_rfl
theorem z3I:zI Tryz.prog 49 2=some (3,I22):=by kernel_rfl
theorem z3H:zI Tryz.prog 50 0=some (0,I32):=by kernel_rfl
theorem z3G:zI Tryz.prog 50 1=some (1,I44):=by kernel_rfl
theorem z3F:zI Tryz.prog 50 2=some (3,I22):=by kernel_rfl
theorem el60:zL Tryz.prog 60 3=some (I60,22,I22):=by kernel_rfl
theorem z3E:zI Tryz.prog 67 0=some (0,I29):=by kernel_rfl
theorem z3D:zI Tryz.prog 67 1=some (5,I25):=by kernel_rfl
theorem z3C:zI Tryz.prog 68 0=some (0,I29):=by kernel_rfl
theorem z3B:zI Tryz.prog 68 1=some (5,I25):=by kernel_rfl
theorem z3A:zI Tryz.prog 73 0=some (0,I3):=by kernel_rfl
theorem z2z:zI Tryz.prog 73 1=some (1,I4):=by kernel_rfl
theorem z2y:zI Tryz.prog 74 0=some (0,I3):=by kernel_rfl
theorem z2x:zI Tryz.prog 74 1=some (1,I4):=by kernel_rfl
theorem el77:zL Tryz.prog 77 3=some (I77,106,I106):=by kernel_rfl
theorem z2w:zI Tryz.prog 78 0=some (0,I22):=by kernel_rfl
theorem z2v:zI Tryz.prog 78 1=some (1,I77):=by kernel_rfl
theorem z2u:zI Tryz.prog 79 0=some (0,I22):=by kernel_rfl
theorem z2t:zI Tryz.prog 79 1=some (1,I77):=by kernel_rfl
theorem el84:zL Tryz.prog 84 3=some (I84,87,I87):=by kernel_rfl
theorem z2s:zI Tryz.prog 86 0=some (0,I3):=by kernel_rfl
theorem z2r:zI Tryz.prog 86 1=some (1,I3):=by kernel_rfl
theorem z2q:zI Tryz.prog 86 2=some (2,I3):=by kernel_rfl
theorem z2p:zI Tryz.prog 86 3=some (3,I3):=by kernel_rfl
theorem z2o:zI Tryz.prog 86 4=some (4,I3):=by kernel_rfl
theorem z2n:zI Tryz.prog 87 0=some (0,I3):=by kernel_rfl
theorem z2m:zI Tryz.prog 87 1=some (1,I3):=by kernel_rfl
theorem z2l:zI Tryz.prog 87 2=some (2,I3):=by kernel_rfl
theorem z2k:zI Tryz.prog 87 3=some (3,I3):=by kernel_rfl
theorem z2j:zI Tryz.prog 87 4=some (4,I3):=by kernel_rfl
theorem z2i:zI Tryz.prog 98 0=some (0,I74):=by kernel_rfl
theorem z2h:zI Tryz.prog 98 1=some (2,I3):=by kernel_rfl
theorem z2g:zI Tryz.prog 98 2=some (3,I4):=by kernel_rfl
theorem z2f:zI Tryz.prog 99 0=some (0,I74):=by kernel_rfl
theorem z2e:zI Tryz.prog 99 1=some (2,I3):=by kernel_rfl
theorem z2d:zI Tryz.prog 99 2=some (3,I4):=by kernel_rfl
theorem yBA:zL Tryz.prog 104 3=some (I104,144,I144):=by kernel_rfl
theorem z0k:zI Tryz.prog 105 0=some (0,I3):=by kernel_rfl
theorem z0j:zI Tryz.prog 105 1=some (1,I22):=by kernel_rfl
theorem z0i:zI Tryz.prog 105 2=some (2,I4):=by kernel_rfl
theorem z0h:zI Tryz.prog 105 3=some (3,I104):=by kernel_rfl
theorem z0g:zI Tryz.prog 106 0=some (0,I3):=by kernel_rfl
theorem z0f:zI Tryz.prog 106 1=some (1,I22):=by kernel_rfl
theorem z0e:zI Tryz.prog 106 2=some (2,I4):=by kernel_rfl
theorem z0d:zI Tryz.prog 106 3=some (3,I104):=by kernel_rfl
theorem yAz:zL Tryz.prog 107 3=some (I107,30,I30):=by kernel_rfl
theorem yAy:zL Tryz.prog 116 3=some (I116,123,I123):=by kernel_rfl
theorem yAx:zL Tryz.prog 120 3=some (I120,159,I159):=by kernel_rfl
theorem z0c:zI Tryz.prog 122 0=some (0,I44):=by kernel_rfl
theorem z0b:zI Tryz.prog 122 1=some (2,I32):=by kernel_rfl
theorem z0a:zI Tryz.prog 123 0=some (0,I44):=by kernel_rfl
theorem z09:zI Tryz.prog 123 1=some (2,I32):=by kernel_rfl
theorem yAw:zL Tryz.prog 133 2=some (I133,3,I3):=by kernel_rfl
theorem z08:zI Tryz.prog 143 0=some (0,I3):=by kernel_rfl
theorem z07:zI Tryz.prog 143 1=some (1,I3):=by kernel_rfl
theorem z06:zI Tryz.prog 144 0=some (0,I3):=by kernel_rfl
theorem z05:zI Tryz.prog 144 1=some (1,I3):=by kernel_rfl
theorem z04:zI Tryz.prog 158 0=some (0,I3):=by kernel_rfl
theorem z03:zI Tryz.prog 158 1=some (1,I3):=by kernel_rfl
theorem z02:zI Tryz.prog 158 2=some (2,I3):=by kernel_rfl
theorem z01:zI Tryz.prog 159 0=some (0,I3):=by kernel_rfl
theorem z00:zI Tryz.prog 159 1=some (1,I3):=by kernel_rfl
theorem z0Z:zI Tryz.prog 159 2=some (2,I3):=by kernel_rfl
theorem z0Y:zI Tryz.prog 167 0=some (0,I44):=by kernel_rfl
theorem z0X:zI Tryz.prog 168 0=some (0,I44):=by kernel_rfl
theorem yAv:zL Tryz.prog 179 3=some (I179,3,I3):=by kernel_rfl
theorem yAu:zL Tryz.prog 181 3=some (I181,79,I79):=by kernel_rfl
theorem yAt:zL Tryz.prog 186 3=some (I186,190,I190):=by kernel_rfl
theorem z0W:zI Tryz.prog 189 0=some (0,I79):=by kernel_rfl
theorem z0V:zI Tryz.prog 189 1=some (2,I32):=by kernel_rfl
theorem z0U:zI Tryz.prog 190 0=some (0,I79):=by kernel_rfl
theorem z0T:zI Tryz.prog 190 1=some (2,I32):=by kernel_rfl
theorem yAs:zL Tryz.prog 191 3=some (I191,4,I4):=by kernel_rfl
theorem z0S:zI Tryz.prog 229 0=some (0,I197):=by kernel_rfl
theorem z0R:zI Tryz.prog 229 1=some (1,I22):=by kernel_rfl
theorem z0Q:zI Tryz.prog 230 0=some (0,I197):=by kernel_rfl
theorem z0P:zI Tryz.prog 230 1=some (1,I22):=by kernel_rfl
theorem yAr:zL Tryz.prog 240 3=some (I240,5,I5):=by kernel_rfl
theorem yAq:zL Tryz.prog 244 3=some (I244,144,I144):=by kernel_rfl
theorem z0O:zI Tryz.prog 258 0=some (0,I17):=by kernel_rfl
theorem z0N:zI Tryz.prog 258 1=some (1,I17):=by kernel_rfl
theorem z0M:zI Tryz.prog 258 2=some (2,I17):=by kernel_rfl
theorem z0L:zI Tryz.prog 258 3=some (3,I9):=by kernel_rfl
theorem z0K:zI Tryz.prog 259 0=some (0,I17):=by kernel_rfl
theorem z0J:zI Tryz.prog 259 1=some (1,I17):=by kernel_rfl
theorem z0I:zI Tryz.prog 259 2=some (2,I17):=by kernel_rfl
theorem z0H:zI Tryz.prog 259 3=some (3,I9):=by kernel_rfl
theorem yAp:zL Tryz.prog 260 2=some (I260,16,I16):=by kernel_rfl
theorem z0G:zI Tryz.prog 261 0=some (0,I260):=by kernel_rfl
theorem z0F:zI Tryz.prog 262 0=some (0,I260):=by kernel_rfl
theorem z0E:zI Tryz.prog 270 0=some (0,I12):=by kernel_rfl
theorem z0D:zI Tryz.prog 270 1=some (1,I12):=by kernel_rfl
theorem z0C:zI Tryz.prog 270 2=some (2,I217):=by kernel_rfl
theorem z0B:zI Tryz.prog 270 3=some (3,I264):=by kernel_rfl
theorem z0A:zI Tryz.prog 270 4=some (4,I5):=by kernel_rfl
theorem zZz:zI Tryz.prog 270 5=some (5,I5):=by kernel_rfl
theorem zZy:zI Tryz.prog 270 6=some (6,I265):=by kernel_rfl
theorem zZx:zI Tryz.prog 270 7=some (7,I266):=by kernel_rfl
theorem zZw:zI Tryz.prog 270 8=some (8,I267):=by kernel_rfl
theorem zZv:zI Tryz.prog 270 9=some (9,I268):=by kernel_rfl
theorem zWw:zI Tryz.prog 270 10=some (10,I269):=by kernel_rfl
theorem zZu:zI Tryz.prog 271 0=some (0,I12):=by kernel_rfl
theorem zZt:zI Tryz.prog 271 1=some (1,I12):=by kernel_rfl
theorem zZs:zI Tryz.prog 271 2=some (2,I217):=by kernel_rfl
theorem zZr:zI Tryz.prog 271 3=some (3,I264):=by kernel_rfl
theorem zZq:zI Tryz.prog 271 4=some (4,I5):=by kernel_rfl
theorem zZp:zI Tryz.prog 271 5=some (5,I5):=by kernel_rfl
theorem zZo:zI Tryz.prog 271 6=some (6,I265):=by kernel_rfl
theorem zZn:zI Tryz.prog 271 7=some (7,I266):=by kernel_rfl
theorem zZm:zI Tryz.prog 271 8=some (8,I267):=by kernel_rfl
theorem zZl:zI Tryz.prog 271 9=some (9,I268):=by kernel_rfl
theorem zWv:zI Tryz.prog 271 10=some (10,I269):=by kernel_rfl
theorem eq74:zBN Tryz.prog 74=some [8,7]:=by kernel_rfl
theorem eq87:zBN Tryz.prog 87=some [8,8,8,8,8]:=by kernel_rfl
theorem mt93:zEg Tryz.prog 93=some (3,3,(.int .i64 0)):=by kernel_rfl
theorem yAo:zBN Tryz.prog 133=some [8,8]:=by kernel_rfl
theorem yBO:zLF Tryz.prog 133=some 2:=by kernel_rfl
theorem yBN:zQd Tryz.prog 133=some 2:=by kernel_rfl
theorem yAn:zBN Tryz.prog 144=some [8,8]:=by kernel_rfl
theorem yAm:zBN Tryz.prog 159=some [8,8,8]:=by kernel_rfl
theorem yAG:zEg Tryz.prog 183=some (9,4,(.bool false)):=by kernel_rfl
theorem yBM:zQd Tryz.prog 260=some 0:=by kernel_rfl
attribute [go_sem] ti1 zc1 ti2 zc2 it2 ti3 zc3 it3 ti4 zc4 ki4 ti5 zc5 it5 ti6 zc6 it6 ti7 zc7 ti8 zc8 ti9 zc9 ki9 kn9 ti10 zc10 ki10 kn10 ti11 zc11 ki11 kn11 ti12 zc12 it12 ti13 zc13 ti14 zc14 ti15 zc15 ti16 zc16 ti17 zc17 ti18 zc18 ti19 zc19 ti20 zc20 ki20 ti21 zc21 it21 ti22 zc22 ki22 ti23 zc23 ki23 ti24 zc24 ti25 zc25 ti26 zc26 ki26 ti27 zc27 ki27 ti28 zc28 ti29 zc29 ti30 zc30 ti31 zc31 ti32 zc32 ki32 ti34 zc34 ti35 zc35 ti36 zc36 ti37 zc37 it37 ti38 zc38 ti40 zc40 ti41 zc41 ti42 zc42 ti43 zc43 ti44 zc44 ti46 zc46 ti47 zc47 ti48 zc48 ti49 zc49 ti50 zc50 ti51 zc51 ti52 zc52 ti53 zc53 ti54 zc54 ti55 zc55 ti56 zc56 ti57 zc57 ti58 zc58 ti59 zc59 ti60 zc60 ki60 ti61 zc61 ti62 zc62 ti63 zc63 ti64 zc64 ti65 zc65 ti66 zc66 ti67 zc67 ti68 zc68 ti69 zc69 ti70 zc70 ti72 zc72 ti73 zc73 ti74 zc74 ti75 zc75 ti76 zc76 ti77 zc77 ki77 ti78 zc78 ti79 zc79 ti81 zc81 ti82 zc82 ti83 zc83 ti84 zc84 ki84 ti85 zc85 ti86 zc86 ti87 zc87 ti88 zc88 ti89 zc89 ti90 zc90 ti91 zc91 ti92 zc92 ti93 zc93 ti94 zc94 ti95 zc95 ti96 zc96 ti97 zc97 ti98 zc98 ti99 zc99 z9n z7K z9m z7J z9l z7I z9k z7H yAS z9j z7G z9i z7F z9h z7E yAR z9g z7D z9f z7C z9e z7B z9d z7A z9c z6z z9b z6y z9a z6x z99 z6w z98 z6v yAQ z97 z6u z96 z6t z95 z6s yAP z94 z6r z93 z6q z92 z6p z91 z6o z90 z6n z9Z z6m z9Y z6l z9X z6k z9W z6j z9V z6i z9U z6h z9T z6g z9S z6f z9R z6e z9Q z6d z9P z6c z9O z6b z9N z6a z9M z69 z9L z68 z9K z67 z9J z66 z9I z65 z9H z62 z9G z61 z9F z60 z9E z6Z z9D z6Y z9C z6X z9B z6W z9A z6V z8z z6U z8y z6T z8x z6S z8w z6R z8v z6Q z8u z6P z8t z6O z8s z6N z8r z6M z8q z6L z8p z6K z8o z6J z8n z6I z8m z6H z8l z6G z8k z6F z8j z6E z8i z6D z8h z6C z8g z6B z8f z6A z8e z5z z8d z5y z8c z5x yA1 z8b z5w yAO z8a z5v z89 z5u yAN z88 z5t z87 z5s z86 z5r z85 z5q z84 z5p yAM z83 z5o z82 z5n z81 z5m z80 z5l yAL z8Z z5k z8Y z5j z8X z5i z8W z5h z8V z5g z8U z5f z8T z5e z8S z5d z8R z5c yAK z8Q z5b yAJ z8P z5a z8O z59 z8N z58 z8M z56 z8L z55 z8K z54 z8J z52 z8I z51 yA0 z8H z50 z8G z5Z z8F z5Y z8E z5X z8D z5W z8C z5V z8B z5U yAZ z8A z5T z7z z5S yAY z7y z5R z7x z5Q z7w z5P z7v z5O z7u z5N z7t z5M z7s z5L z7r z5K z7q z5J z7p z5I z7o z5H z7n z5G z7m z5F z7l z5E yAX z7k z5D z7j z5C z7i z5B z7h z5A z7g z4z z7f z4y yAI z7e z4x z7d z4w z7c z4v z7b z4u yAH z7a z4t z79 z4s z78 z4r z77 z4q z76 z4p z75 z4o z74 z4n z73 z4m z72 z4l z71 z4k z70 z4j z7Z z4i z7Y z4h z7X z4g z7W z4f z7V z4e z7U z4d z7T z4c z7S z4b yAW z7R z4a yAV z7Q z49 z7P z48 z7O z47 yAU z7N z45 yAT z7M z43 z7L z42 yAk yAj yAi yAh yAg yAf yAe yAd z3c z3b z3a z39 z38 z37 el22 el23 z34 z31 z30 z3Z el26 el27 z3Y z3X z3W z3V z3U z3T z3S z3R z3Q z3P el32 z3O z3N z3M z3L z3K z3J z3I z3H z3G z3F el60 z3E z3D z3C z3B z3A z2z z2y z2x el77 z2w z2v z2u z2t el84 z2s z2r z2q z2p z2o z2n z2m z2l z2k z2j z2i z2h z2g z2f z2e z2d yBA z0k z0j z0i z0h z0g z0f z0e z0d yAz yAy yAx z0c z0b z0a z09 yAw z08 z07 z06 z05 z04 z03 z02 z01 z00 z0Z z0Y z0X yAv yAu yAt z0W z0V z0U z0T yAs z0S z0R z0Q z0P yAr yAq z0O z0N z0M z0L z0K z0J z0I z0H yAp z0G z0F z0E z0D z0C z0B z0A zZz zZy zZx zZw zZv zWw zZu zZt zZs zZr zZq zZp zZo zZn zZm zZl zWv eq74 eq87 mt93 yAo yBO yBN yAn yAm yAG yBM
end Go.Proofs.YtoknohandclcbaaGreat
namespace Go.Proofs.YtoknohandclcbaaGreat
open Go.RowKit
theorem follows:Tryz.prog.follows .mixedOrders=true:=by kernel_rfl
theorem vb {a b:Bool} (h:a=b):HV.v (.bool a)=HV.v (.bool b):=by rw[h]
end Go.Proofs.YtoknohandclcbaaGreat
namespace Go.Proofs.YtoknohandclcbaaGreat
open Go.RowKit
set_option maxRecDepth 8000
theorem zRF {α:Type} {a b:List α} {i:Nat} {x:α} (h:a.take i=b.take i) (hx:a[i]?=some x) (hy:b[i]?=some x):a.take (i+1)=b.take (i+1):=by
 rw[List.take_add_one,List.take_add_one,h,hx,hy]
theorem zY9 {α:Type} {a b:List α} {i:Nat} {x y:α} (hx:a[i]?=some x) (hy:b[i]?=some y) (e:x≠y):a≠b:=by
 rintro rfl;rw[hx] at hy;exact e (Option.some.inj hy)
theorem zVN {α:Type} {a b:List α} {i:Nat} (h:a.take i=b.take i) (hl:a.length=b.length) (hi:i=a.length):a=b:=by
 subst hi
 rwa [List.take_length,hl,List.take_length] at h
theorem zYV {a b:Nat}:((a:Int)=(b:Int))=(a=b):=by simp only[eq_iff_iff];omega
set_option maxHeartbeats 1000000 in
theorem zJm (a b:List Int) (ha:min a.length b.length≤1000000):HFn Tryz.prog 44 [.sl (ints a),.sl (ints b)] (.v (.bool (decide (a=b)))):=by
 refine zB (fn:=Tryz.f44) 26 [4] (by kernel_rfl) rfl (by kernel_rfl) (HW.run 400 (by kernel_rfl) ?_)
 by_cases hl:a.length=b.length
 ·have hl' : ((a.length:Int)=(b.length:Int))=True:=by rw[zYV];simp[hl]
  simp +decide only[go_sem,nT,nA,nS,nM,nB,reduceIte,reduceCtorEq,hl']
  refine HW.loopG (fun k T H=>∃i:Nat,k=a.length-i∧i≤a.length∧a.take i=b.take i∧T 0=.sl (ints a)∧T 1=.sl (ints b)∧T 5=.v (.int .i64 i)∧H=[]) a.length ⟨_,_,Ghost.refl,0,by simp,by omega,rfl,?_,?_,?_,rfl⟩ ?_
  iterate 2 simp +decide only[go_sem,nB,reduceIte]
  ·simp +decide only[go_sem,nB,reduceIte];rfl
  ·rintro k T H ⟨i,rfl,hi,heq,h0,h1,h5,rfl⟩
   refine HW.run 200 (by kernel_rfl) ?_
   by_cases hlt:i<a.length
   ·have hlt' : ((i:Int)<(a.length:Int))=True:=by simp only[eq_iff_iff,iff_true];omega
    have hx:a[i]?=some a[i]:=List.getElem?_eq_getElem hlt
    have hy:b[i]?=some (b[i]'(by omega)):=List.getElem?_eq_getElem (by omega)
    generalize a[i]=x at hx
    generalize b[i]'(by omega)=y at hy
    have hlb:((i:Int)<(b.length:Int))=True:=by simp only[eq_iff_iff,iff_true];omega
    simp +decide only[go_sem,nT,nA,nS,nM,nB,reduceIte,reduceCtorEq,h0,h1,h5,hlt']
    refine HW.quiet 60 follows (by kernel_rfl) ?_
    by_cases hxy:x=y
    ·subst hxy
     simp +decide only[go_sem,nT,nA,nS,nM,nB,reduceIte,reduceCtorEq,h0,h1,h5,hx,hy,hlt',hlb]
     refine ⟨_,_,Ghost.refl,a.length-(i+1),by omega,i+1,rfl,by omega,zRF heq hx hy,?_,?_,?_,rfl⟩
     all_goals first | (simp +decide only[go_sem,nB,reduceIte,h0,h1];done) | (simp +decide only[go_sem,nB,reduceIte];rw[w64 (by omega) (by omega)];rfl)
    ·have hne:=zY9 hx hy hxy
     simp +decide only[go_sem,nT,nA,nS,nM,nB,reduceIte,reduceCtorEq,h0,h1,h5,hx,hy,hlt',hlb,hxy]
     exact vb (by simp[hne])
   ·have hlt' : ((i:Int)<(a.length:Int))=False:=by simp only[eq_iff_iff,iff_false];omega
    simp +decide only[go_sem,nT,nA,nS,nM,nB,reduceIte,reduceCtorEq,h0,h1,h5,hlt']
    exact vb (by rw[zVN heq hl (by omega)];simp)
 ·have hl' : ((a.length:Int)=(b.length:Int))=False:=by rw[zYV];simp[hl]
  simp +decide only[go_sem,nT,nA,nS,nM,nB,reduceIte,reduceCtorEq,hl']
  exact vb (by symm;rw[decide_eq_false_iff_not];rintro rfl;exact hl rfl)
theorem zD4 (a b:List Int) (ha:a.length≤1000000):HFn Tryz.prog 44 [.sl (ints a),.sl (ints b)] (.v (.bool (decide (a=b)))):=zJm a b (by omega)
end Go.Proofs.YtoknohandclcbaaGreat
namespace Go.Proofs.YtoknohandclcbaaGreat
open Go.RowKit
set_option maxRecDepth 8000
theorem z8 (a b:Nat):((a:Int)<(b:Int))=(a<b):=by simp only[eq_iff_iff];omega
def hasB (g:List Int) (n:Int):Bool:=decide (n∈g)
def zCp (g:List Int) (a:Int):Nat→Nat
 | 0=>0
 | k+1=>zCp g a k+(if hasB g (a+k)=true then 1 else 0)
structure SmallP (p:Prg):Prop where
 init:p.init.length≤60
 thr:p.thr.length≤9
 len:∀l∈p.thr,l.length≤300
def z7 (l:List (List Stp)):Nat→Nat
 | 0=>0
 | t+1=>z7 l t+((l[t]?).getD []).length
theorem zDo {p:Prg} (h:SmallP p):∀t,z7 p.thr t≤300*t
 | 0=>Nat.le_refl _
 | t+1=>by
  have:=zDo h t
  have h2:((p.thr[t]?).getD []).length≤300:=by
   cases ht:p.thr[t]? with
   | none=>simp
   | some l=>exact h.len l (List.mem_of_getElem? ht)
  unfold z7;omega
theorem zZA (p:Prg) (h:SmallP p):HFn Tryz.prog 46 [prgH p] (.v (.int .i64 (z7 p.thr p.thr.length))):=by
 refine zB (fn:=Tryz.f46) 21 [2] (by kernel_rfl) rfl (by kernel_rfl) (HW.run 400 (by kernel_rfl) ?_)
 simp +decide only[go_sem,nT,nA,nS,nM,nB,reduceIte,reduceCtorEq]
 have hl:=h.thr
 refine HW.loopG (fun k T H=>∃i:Nat,k=p.thr.length-i∧i≤p.thr.length∧T 1=.pt 0 1 0 0∧T 3=.v (.int .i64 (z7 p.thr i))∧T 4=.v (.int .i64 i)∧H=[some ⟨25,2,[[.sl (ints p.init),.sl (thrs p.thr)]]⟩]) p.thr.length ⟨_,_,Ghost.refl,0,rfl,by omega,rfl,rfl,rfl,rfl⟩ ?_
 rintro k T H ⟨i,rfl,hi,h1,h3,h4,rfl⟩
 refine HW.run 200 (by kernel_rfl) ?_
 by_cases hlt:i<p.thr.length
 ·have hlt' : ((i:Int)<(p.thr.length:Int))=True:=by rw[z8];simp[hlt]
  have hx:p.thr[i]?=some p.thr[i]:=List.getElem?_eq_getElem hlt
  have hxl:=h.len _ (List.getElem_mem hlt)
  have hs:=zDo h i
  have hn:z7 p.thr (i+1)=z7 p.thr i+(p.thr[i]).length:=by rw[z7,hx];rfl
  simp +decide only[go_sem,nT,nA,nS,nM,nB,reduceIte,reduceCtorEq,h1,h3,h4,hlt',hx]
  refine ⟨_,_,Ghost.refl,p.thr.length-(i+1),by omega,i+1,rfl,by omega,?_,?_,?_,rfl⟩
  all_goals first | (simp +decide only[go_sem,nB,reduceIte,h1];done) | (simp +decide only[go_sem,nB,reduceIte,hn];rw[w64 (by omega) (by omega)];rfl)
 ·have hlt' : ((i:Int)<(p.thr.length:Int))=False:=by rw[z8];simp[hlt]
  have e:i=p.thr.length:=by omega
  simp +decide only[go_sem,nT,nA,nS,nM,nB,reduceIte,reduceCtorEq,h1,h3,h4,hlt']
  rw[e]
def numS (p:Prg) (th at_:Int):Int :=
 if 0≤th∧th<p.thr.length∧0≤at_∧at_<(((p.thr[th.toNat]?).getD []).length:Int) then at_+z7 p.thr th.toNat else -1
end Go.Proofs.YtoknohandclcbaaGreat
namespace Go.Proofs.YtoknohandclcbaaGreat
open Go.RowKit
set_option maxRecDepth 8000
def zBB (x:Thd):List HV:=[.v (.int .i64 x.pc),.ow 3 1 (ints x.regs),.v (.bool x.eq),.ow 144 2 (wrts x.buf)]
def zW (l:List Thd):List (List HV):=l.map zBB
abbrev staO (s:Sta):HV:=.ag [.ow 3 1 (ints s.mem),.ow 106 4 (zW s.ths)]
theorem zRD:zW []=[]:=rfl
theorem zE1 {l:List Thd} {x:Thd}:zW l++[zBB x]=zW (l++[x]):=by simp[zW]
theorem zJQ {a b:List Thd}:zW a++zW b=zW (a++b):=by simp[zW]
theorem zAf {l:List Thd}:(zW l).length=l.length:=by simp[zW]
theorem zRE {l:List Thd} {i:Nat}:(zW l)[i]?=l[i]?.map zBB:=by simp[zW]
theorem zOe {l:List Thd} {i:Nat}:(zW l).drop i=zW (l.drop i):=by simp[zW,List.map_drop]
theorem zOc {l:List Thd} {i:Nat}:(zW l).take i=zW (l.take i):=by simp[zW,List.map_take]
theorem zIC {l:List Thd}:zV (zW l) 4=True:=by
 simp only[zV,zW,List.mem_map,eq_iff_iff,iff_true]
 rintro r ⟨a,_,rfl⟩;rfl
theorem zJP {m:Nat}:∀{l:List Thd},nmR m (zW l)=true
 | []=>rfl
 | x::l=>by
  show nmR m (zBB x::zW l)=true
  simp only[nmR,zBB,nmL,nm,zJP,Bool.and_self]
theorem zJO:∀{l:List Thd},nzR (zW l)=true
 | []=>rfl
 | x::l=>by
  show nzR (zBB x::zW l)=true
  simp only[nzR,zBB,nzL,nz,zNl,zNU,zJO,Bool.and_self]
theorem zOa (x:Thd):fzoL (zBB x)=zFc x:=by
 simp only[zBB,zFc,fzoL,fzo,zAU,zFa]
theorem zCF:∀{l:List Thd},fzoR (zW l)=thds l
 | []=>rfl
 | x::l=>by
  show fzoR (zBB x::zW l)=zFc x::thds l
  simp only[fzoR,zOa,zCF]
theorem zQy (x:Thd) {k:Nat} {H:Heap}:(zBB x).map (fz k H)=zFc x:=by
 cases k <;> simp only[zBB,zFc,List.map_cons,List.map_nil,fz,fzo,zAU,zFa]
theorem zVM {l:List Thd} {k:Nat} {H:Heap}:(zW l).map (fun r=>r.map (fz k H))=thds l:=by
 simp only[zW,thds,List.map_map]
 apply List.map_congr_left
 intro x _
 exact zQy x
abbrev zYP (l:List (Int×Int)):HV:=.ow 144 2 (wrts l)
theorem zL6 {l:List Thd} {a:Int} {r:List Int} {e:Bool} {b:List (Int×Int)}:zW l++[[.v (.int .i64 a),.ow 3 1 (ints r),.v (.bool e),.ow 144 2 (wrts b)]]=zW (l++[⟨a,r,e,b⟩]):=by simp[zW,zBB]
theorem zOd {l:List Thd} {i:Nat} {a:Int} {r:List Int} {e:Bool} {b:List (Int×Int)}:(zW l).set i [.v (.int .i64 a),.ow 3 1 (ints r),.v (.bool e),.ow 144 2 (wrts b)]=zW (l.set i ⟨a,r,e,b⟩):=by simp[zW,zBB,List.map_set]
attribute [go_sem] zL6 zOd
attribute [go_sem] zRD zJQ zAf zRE zOe zOc zIC zJP zJO zCF zVM zBB
def getI (l:List Int) (i:Int):Int:=(l[i.toNat]?).getD 0
def setI (l:List Int) (i x:Int):List Int:=l.set i.toNat x
def zI5 (b:List (Int×Int)) (loc:Int):Option Int:=(b.reverse.find? fun w=>decide (w.1=loc)).map (·.2)
def zO8 (b:List (Int×Int)) (mem:List Int) (loc:Int):Int×Bool :=
 match zI5 b loc with
 | some n=>(n,true)
 | none=>if 0≤loc∧loc<mem.length then (getI mem loc,true) else (0,false)
def zA5 (b:List (Int×Int)) (mem:List Int):List (Int×Int)×List Int×Bool :=
 match b with
 | []=>([],mem,false)
 | w::r=>if 0≤w.1∧w.1<mem.length then (r,setI mem w.1 w.2,true) else (b,mem,false)
def zAP (x:Stp) (eq:Bool):Bool:=decide (x.op=8) || (decide (x.op=9) && eq) || (decide (x.op=10) && !eq)
def zM (x:Stp) (mem:List Int) (t:Thd):List Int×Thd :=
 let pc':=if zAP x t.eq=true then x.to else t.pc+1
 if x.op=1 then (mem,{ t with pc:=pc',regs:=setI t.regs x.reg x.n })
 else if x.op=2 then (mem,{ t with pc:=pc',regs:=setI t.regs x.reg (getI mem x.loc) })
 else if x.op=3 then (setI mem x.loc (getI t.regs x.reg),{ t with pc:=pc' })
 else if x.op=4 then (setI mem x.loc x.n,{ t with pc:=pc' })
 else if x.op=5 then (setI mem x.loc (getI t.regs x.reg),{ t with pc:=pc',regs:=setI t.regs x.reg (getI mem x.loc) })
 else if x.op=7 then (mem,{ t with pc:=pc',eq:=decide (getI t.regs x.reg=x.n) })
 else (mem,{ t with pc:=pc' })
def thd0:Thd:=⟨0,[],false,[]⟩
def thAt (s:Sta) (th:Int):Thd:=(s.ths[th.toNat]?).getD thd0
def atS (p:Prg) (s:Sta) (th:Int):Option Stp :=
 if 0≤th∧th<s.ths.length then ((p.thr[th.toNat]?).getD [])[(thAt s th).pc.toNat]? else none
def zBT (s:Sta) (th:Int) (mem:List Int) (t:Thd):Sta:=⟨mem,s.ths.set th.toNat t⟩
def zD1 (p:Prg) (s:Sta) (th:Int):Sta×Bool :=
 match atS p s th with
 | none=>(s,false)
 | some x=>(zBT s th (zM x s.mem (thAt s th)).1 (zM x s.mem (thAt s th)).2,true)
def zAA (p:Prg) (s:Sta) (k:Pck):Sta×Bool :=
 if ¬(0≤k.th∧k.th<s.ths.length) then (s,false)
 else if k.dr=true then
  (if (zA5 (thAt s k.th).buf s.mem).2.2=true then (zBT s k.th (zA5 (thAt s k.th).buf s.mem).2.1 { thAt s k.th with buf:=(zA5 (thAt s k.th).buf s.mem).1 },true) else (s,false))
 else
  match atS p s k.th with
  | none=>(s,false)
  | some x =>
   if (thAt s k.th).buf≠[]∧(x.op=6∨x.op=5) then (s,false)
   else if x.op=2 then (zBT s k.th s.mem { (zM x s.mem (thAt s k.th)).2 with regs:=setI (thAt s k.th).regs x.reg (zO8 (thAt s k.th).buf s.mem x.loc).1 },true)
   else if x.op=3 then (zBT s k.th s.mem { (zM x s.mem (thAt s k.th)).2 with buf:=(thAt s k.th).buf++[(x.loc,getI (thAt s k.th).regs x.reg)] },true)
   else if x.op=4 then (zBT s k.th s.mem { (zM x s.mem (thAt s k.th)).2 with buf:=(thAt s k.th).buf++[(x.loc,x.n)] },true)
   else (zBT s k.th (zM x s.mem (thAt s k.th)).1 (zM x s.mem (thAt s k.th)).2,true)
def hasR (op:Int):Bool:=decide (op=1) || decide (op=2) || decide (op=3) || decide (op=5) || decide (op=7)
def hasL (op:Int):Bool:=decide (op=2) || decide (op=3) || decide (op=4) || decide (op=5)
def hasM (op:Int):Bool:=decide (op=1) || decide (op=4) || decide (op=7)
structure RightX (p:Prg) (x:Stp) (at_ many:Nat):Prop where
 op:1≤x.op∧x.op≤10
 reg:0≤x.reg∧x.reg≤3∧(hasR x.op=true∨x.reg=0)∧(hasM x.op=true∨x.n=0)
 loc:(hasL x.op=true→0≤x.loc∧x.loc<p.init.length)∧(hasL x.op=false→x.loc=0)
 to:(8≤x.op→(at_:Int)<x.to∧x.to≤many)∧(x.op<8→x.to=0)
structure RightP (p:Prg):Prop where
 init:p.init.length≤4
 thr:1≤p.thr.length∧p.thr.length≤3
 len:∀l∈p.thr,l.length≤80
 x:∀(t:Nat) l,p.thr[t]?=some l→∀(i:Nat) x,l[i]?=some x→RightX p x i l.length
structure RightT (p:Prg) (l:List Stp) (t:Thd):Prop where
 pc:0≤t.pc∧t.pc≤l.length
 regs:t.regs.length=4
 buf:∀w∈t.buf,0≤w.1∧w.1<p.init.length
structure RightS (p:Prg) (s:Sta):Prop where
 mem:s.mem.length=p.init.length
 ths:s.ths.length=p.thr.length
 t:∀(i:Nat) l t,p.thr[i]?=some l→s.ths[i]?=some t→RightT p l t
theorem RightP.small {p:Prg} (h:RightP p):SmallP p:=⟨by have:=h.init;omega,by have:=h.thr;omega,fun l hl=>by have:=h.len l hl;omega⟩
def zK (p:Prg):Sta:=⟨p.init,p.thr.map fun _=>⟨0,[0,0,0,0],false,[]⟩⟩
theorem zBl {p:Prg}:RightS p (zK p):=by
 refine ⟨rfl,by simp[zK],fun i l t hl ht=>?_⟩
 simp only[zK,List.getElem?_map,hl,Option.map_some,Option.some.injEq] at ht
 subst ht
 exact ⟨⟨by simp,by simp⟩,rfl,by simp⟩
end Go.Proofs.YtoknohandclcbaaGreat
namespace Go.Proofs.YtoknohandclcbaaGreat
open Go.RowKit
section
variable {F:Fence} {n:Nat} {P:Program} {Q:Exit→Act→World→Prop} {a:Act} {w:World} {b:Frame} {k:List Go.Item} {cs:List Frame}
theorem zAt {c:Code}:step P (lone (b.atR a (.code (.scope c)::k)) cs w)=.next (lone (b.atR a (.code c::.inScope c::k)) cs w) :=
 step_lone_go (by simp[stepG,stepG.exec,Frame.atR])
theorem zDn {c:Code}:step P (lone (b.atR a (.inScope c::k)) cs w)=.next (lone (b.atR a k) cs w) :=
 step_lone_go (by simp[stepG,stepG.exec,Frame.atR])
theorem zFR {c rest:Code} (l:Nat) (J:Act→World→Prop) (μ:Act→World→Nat) (hf:findLabel c l=some rest)
  (first:c.wpIn F n P (Exit.jump l J Q) a w)
  (pass:∀a w,J a w→rest.wpIn F n P (Exit.jump l (fun a' w'=>J a' w'∧μ a' w' < μ a w) Q) a w):(Code.scope c).wpIn F n P Q a w:=by
 intro b k cs hro hb hr
 have h0:(lone (b.atR a (.code (.scope c)::k)) cs w).fenced P F:=fenced_calm hb hr rfl
 have hg:gotoIn l (.inScope c::k)=some (.code rest::.inScope c::k):=by simp[gotoIn,hf]
 have hx:∀id,exitTo id (.inScope c::k)=exitTo id k:=fun id=>by simp[exitTo]
 have key:∀j a w,μ a w=j→J a w→∃e a' w',Q e a' w'∧ArrivesIn (Machine.fenced P F) P (lone (b.atR a (.code rest::.inScope c::k)) cs w) b k cs e a' w':=by
  intro j
  induction j using Nat.strongRecOn with
  | _ j ih =>
   intro a w hj hJ
   obtain ⟨e,a₁,w₁,hq,harr⟩:=pass a w hJ b (.inScope c::k) cs hro hb hr
   cases e with
   | normal=>exact ⟨.normal,a₁,w₁,hq,StepsIn.trans harr (.one (fenced_calm hb hr rfl) zDn)⟩
   | exit id=>exact ⟨.exit id,a₁,w₁,hq,fun k' hk=>harr.1 k' (by rw[hx];exact hk),fun hr' hk=>harr.2 hr' (by rw[hx];exact hk)⟩
   | goto l' =>
    obtain ⟨rfl,hJ',hlt⟩:=hq
    obtain ⟨e₂,a₂,w₂,hq₂,harr₂⟩:=ih _ (by omega) a₁ w₁ rfl hJ'
    exact ⟨e₂,a₂,w₂,hq₂,.of_steps (harr.1 _ hg) harr₂⟩
   | ret=>exact ⟨_,a₁,w₁,hq,harr⟩
   | panic ch=>exact ⟨_,a₁,w₁,hq,harr⟩
   | outgrown=>exact ⟨_,a₁,w₁,hq,harr⟩
 obtain ⟨e,a₁,w₁,hq,harr⟩:=first b (.inScope c::k) cs hro hb hr
 cases e with
 | normal=>exact ⟨.normal,a₁,w₁,hq,.head h0 zAt (StepsIn.trans harr (.one (fenced_calm hb hr rfl) zDn))⟩
 | exit id=>exact ⟨.exit id,a₁,w₁,hq,fun k' hk=>.head h0 zAt (harr.1 k' (by rw[hx];exact hk)),fun hr' hk=>let ⟨k₁,h1,h2⟩:=harr.2 hr' (by rw[hx];exact hk);⟨k₁,h1,.head h0 zAt h2⟩⟩
 | goto l' =>
  obtain ⟨rfl,hJ'⟩:=hq
  obtain ⟨e₂,a₂,w₂,hq₂,harr₂⟩:=key _ a₁ w₁ rfl hJ'
  exact ⟨e₂,a₂,w₂,hq₂,.of_steps (.head h0 zAt (harr.1 _ hg)) harr₂⟩
 | ret=>exact ⟨_,a₁,w₁,hq,.of_steps (.one h0 zAt) harr⟩
 | panic ch=>exact ⟨_,a₁,w₁,hq,.of_steps (.one h0 zAt) harr⟩
 | outgrown=>exact ⟨_,a₁,w₁,hq,.of_steps (.one h0 zAt) harr⟩
end
def zP4 (l:Nat) (J:KS) (Q:Exit→KS):Exit→KS
 | .goto l'=>fun T H=>l'=l∧J T H
 | e=>Q e
section
variable {P:Program} {N L:Nat} {Q:Exit→KS} {T:Nat→HV} {H:Heap}
theorem zP2 {l l' : Nat} {J:KS}:zP4 l J Q (.goto l') T H=(l'=l∧J T H):=rfl
theorem zKG {l:Nat} {J:KS}:zP4 l J Q .normal T H=Q .normal T H:=rfl
theorem zP3 {l i:Nat} {J:KS}:zP4 l J Q (.exit i) T H=Q (.exit i) T H:=rfl
theorem zS8 {l:Nat} {J:KS}:zP4 l J Q .ret T H=Q .ret T H:=rfl
theorem HW.scope {c rest:Code} (l:Nat) (I:Nat→KS) (hf:findLabel c l=some rest) (first:HW P N L c (zP4 l (fun T H=>∃k,I k T H) Q) T H)
  (pass:∀k T H,I k T H→HW P N L rest (zP4 l (fun T' H'=>∃k',k' < k∧I k' T' H') Q) T H):HW P N L (.scope c) Q T H:=by
 intro ro n B Z G FP ds a w hB hL hs
 classical
 let J:Nat→Act→World→Prop:=fun k a' w'=>∃T' H' Z' G' FP' ds',I k T' H'∧St N B Z' G' FP' ds' T' H' a' w'∧GLt L G G'∧Evo Z FP w Z' FP' w'
 let μ:Act→World→Nat:=fun a' w'=>if h:∃k,J k a' w' then Classical.choose (zR h) else 0
 refine zFR l (fun a' w'=>∃k,J k a' w') μ hf (wpIn_mono (first ro n B Z G FP ds a w hB hL hs) ?_) ?_
 ·rintro e a' w' ⟨T',H',Z',G',FP',ds',h1,h2,h3,h4⟩
  cases e with
  | goto l'=>obtain ⟨rfl,k,hk⟩:=h1;exact ⟨rfl,k,T',H',Z',G',FP',ds',hk,h2,h3,h4⟩
  | _=>exact ⟨T',H',Z',G',FP',ds',h1,h2,h3,h4⟩
 ·intro a1 w1 hJ
  have hμ:μ a1 w1=Classical.choose (zR hJ):=by simp only[μ];rw[dif_pos hJ]
  obtain ⟨T1,H1,Z1,G1,FP1,ds1,hI,hs1,hG1,hE1⟩:=(Classical.choose_spec (zR hJ)).1
  refine wpIn_mono (pass _ T1 H1 hI ro n B Z1 G1 FP1 ds1 a1 w1 (hB.evo hE1) hG1.len hs1) ?_
  rintro e a' w' ⟨T',H',Z',G',FP',ds',h1,h2,h3,h4⟩
  cases e with
  | goto l' =>
   obtain ⟨rfl,k',hk',hI'⟩:=h1
   have hJ' : J k' a' w':=⟨T',H',Z',G',FP',ds',hI',h2,hG1.trans h3,hE1.trans h4⟩
   refine ⟨rfl,⟨k',hJ'⟩,?_⟩
   rw[hμ]
   have e:∃k,J k a' w':=⟨k',hJ'⟩
   have:μ a' w'=Classical.choose (zR e):=by simp only[μ];rw[dif_pos e]
   rw[this]
   exact Nat.lt_of_le_of_lt ((Classical.choose_spec (zR e)).2 _ hJ') hk'
  | _=>exact ⟨T',H',Z',G',FP',ds',h1,h2,hG1.trans h3,hE1.trans h4⟩
end
attribute [go_sem ↓] zP2 zKG zP3 zS8
end Go.Proofs.YtoknohandclcbaaGreat
