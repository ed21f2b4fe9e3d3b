/- Parts of the proof: HiS, HiT, HiU, HiV. -/
import Derived.Test.YtmapdjdnnhlpiaaGreatDoorZs04
import Derived.IntWalk
import Derived.ScopeJumps
import Derived.RangeFuncRecord
set_option linter.unusedSectionVars false
set_option linter.unusedVariables false
set_option linter.unusedSimpArgs false
namespace Go.Proofs.YtmapdjdnnhlpiaaGreatDoor
open Go.RowKit
section
variable {P:Program} {N L:Nat} {Q:Exit→KS} {n:Nat} {r:List Item} {T:Nat→HV} {H:Heap} {k:List Item→KS} {all l:List Oper} {d:Option Nat}
theorem ex_nil:ex P N L Q (n+1) [] T H=Q .normal T H:=rfl
theorem ex_endB {b:Nat}:ex P N L Q (n+1) (.endB b::r) T H=ex P N L Q n r T H:=rfl
theorem ex_opsnil:ex P N L Q (n+1) (.ops all []::r) T H=ex P N L Q n r T H:=rfl
theorem ex_op {op:Op} {ty:TypeId} {pos:String} {af:Array Edge}:ex P N L Q (n+1) (.ops all (⟨d,op,ty,pos,af,none⟩::l)::r) T H=exO (ex P N L Q n) P all d op l r T H:=rfl
theorem ex_opg {op:Op} {ty:TypeId} {pos:String} {af:Array Edge} {j:Nat} {b:Bool}:ex P N L Q (n+1) (.ops all (⟨d,op,ty,pos,af,some (j,b)⟩::l)::r) T H=exB (ex P N L Q n) P (dstAt all j) b all d op l r T H:=rfl
theorem ex_skip:ex P N L Q (n+1) (.code .skip::r) T H=ex P N L Q n r T H:=rfl
theorem ex_label {b:Nat}:ex P N L Q (n+1) (.code (.label b)::r) T H=ex P N L Q n r T H:=rfl
theorem ex_seq {x y:Code}:ex P N L Q (n+1) (.code (.seq x y)::r) T H=ex P N L Q n (.code x::.code y::r) T H:=rfl
theorem ex_region {b:Nat}:ex P N L Q (n+1) (.code (.region b (List.toArray l) false)::r) T H=ex P N L Q n (.ops l l::r) T H:=rfl
theorem ex_cond {c:Operand} {x y:Code}:ex P N L Q (n+1) (.code (.cond c x y)::r) T H=exC2 (ex P N L Q n) (hev T c) x y r T H:=rfl
theorem ex_block {b:Nat} {c:Code}:ex P N L Q (n+1) (.code (.block b c)::r) T H=ex P N L Q n (.code c::.endB b::r) T H:=rfl
theorem ex_exit {b:Nat}:ex P N L Q (n+1) (.code (.exit b)::r) T H=Kx (ex P N L Q n) Q r (.exit b) T H:=rfl
theorem ex_goto {b:Nat}:ex P N L Q (n+1) (.code (.goto b)::r) T H=Q (.goto b) T H:=rfl
theorem ex_ret:ex P N L Q (n+1) (.code .ret::r) T H=Q .ret T H:=rfl
theorem ex_loop {c:Code}:ex P N L Q (n+1) (.code (.loop c)::r) T H=HW P N L (.loop c) (Kx (ex P N L Q n) Q r) T H:=rfl
theorem ex_scope {c:Code}:ex P N L Q (n+1) (.code (.scope c)::r) T H=HW P N L (.scope c) (Kx (ex P N L Q n) Q r) T H:=rfl
theorem ex_range {f:Operand} {ps:Array Nat} {c c' : Code}:ex P N L Q (n+1) (.code (.rangeFunc f ps c c')::r) T H=HW P N L (.rangeFunc f ps c c') (Kx (ex P N L Q n) Q r) T H:=rfl
theorem ex_draw {b:Nat}:ex P N L Q (n+1) (.code (.region b (List.toArray l) true)::r) T H=HW P N L (.region b (List.toArray l) true) (Kx (ex P N L Q n) Q r) T H:=rfl
def Kd (k:List Item→KS) (o:Option (List Item)) (q:KS) (T:Nat→HV) (H:Heap):Prop:=match o with | some r=>k r T H | none=>q T H
theorem Kd_some {q:KS}:Kd k (some r) q T H=k r T H:=rfl
theorem Kd_none {q:KS}:Kd k none q T H=q T H:=rfl
theorem Kx_normal:Kx k Q r .normal T H=k r T H:=rfl
theorem Kx_exit {b:Nat}:Kx k Q r (.exit b) T H=Kd k (dropTo b r) (Q (.exit b)) T H:=by
 simp only[Kx,Kd]
 cases hd:dropTo b r <;> rfl
theorem Kx_goto {b:Nat}:Kx k Q r (.goto b) T H=Q (.goto b) T H:=rfl
theorem Kx_ret:Kx k Q r .ret T H=Q .ret T H:=rfl
theorem fin_normal {Qn:KS} {Q:Exit→KS}:fin Qn Q .normal T H=Qn T H:=rfl
theorem fin_exit {Qn:KS} {Q:Exit→KS} {b:Nat}:fin Qn Q (.exit b) T H=Q (.exit b) T H:=rfl
theorem fin_goto {Qn:KS} {Q:Exit→KS} {b:Nat}:fin Qn Q (.goto b) T H=Q (.goto b) T H:=rfl
theorem fin_ret {Qn:KS} {Q:Exit→KS}:fin Qn Q .ret T H=Q .ret T H:=rfl
theorem keepT_at {ks:List Nat} {i:Nat}:keepT ks T i=if ks.contains i=true then T i else .any:=rfl
theorem dropTo_nil {b:Nat}:dropTo b []=none:=rfl
theorem dropTo_endB {b c:Nat}:dropTo b (.endB c::r)=if b=c then some r else dropTo b r:=rfl
theorem dropTo_code {b:Nat} {c:Code}:dropTo b (.code c::r)=dropTo b r:=rfl
theorem dropTo_ops {b:Nat}:dropTo b (.ops all l::r)=dropTo b r:=rfl
theorem exC2_bool {c:Bool} {x y:Code}:exC2 k (.v (.bool c)) x y r T H=((c=true→k (.code x::r) T H)∧(c=false→k (.code y::r) T H)):=rfl
theorem exR_rv1 {p:Prop} {x:HV} {i:Nat}:exR k (rv H p x) all (some i) l r T=(p∧k (.ops all l::r) (upd T i x) H):=rfl
theorem exR_some1 {p:Prop} {x:HV} {i:Nat}:exR k (some (p,x,H)) all (some i) l r T=(p∧k (.ops all l::r) (upd T i x) H):=rfl
theorem exR_rv0 {p:Prop} {x:HV}:exR k (rv H p x) all none l r T=(p∧k (.ops all l::r) T H):=rfl
theorem exR_some0 {p:Prop} {x:HV}:exR k (some (p,x,H)) all none l r T=(p∧k (.ops all l::r) T H):=rfl
theorem exRq_rv1 {p:Prop} {x:HV} {H' : Heap} {i:Nat}:exRq k (rv H' p x) all (some i) l r T H=(p∧k (.quiet all l::r) (upd T i x) H):=rfl
theorem exB2_tf1 {t i:Nat} {op:Op}:exB2 k P (.v (.bool true)) t false all (some i) op l r T H=k (.ops all l::r) (upd T i (.v undef)) H:=by simp[exB2,updO]
theorem exB2_ft1 {t i:Nat} {op:Op}:exB2 k P (.v (.bool false)) t true all (some i) op l r T H=k (.ops all l::r) (upd T i (.v undef)) H:=by simp[exB2,updO]
theorem exB2_bool1 {c b:Bool} {t i:Nat} {op:Op}:exB2 k P (.v (.bool c)) t b all (some i) op l r T H=((c=b→exO k P all (some i) op l r T H)∧(c=(!b)→k (.ops all l::r) (upd T i (.v undef)) H)):=rfl
theorem exB2_undef1 {b:Bool} {t i:Nat} {op:Op}:exB2 k P (.v undef) t b all (some i) op l r T H=k (.ops all l::r) (upd T i (.v undef)) H:=rfl
theorem exBq2_tf1 {t i:Nat} {op:Op}:exBq2 k P (.v (.bool true)) t false all (some i) op l r T H=k (.quiet all l::r) (upd T i (.v undef)) H:=by simp[exBq2,updO]
theorem exBq2_ft1 {t i:Nat} {op:Op}:exBq2 k P (.v (.bool false)) t true all (some i) op l r T H=k (.quiet all l::r) (upd T i (.v undef)) H:=by simp[exBq2,updO]
theorem exBq2_bool1 {c b:Bool} {t i:Nat} {op:Op}:exBq2 k P (.v (.bool c)) t b all (some i) op l r T H=((c=b→exOq k P all (some i) op l r T H)∧(c=(!b)→k (.quiet all l::r) (upd T i (.v undef)) H)):=rfl
theorem exBq2_undef1 {b:Bool} {t i:Nat} {op:Op}:exBq2 k P (.v undef) t b all (some i) op l r T H=k (.quiet all l::r) (upd T i (.v undef)) H:=rfl
theorem exR_congr {x x' : Res} (h:x=x'):exR k x all d l r T=exR k x' all d l r T:=by rw[h]
theorem exRq_congr {x x' : Res} (h:x=x'):exRq k x all d l r T H=exRq k x' all d l r T H:=by rw[h]
theorem exB_congr {t t' : Option Nat} {b:Bool} {op:Op} (h:t=t'):exB k P t b all d op l r T H=exB k P t' b all d op l r T H:=by rw[h]
theorem exB2_congr {x x' : HV} {t:Nat} {b:Bool} {op:Op} (h:x=x'):exB2 k P x t b all d op l r T H=exB2 k P x' t b all d op l r T H:=by rw[h]
theorem exBq_congr {t t' : Option Nat} {b:Bool} {op:Op} (h:t=t'):exBq k P t b all d op l r T H=exBq k P t' b all d op l r T H:=by rw[h]
theorem exBq2_congr {x x' : HV} {t:Nat} {b:Bool} {op:Op} (h:x=x'):exBq2 k P x t b all d op l r T H=exBq2 k P x' t b all d op l r T H:=by rw[h]
theorem exC2_congr {v v' : HV} {x y:Code} (h:v=v'):exC2 k v x y r T H=exC2 k v' x y r T H:=by rw[h]
theorem exCall_congr {f f' : HV} {args args' : List HV} (hf:f=f') (ha:args=args'):exCall k P f H args all d l r T=exCall k P f' H args' all d l r T:=by rw[hf,ha]
theorem exR_none:exR k none all d l r T=False:=rfl
theorem exCall_fn {fid:Nat} {caps args:List HV} (h:fid<4294967296):exCall k P (.fn fid caps) H args all d l r T=callX k P fid H (args++caps) all d l r T:=by
 show callX k P (fnF fid) H (fnA fid .any args caps) all d l r T=_
 rw[fnF_lt h,fnA_lt h]
theorem exCall_meth {fid:Nat} {x:HV} {caps args:List HV} (h:¬fid<4294967296):exCall k P (.fn fid (x::caps)) H args all d l r T=callX k P (fnF fid) H (x::(args++caps)) all d l r T:=by
 show callX k P (fnF fid) H (fnA fid .any args (x::caps)) all d l r T=_
 rw[fnA_ge h];rfl
theorem exO_call {f:Operand} {args:List Operand} {tys:Array TypeId}:exO k P all d (.call { callee:=.value f,args:=List.toArray args,argTypes:=tys }) l r T H=exCall k P (hev T f) H (args.map (hev T)) all d l r T:=rfl
theorem exB_some {t:Nat} {b:Bool} {op:Op}:exB k P (some t) b all d op l r T H=exB2 k P (T t) t b all d op l r T H:=rfl
theorem exB2_tt {t:Nat} {op:Op}:exB2 k P (.v (.bool true)) t true all d op l r T H=exO k P all d op l r T H:=by simp[exB2]
theorem exB2_ff {t:Nat} {op:Op}:exB2 k P (.v (.bool false)) t false all d op l r T H=exO k P all d op l r T H:=by simp[exB2]
theorem exC2_true {x y:Code}:exC2 k (.v (.bool true)) x y r T H=k (.code x::r) T H:=by simp[exC2]
theorem exC2_false {x y:Code}:exC2 k (.v (.bool false)) x y r T H=k (.code y::r) T H:=by simp[exC2]
theorem dstAt_zero {o:Oper}:dstAt (o::all) 0=o.dst:=rfl
theorem dstAt_succ {o:Oper} {j:Nat}:dstAt (o::all) (j+1)=dstAt all j:=by simp[dstAt]
theorem updO_some {i:Nat} {x:HV}:updO T (some i) x=upd T i x:=rfl
theorem updO_none {x:HV}:updO T none x=T:=rfl
theorem upd_eq {i:Nat} {x:HV}:upd T i x i=x:=by simp[upd]
theorem upd_ne {i j:Nat} {x:HV} (h:(j == i)=false):upd T i x j=T j:=by
 have:j≠i:=by simpa using h
 simp[upd,this]
theorem hev_tmp {t:Nat}:hev T (.tmp t)=T t:=rfl
theorem ropQ_func {f:Nat} {cs:List Operand}:ropQ P T H (.makeFunc (.func f) #[] (List.toArray cs))=rv H (f<4294967296) (.fn f (cs.map (hev T))):=rfl
theorem ropQ_meth {f:Nat} {x:Operand} {cs:List Operand}:ropQ P T H (.makeFunc (.func f) (List.toArray [x]) (List.toArray cs))=rv H True (.fn (f+4294967296) (hev T x::cs.map (hev T))):=rfl
theorem exO_makeMap {t:TypeId}:exO k P all d (.makeMap t none) l r T H=exR k (rmakeMap H) all d l r T:=rfl
theorem exO_lookup {t:TypeId} {m x:Operand} {ok:Bool}:exO k P all d (.lookup t m x ok) l r T H=exR k (rlookup P H t (hev T m) (hev T x) ok) all d l r T:=rfl
theorem exO_mapUpdate {t:TypeId} {m x y:Operand}:exO k P all d (.mapUpdate t m x y) l r T H=exR k (rmapUpdate P H t (hev T m) (hev T x) (hev T y)) all d l r T:=rfl
theorem exO_mapEntry {t:TypeId} {m x:Operand}:exO k P all d (.mapEntry t m x) l r T H=exR k (rmapEntry P H t (hev T m) (hev T x)) all d l r T:=rfl
theorem exO_entryStore {t:TypeId} {m x y:Operand}:exO k P all d (.entryStore t m x y) l r T H=exR k (rentryStore H (hev T m) (hev T x) (hev T y)) all d l r T:=rfl
theorem exO_copy {s x:Operand} {t u:TypeId}:exO k P all d (.call { callee:=.builtin .copy,args:=#[s,x],argTypes:=#[t,u] }) l r T H=exR k (rcopy P H t (hev T s) (hev T x)) all d l r T:=rfl
theorem rlookup_mp {t:TypeId} {id:Nat} {x:HV} {ok:Bool}:rlookup P H t (.mp id) x ok=bindO (getO H id) fun ob=>bindO (mapOf ob) fun es=>bindO (mapTI P t) fun ty=>bindO (valOf x) fun key=>bindO (lookV es.1 key ty.2.2) fun r=>rv H (keyIs P ty.1 key) (if ok=true then .tu [cHV r.1,.v (.bool r.2)] else cHV r.1):=rfl
theorem rmapUpdate_mp {t:TypeId} {id:Nat} {x y:HV}:rmapUpdate P H t (.mp id) x y=bindO (getO H id) fun ob=>bindO (mapOf ob) fun es=>bindO (mapTI P t) fun ty=>bindO (valOf x) fun key=>bindO (valOf y) fun val=>bindO (putO es.1 es.2 key val) fun o=>some (keyIs P ty.1 key∧keq key key=some true,.v undef,H.set id (some o)):=rfl
theorem rmapEntry_mp {t:TypeId} {id:Nat} {x:HV}:rmapEntry P H t (.mp id) x=bindO (getO H id) fun ob=>bindO (mapOf ob) fun es=>bindO (mapTI P t) fun ty=>bindO (valOf x) fun key=>bindO (entO es.1 es.2 key ty.2.2) fun r=>some (keyIs P ty.1 key∧keq key key=some true,.tu [cHV r.1,.v (.int .i64 r.2.1)],H.set id (some r.2.2)):=rfl
theorem rentryStore_mp {id:Nat} {b:Int} {x:HV}:rentryStore H (.mp id) (.v (.int .i64 b)) x=bindO (getO H id) fun ob=>bindO (mapOf ob) fun es=>bindO (valOf x) fun val=>bindO (stoO es.1 es.2 b val) fun o=>some (True,.v undef,H.set id (some o)):=rfl
theorem rcopy_hd {t:TypeId} {id len:Nat} {x:HV}:rcopy P H t (.hd id 0 len) x=bindO (elemTI P t 3) fun e=>bindO (srcRows H x) fun new=>bindO (getO H id) fun ob=>some (e.2.2.size≠0∧tvs new.flatten=true∧tvs ob.rows.flatten=true∧RowsLen new e.2.2.size∧len=ob.rows.length∧new.length=len∧ob.e=e.2.1∧ob.sz=e.2.2.size,.v (.int .i64 len),H.set id (some { ob with rows:=new })):=rfl
theorem valOf_v {x:Value}:valOf (.v x)=some x:=rfl
theorem valOf_ag2 {x y:Value}:valOf (.ag [.v x,.v y])=some (.agg #[x,y]):=rfl
theorem keyIs_int {t:TypeId} {x:Int}:keyIs P t (.int .i64 x)=(intTy P t=some .i64):=rfl
theorem keyIs_ag2 {t:TypeId} {x y:Int}:keyIs P t (.agg #[.int .i64 x,.int .i64 y])=(arrInt P t=some 2):=by simp[keyIs,intsOf]
theorem keyIs_str {t:TypeId} {x:ByteArray}:keyIs P t (.string x)=(kindIs P t 4=true):=rfl
theorem keq_int {x y:Int}:keq (.int .i64 x) (.int .i64 y)=some (decide (x=y)):=rfl
theorem keq_str {x y:ByteArray}:keq (.string x) (.string y)=some (decide (bl x=bl y)):=rfl
theorem keq_ag2 {x y u v:Int}:keq (.agg #[.int .i64 x,.int .i64 y]) (.agg #[.int .i64 u,.int .i64 v])=some (decide ((x,y)=(u,v))):=by simp[keq,intsOf]
theorem binRes_slnil {op:BinOp} {t:TypeId} {c:Bool} {rows:List (List HV)}:binRes P op t c (.sl rows) (.v (.slice none 0 0))=if kindIs P t 3=true∧rows.isEmpty=false then eqRes op false else none:=rfl
theorem binRes_snil {op:BinOp} {t:TypeId} {c:Bool} {n q:Nat}:binRes P op t c (.v (.slice none n q)) (.v (.slice none 0 0))=if kindIs P t 3=true then eqRes op true else none:=rfl
theorem binRes_ssnil {op:BinOp} {t:TypeId} {c:Bool} {a:Addr} {n q:Nat}:binRes P op t c (.v (.slice (some a) n q)) (.v (.slice none 0 0))=if kindIs P t 3=true then eqRes op false else none:=rfl
theorem srcRows_none {a:Addr} {c:Nat}:srcRows H (.v (.slice (some a) 0 c))=some []:=rfl
theorem hev_func {f:Nat} (h:f<4294967296):hev T (.func f)=.fn f []:=if_pos h
theorem hev_const {x:Value}:hev T (.const x)=cHV x:=rfl
theorem T0_zero {h:HV} {t:List HV}:T0 (h::t) 0=h:=rfl
theorem T0_succ {h:HV} {t:List HV} {i:Nat}:T0 (h::t) (i+1)=T0 t i:=by simp[T0]
theorem T0_nil {i:Nat}:T0 [] i=.any:=rfl
theorem exO_move {x:Operand}:exO k P all d (.move x) l r T H=exR k (rv H True (hev T x)) all d l r T:=rfl
theorem exO_assign {x:Operand}:exO k P all d (.assign x) l r T H=exR k (rv H True (hev T x)) all d l r T:=rfl
theorem exO_pick {c x y:Operand}:exO k P all d (.pick c x y) l r T H=exR k (rpick H (hev T c) (hev T x) (hev T y)) all d l r T:=rfl
theorem exO_alloc {t:TypeId}:exO k P all d (.alloc t) l r T H=exR k (ralloc P H t) all d l r T:=rfl
theorem exO_box {t:TypeId} {x:Operand}:exO k P all d (.box t x) l r T H=exR k (rbox P H t (hev T x)) all d l r T:=rfl
theorem exO_build {t:TypeId} {ps:List (Nat×Operand)}:exO k P all d (.build t (List.toArray ps)) l r T H=exR k (rbuild P H t (ps.map fun p=>(p.1,hev T p.2))) all d l r T:=rfl
theorem exO_buildSlice {t:TypeId} {len:Nat} {ps:List (Nat×Operand)}:exO k P all d (.buildSlice t len (List.toArray ps)) l r T H=exR k (rbuildSlice P T H t len ps) all d l r T:=rfl
theorem exO_load {t:TypeId} {a:Operand}:exO k P all d (.load t a) l r T H=exR k (rload P H t (hev T a)) all d l r T:=rfl
theorem exO_store {t:TypeId} {a x:Operand}:exO k P all d (.store t a x) l r T H=exR k (rstore P H t (hev T a) (hev T x)) all d l r T:=rfl
theorem exO_nilCheck {x:Operand}:exO k P all d (.nilCheck x) l r T H=exR k (rsure H (hev T x)) all d l r T:=rfl
theorem exO_bin {op:BinOp} {t t' : TypeId} {x y:Operand}:exO k P all d (.binOp op t x y t') l r T H=exR k (rbin P H op t (isC x || isC y) (hev T x) (hev T y)) all d l r T:=rfl
theorem exO_un {op:UnOp} {t:TypeId} {x:Operand}:exO k P all d (.unOp op t x) l r T H=exR k (run1 H op (hev T x)) all d l r T:=rfl
theorem exO_conv {s t:TypeId} {x:Operand}:exO k P all d (.convert s t x) l r T H=exR k (rconvA P H s t (hev T x)) all d l r T:=rfl
theorem exO_iface {t:TypeId} {x:Operand}:exO k P all d (.makeInterface t x) l r T H=exR k (riface P H t (hev T x)) all d l r T:=rfl
theorem exO_func {f:Nat} {cs:List Operand}:exO k P all d (.makeFunc (.func f) #[] (List.toArray cs)) l r T H=exR k (rv H (f<4294967296) (.fn f (cs.map (hev T)))) all d l r T:=rfl
theorem exO_meth {f:Nat} {x:Operand} {cs:List Operand}:exO k P all d (.makeFunc (.func f) (List.toArray [x]) (List.toArray cs)) l r T H=exR k (rv H True (.fn (f+4294967296) (hev T x::cs.map (hev T)))) all d l r T:=rfl
theorem exO_makeSlice {t:TypeId} {x y:Operand}:exO k P all d (.makeSlice t x y) l r T H=exR k (rmakeSlice P H t (hev T x) (hev T y)) all d l r T:=rfl
theorem exO_slice1 {t:TypeId} {x lo hi:Operand}:exO k P all d (.slice t x (some lo) (some hi) none) l r T H=exR k (rcut P H t (hev T x) (some (hev T lo)) (some (hev T hi))) all d l r T:=rfl
theorem exO_slice4 {t:TypeId} {x lo:Operand}:exO k P all d (.slice t x (some lo) none none) l r T H=exR k (rcutB P H t (hev T x) (hev T lo)) all d l r T:=rfl
theorem exO_slice2 {t:TypeId} {x:Operand}:exO k P all d (.slice t x none none none) l r T H=exR k (rcut P H t (hev T x) none none) all d l r T:=rfl
theorem exO_slice3 {t:TypeId} {x hi:Operand}:exO k P all d (.slice t x none (some hi) none) l r T H=exR k (rcutT P H t (hev T x) (hev T hi)) all d l r T:=rfl
theorem rcutT_hd {t:TypeId} {id len:Nat} {h:HV}:rcutT P H t (.hd id 0 len) h=bindO (elemTI P t 3) fun e=>bindO (boundV (some h) 0) fun y=>bindO (getO H id) fun ob =>
   some (len=ob.rows.length∧ob.sz=e.2.2.size∧0≤y∧y≤(len:Int),.hd H.length 0 y.toNat,H.set id none++[some { ob with rows:=ob.rows.take y.toNat }]):=rfl
theorem rcutT_sl {t:TypeId} {rows:List (List HV)} {h:HV}:rcutT P H t (.sl rows) h=rcut P H t (.sl rows) none (some h):=rfl
theorem rcutT_str {t:TypeId} {a:List UInt8} {h:HV}:rcutT P H t (.v (str a)) h=rcut P H t (.v (str a)) none (some h):=rfl
theorem exO_fieldAddr {t:TypeId} {x:Operand} {i:Nat}:exO k P all d (.fieldAddr t x i) l r T H=exR k (rfieldAddr P H t (hev T x) i) all d l r T:=rfl
theorem exO_field {t:TypeId} {x:Operand} {i:Nat}:exO k P all d (.field t x i) l r T H=exR k (rfield P H t (hev T x) i) all d l r T:=rfl
theorem exO_indexAddr {t:TypeId} {x i:Operand}:exO k P all d (.indexAddr t x i) l r T H=exR k (rindexAddr P H t (hev T x) (hev T i)) all d l r T:=rfl
theorem exO_index {t:TypeId} {x i:Operand}:exO k P all d (.index t x i) l r T H=exR k (rindex P H t (hev T x) (hev T i)) all d l r T:=rfl
theorem exO_extract {x:Operand} {i:Nat}:exO k P all d (.extract x i) l r T H=exR k (rextract H (hev T x) i) all d l r T:=rfl
theorem exO_len {x:Operand} {t:TypeId}:exO k P all d (.call { callee:=.builtin .len,args:=#[x],argTypes:=#[t] }) l r T H=exR k (rlen P H t (hev T x)) all d l r T:=rfl
theorem exO_append {s x:Operand} {t:TypeId}:exO k P all d (.call { callee:=.builtin .append,args:=#[s,x],argTypes:=#[t,t] }) l r T H=exR k (rappend P H t (hev T s) (hev T x)) all d l r T:=by
 show exR k (if t=t then rappend P H t (hev T s) (hev T x) else none) all d l r T=_
 rw[if_pos rfl]
theorem ex_quietnil:ex P N L Q (n+1) (.quiet all []::r) T H=ex P N L Q n r T H:=rfl
theorem ex_quiet1 {op:Op} {ty:TypeId} {pos:String} {af:Array Edge}:ex P N L Q (n+1) (.quiet all (⟨d,op,ty,pos,af,none⟩::l)::r) T H=exOq (ex P N L Q n) P all d op l r T H:=rfl
theorem ex_quietg {op:Op} {ty:TypeId} {pos:String} {af:Array Edge} {j:Nat} {b:Bool}:ex P N L Q (n+1) (.quiet all (⟨d,op,ty,pos,af,some (j,b)⟩::l)::r) T H=exBq (ex P N L Q n) P (dstAt all j) b all d op l r T H:=rfl
theorem exRq_none:exRq k none all d l r T H=False:=rfl
theorem exBq_some {t:Nat} {b:Bool} {op:Op}:exBq k P (some t) b all d op l r T H=exBq2 k P (T t) t b all d op l r T H:=rfl
theorem exBq2_tt {t:Nat} {op:Op}:exBq2 k P (.v (.bool true)) t true all d op l r T H=exOq k P all d op l r T H:=by simp[exBq2]
theorem exBq2_ff {t:Nat} {op:Op}:exBq2 k P (.v (.bool false)) t false all d op l r T H=exOq k P all d op l r T H:=by simp[exBq2]
theorem exOq_move {x:Operand}:exOq k P all d (.move x) l r T H=exRq k (ropQ P T H (.move x)) all d l r T H:=rfl
theorem exOq_assign {x:Operand}:exOq k P all d (.assign x) l r T H=exRq k (ropQ P T H (.assign x)) all d l r T H:=rfl
theorem exOq_pick {c x y:Operand}:exOq k P all d (.pick c x y) l r T H=exRq k (ropQ P T H (.pick c x y)) all d l r T H:=rfl
theorem exOq_build {t:TypeId} {ps:Array (Nat×Operand)}:exOq k P all d (.build t ps) l r T H=exRq k (ropQ P T H (.build t ps)) all d l r T H:=rfl
theorem exOq_load {t:TypeId} {a:Operand}:exOq k P all d (.load t a) l r T H=exRq k (ropQ P T H (.load t a)) all d l r T H:=rfl
theorem exOq_nilCheck {x:Operand}:exOq k P all d (.nilCheck x) l r T H=exRq k (ropQ P T H (.nilCheck x)) all d l r T H:=rfl
theorem exOq_bin {op:BinOp} {t t' : TypeId} {x y:Operand}:exOq k P all d (.binOp op t x y t') l r T H=exRq k (ropQ P T H (.binOp op t x y t')) all d l r T H:=rfl
theorem exOq_un {op:UnOp} {t:TypeId} {x:Operand}:exOq k P all d (.unOp op t x) l r T H=exRq k (ropQ P T H (.unOp op t x)) all d l r T H:=rfl
theorem exOq_conv {s t:TypeId} {x:Operand}:exOq k P all d (.convert s t x) l r T H=exRq k (ropQ P T H (.convert s t x)) all d l r T H:=rfl
theorem exOq_iface {t:TypeId} {x:Operand}:exOq k P all d (.makeInterface t x) l r T H=exRq k (ropQ P T H (.makeInterface t x)) all d l r T H:=rfl
theorem exOq_meth {f:Nat} {x:Operand} {cs:List Operand}:exOq k P all d (.makeFunc (.func f) (List.toArray [x]) (List.toArray cs)) l r T H=exRq k (ropQ P T H (.makeFunc (.func f) (List.toArray [x]) (List.toArray cs))) all d l r T H:=rfl
theorem exOq_func {f:Nat} {cs:List Operand}:exOq k P all d (.makeFunc (.func f) #[] (List.toArray cs)) l r T H=exRq k (ropQ P T H (.makeFunc (.func f) #[] (List.toArray cs))) all d l r T H:=rfl
theorem exOq_slice {t:TypeId} {x:Operand} {lo hi:Option Operand}:exOq k P all d (.slice t x lo hi none) l r T H=exRq k (ropQ P T H (.slice t x lo hi none)) all d l r T H:=rfl
theorem exOq_fieldAddr {t:TypeId} {x:Operand} {i:Nat}:exOq k P all d (.fieldAddr t x i) l r T H=exRq k (ropQ P T H (.fieldAddr t x i)) all d l r T H:=rfl
theorem exOq_field {t:TypeId} {x:Operand} {i:Nat}:exOq k P all d (.field t x i) l r T H=exRq k (ropQ P T H (.field t x i)) all d l r T H:=rfl
theorem exOq_indexAddr {t:TypeId} {x i:Operand}:exOq k P all d (.indexAddr t x i) l r T H=exRq k (ropQ P T H (.indexAddr t x i)) all d l r T H:=rfl
theorem exOq_index {t:TypeId} {x i:Operand}:exOq k P all d (.index t x i) l r T H=exRq k (ropQ P T H (.index t x i)) all d l r T H:=rfl
theorem exOq_extract {x:Operand} {i:Nat}:exOq k P all d (.extract x i) l r T H=exRq k (ropQ P T H (.extract x i)) all d l r T H:=rfl
theorem exOq_builtin {b:Builtin} {args:Array Operand} {tys:Array TypeId}:exOq k P all d (.call { callee:=.builtin b,args:=args,argTypes:=tys }) l r T H=exRq k (ropQ P T H (.call { callee:=.builtin b,args:=args,argTypes:=tys })) all d l r T H:=rfl
theorem exOq_call {f:Operand} {args:List Operand} {tys:Array TypeId}:exOq k P all d (.call { callee:=.value f,args:=List.toArray args,argTypes:=tys }) l r T H=exCallQ k P (hev T f) H (args.map (hev T)) all d l r T:=rfl
theorem exOq_invoke {rv:Operand} {name:String} {args:List Operand} {tys:Array TypeId}:exOq k P all d (.call { callee:=.invoke rv name,args:=List.toArray args,argTypes:=tys }) l r T H=exInvQ k P (hev T rv) name H (args.map (hev T)) all d l r T:=rfl
theorem exO_invoke {rv:Operand} {name:String} {args:List Operand} {tys:Array TypeId}:exO k P all d (.call { callee:=.invoke rv name,args:=List.toArray args,argTypes:=tys }) l r T H=exInv k P (hev T rv) name H (args.map (hev T)) all d l r T:=rfl
theorem exCallQ_fn {fid:Nat} {caps args:List HV} (h:fid<4294967296):exCallQ k P (.fn fid caps) H args all d l r T=callQ k P fid H (args++caps) all d l r T:=by
 show callQ k P (fnF fid) H (fnA fid .any args caps) all d l r T=_
 rw[fnF_lt h,fnA_lt h]
theorem exCallQ_meth {fid:Nat} {x:HV} {caps args:List HV} (h:¬fid<4294967296):exCallQ k P (.fn fid (x::caps)) H args all d l r T=callQ k P (fnF fid) H (x::(args++caps)) all d l r T:=by
 show callQ k P (fnF fid) H (fnA fid .any args (x::caps)) all d l r T=_
 rw[fnA_ge h];rfl
theorem exInv_ic {t:TypeId} {x:HV} {name:String} {args:List HV}:exInv k P (.ic t x) name H args all d l r T=exInv2 k P (methodFn P t name) H (x::args) all d l r T:=rfl
theorem exInv2_some {fid:Nat} {args:List HV}:exInv2 k P (some fid) H args all d l r T=callX k P fid H args all d l r T:=rfl
theorem exInvQ_ic {t:TypeId} {x:HV} {name:String} {args:List HV}:exInvQ k P (.ic t x) name H args all d l r T=exInvQ2 k P (methodFn P t name) H (x::args) all d l r T:=rfl
theorem exInvQ2_some {fid:Nat} {args:List HV}:exInvQ2 k P (some fid) H args all d l r T=callQ k P fid H args all d l r T:=rfl
theorem exCallQ_congr {f f' : HV} {args args' : List HV} (hf:f=f') (ha:args=args'):exCallQ k P f H args all d l r T=exCallQ k P f' H args' all d l r T:=by rw[hf,ha]
theorem exInv_congr {f f' : HV} {name:String} {args args' : List HV} (hf:f=f') (ha:args=args'):exInv k P f name H args all d l r T=exInv k P f' name H args' all d l r T:=by rw[hf,ha]
theorem exInvQ_congr {f f' : HV} {name:String} {args args' : List HV} (hf:f=f') (ha:args=args'):exInvQ k P f name H args all d l r T=exInvQ k P f' name H args' all d l r T:=by rw[hf,ha]
theorem exInv2_congr {f f' : Option Nat} {args args' : List HV} (hf:f=f') (ha:args=args'):exInv2 k P f H args all d l r T=exInv2 k P f' H args' all d l r T:=by rw[hf,ha]
theorem exInvQ2_congr {f f' : Option Nat} {args args' : List HV} (hf:f=f') (ha:args=args'):exInvQ2 k P f H args all d l r T=exInvQ2 k P f' H args' all d l r T:=by rw[hf,ha]
theorem callQ_fn {fid:Nat} {args args' : List HV} {R:HV} (n:Nat) (spec:HFn P fid args' R) (hargs:args.map (fz n H)=args') (hnz:nz R=true) (hfz:fzo R=R) (h:k (.quiet all l::r) (updO T d R) H):callQ k P fid H args all d l r T:=by
 subst hargs
 exact ⟨n,R,_,spec,.inl ⟨rfl,hnz⟩,by rw[hfz];exact h⟩
theorem exOq_buildSlice {t:TypeId} {len:Nat} {ps:List (Nat×Operand)}:exOq k P all d (.buildSlice t len (List.toArray ps)) l r T H=exRq k (rbuildSliceF P T H t len ps) all d l r T H:=rfl
theorem exO_max {x y:Operand} {t u:TypeId}:exO k P all d (.call { callee:=.builtin .max,args:=#[x,y],argTypes:=#[t,u] }) l r T H=exR k (rmm true H (hev T x) (hev T y)) all d l r T:=rfl
theorem exO_min {x y:Operand} {t u:TypeId}:exO k P all d (.call { callee:=.builtin .min,args:=#[x,y],argTypes:=#[t,u] }) l r T H=exR k (rmm false H (hev T x) (hev T y)) all d l r T:=rfl
theorem ropQ_max {x y:Operand} {t u:TypeId}:ropQ P T H (.call { callee:=.builtin .max,args:=#[x,y],argTypes:=#[t,u] })=rmm true H (hev T x) (hev T y):=rfl
theorem ropQ_min {x y:Operand} {t u:TypeId}:ropQ P T H (.call { callee:=.builtin .min,args:=#[x,y],argTypes:=#[t,u] })=rmm false H (hev T x) (hev T y):=rfl
theorem rmm_max {i:IntKind} {x y:Int}:rmm true H (.v (.int i x)) (.v (.int i y))=rv H True (.v (.int i (if y > x then y else x))):=rfl
theorem rmm_min {i:IntKind} {x y:Int}:rmm false H (.v (.int i x)) (.v (.int i y))=rv H True (.v (.int i (if y<x then y else x))):=rfl
def rconvB (P:Program) (H:Heap) (s t:TypeId) (a:List UInt8):Bool→Res
 | true=>bindO (elemTI P t 3) fun e=>rv H (kindIs P s 4=true∧intTy P e.2.1=some .u8∧a.length≤140737488355328) (.sl (a.map byteRow))
 | false=>rconv P H s t (.v (str a))
theorem rconvB_true {s t:TypeId} {a:List UInt8}:rconvB P H s t a true=bindO (elemTI P t 3) fun e=>rv H (kindIs P s 4=true∧intTy P e.2.1=some .u8∧a.length≤140737488355328) (.sl (a.map byteRow)):=rfl
theorem rconvB_false {s t:TypeId} {a:List UInt8}:rconvB P H s t a false=rconv P H s t (.v (str a)):=rfl
theorem rconvA_str {s t:TypeId} {a:List UInt8}:rconvA P H s t (.v (str a))=rconvB P H s t a (kindIs P t 3):=by
 unfold rconvA str
 dsimp only
 cases kindIs P t 3 <;> rfl
theorem rconvA_int {s t:TypeId} {i:IntKind} {x:Int}:rconvA P H s t (.v (.int i x))=rconv P H s t (.v (.int i x)):=rfl
theorem rconvA_hd {s t:TypeId} {id o m:Nat}:rconvA P H s t (.hd id o m)=rconv P H s t (.hd id o m):=rfl
theorem rconvA_sl {s t:TypeId} {rows:List (List HV)}:rconvA P H s t (.sl rows)=rconv P H s t (.sl rows):=rfl
theorem rconvA_nil {s t:TypeId}:rconvA P H s t (.v (.slice none 0 0))=rconv P H s t (.v (.slice none 0 0)):=rfl
theorem rcutB_pt {t:TypeId} {id m:Nat} {lo:HV}:rcutB P H t (.pt id m 0 0) lo=bindO (arrTI P t) fun m'=>bindO (boundV (some lo) 0) fun z=>bindO (getO H id) fun ob=>bindO (oneRow ob.rows) fun row =>
   some (m=1∧row.length=m'∧m'≤140737488355328∧0≤z∧z≤(m' : Int),.sl (((fzoL row).map fun c=>[c]).drop z.toNat),H.set id none):=rfl
theorem rcutB_str {t:TypeId} {a:List UInt8} {lo:HV}:rcutB P H t (.v (str a)) lo=rcut P H t (.v (str a)) (some lo) none:=rfl
theorem rcutB_hd {t:TypeId} {id o m:Nat} {lo:HV}:rcutB P H t (.hd id o m) lo=rcut P H t (.hd id o m) (some lo) none:=rfl
theorem rcutB_sl {t:TypeId} {rows:List (List HV)} {lo:HV}:rcutB P H t (.sl rows) lo=rcut P H t (.sl rows) (some lo) none:=rfl
theorem oneRow_one {r' : List HV}:oneRow [r']=some r':=rfl
theorem binRes_ag {op:BinOp} {t:TypeId} {c:Bool} {a b:List HV}:binRes P op t c (.ag a) (.ag b)=(eqKinds P t).bind fun ks=>(eqK ks a b).bind fun r=>eqRes op r:=rfl
theorem eqK_nil:eqK [] [] []=some true:=rfl
theorem eqK_int {ks:List Nat} {i:IntKind} {x y:Int} {a b:List HV}:eqK (8::ks) (.v (.int i x)::a) (.v (.int i y)::b)=(eqK ks a b).map fun r=>decide (x=y) && r:=by simp[eqK]
theorem eqK_str {ks:List Nat} {x y:List UInt8} {a b:List HV}:eqK (4::ks) (.v (str x)::a) (.v (str y)::b)=(eqK ks a b).map fun r=>decide (x=y) && r:=rfl
theorem eqK_bool {ks:List Nat} {x y:Bool} {a b:List HV}:eqK (7::ks) (.v (.bool x)::a) (.v (.bool y)::b)=(eqK ks a b).map fun r=>decide (x=y) && r:=by simp[eqK]
theorem lappend_nil {α:Type} {b:List α}:List.append [] b=b:=rfl
theorem lappend_cons {α:Type} {x:α} {a b:List α}:List.append (x::a) b=x::List.append a b:=rfl
theorem dropTo_quiet {b:Nat}:dropTo b (.quiet all l::r)=dropTo b r:=rfl
theorem ropQ_move {x:Operand}:ropQ P T H (.move x)=rv H True (hev T x):=rfl
theorem ropQ_assign {x:Operand}:ropQ P T H (.assign x)=rv H True (hev T x):=rfl
theorem ropQ_pick {c x y:Operand}:ropQ P T H (.pick c x y)=rpick H (hev T c) (hev T x) (hev T y):=rfl
theorem ropQ_build {t:TypeId} {ps:List (Nat×Operand)}:ropQ P T H (.build t (List.toArray ps))=rbuild P H t (ps.map fun p=>(p.1,hev T p.2)):=rfl
theorem ropQ_load {t:TypeId} {a:Operand}:ropQ P T H (.load t a)=bindO (ti P t) fun x=>rloadQ x H (hev T a):=rfl
theorem ropQ_nilCheck {x:Operand}:ropQ P T H (.nilCheck x)=rsure H (hev T x):=rfl
theorem ropQ_bin {op:BinOp} {t t' : TypeId} {x y:Operand}:ropQ P T H (.binOp op t x y t')=rbin P H op t (isC x || isC y) (hev T x) (hev T y):=rfl
theorem ropQ_un {op:UnOp} {t:TypeId} {x:Operand}:ropQ P T H (.unOp op t x)=run1 H op (hev T x):=rfl
theorem ropQ_conv {s t:TypeId} {x:Operand}:ropQ P T H (.convert s t x)=rconv P H s t (hev T x):=rfl
theorem ropQ_iface {t:TypeId} {x:Operand}:ropQ P T H (.makeInterface t x)=riface P H t (hev T x):=rfl
theorem ropQ_slice {t:TypeId} {x:Operand} {lo hi:Option Operand}:ropQ P T H (.slice t x lo hi none)=rcut P H t (hev T x) (lo.map (hev T)) (hi.map (hev T)):=rfl
theorem ropQ_fieldAddr {t:TypeId} {x:Operand} {i:Nat}:ropQ P T H (.fieldAddr t x i)=rfieldAddr P H t (hev T x) i:=rfl
theorem ropQ_field {t:TypeId} {x:Operand} {i:Nat}:ropQ P T H (.field t x i)=rfield P H t (hev T x) i:=rfl
theorem ropQ_indexAddr {t:TypeId} {x i:Operand}:ropQ P T H (.indexAddr t x i)=rindexAddr P H t (hev T x) (hev T i):=rfl
theorem ropQ_index {t:TypeId} {x i:Operand}:ropQ P T H (.index t x i)=rindex P H t (hev T x) (hev T i):=rfl
theorem ropQ_extract {x:Operand} {i:Nat}:ropQ P T H (.extract x i)=rextract H (hev T x) i:=rfl
theorem ropQ_len {x:Operand} {t:TypeId}:ropQ P T H (.call { callee:=.builtin .len,args:=#[x],argTypes:=#[t] })=rlen P H t (hev T x):=rfl
theorem rpick_true {x y:HV}:rpick H (.v (.bool true)) x y=rv H True x:=rfl
theorem rpick_false {x y:HV}:rpick H (.v (.bool false)) x y=rv H True y:=rfl
theorem run1_not {b:Bool}:run1 H .not (.v (.bool b))=rv H True (.v (.bool (!b))):=rfl
theorem run1_neg {i:IntKind} {z:Int}:run1 H .neg (.v (.int i z))=rv H True (.v (.int i (i.wrap (0-z)))):=rfl
theorem rextract_tu {vs:List HV} {i:Nat}:rextract H (.tu vs) i=bindO vs[i]? fun v=>rv H True v:=rfl
theorem rconv_int {s t:TypeId} {i:IntKind} {z:Int}:rconv P H s t (.v (.int i z))=bindO (intTy P s) fun _=>bindO (intTy P t) fun k'=>rv H True (.v (.int k' (k'.wrap z))):=rfl
theorem rconv_str {s t:TypeId} {a:List UInt8}:rconv P H s t (.v (str a))=rv H (kindIs P s 4=true∧kindIs P t 4=true) (.v (str a)):=rfl
theorem rconv_hd {s t:TypeId} {id o len:Nat}:rconv P H s t (.hd id o len)=bindO (elemTI P s 3) fun e=>bindO (srcRows H (.hd id o len)) fun rows=>bindO (bytesOf rows) fun l=>rv H (intTy P e.2.1=some .u8∧kindIs P t 4=true) (.v (str l)):=rfl
theorem rconv_sl {s t:TypeId} {rows:List (List HV)}:rconv P H s t (.sl rows)=bindO (elemTI P s 3) fun e=>bindO (srcRows H (.sl rows)) fun rows=>bindO (bytesOf rows) fun l=>rv H (intTy P e.2.1=some .u8∧kindIs P t 4=true) (.v (str l)):=rfl
theorem rsure_fp {rows:List (List HV)} {i o:Nat}:rsure H (.fp rows i o)=rv H True (.fp rows i o):=rfl
theorem rsure_pt {id m i o:Nat}:rsure H (.pt id m i o)=rv H (liveAt H (.pt id m i o)=true) (.pt id m i o):=rfl
theorem rsure_fn {f:Nat} {cs:List HV}:rsure H (.fn f cs)=rv H True (.fn f cs):=rfl
theorem rsure_ic {t:TypeId} {x:HV}:rsure H (.ic t x)=rv H True (.ic t x):=rfl
theorem liveAt_fp {rows:List (List HV)} {i o:Nat}:liveAt H (.fp rows i o)=true:=rfl
theorem liveAt_pt {id m i o:Nat}:liveAt H (.pt id m i o)=(match getO H id with | some ob=>m == ob.rows.length && ob.rows.length != 0 | none=>false):=by
 simp only[liveAt,getO]
 cases h:H[id]? with
 | none=>rfl
 | some o'=>cases o' <;> rfl
theorem rfield_ag {cs:List HV} {t:TypeId} {i:Nat}:rfield P H t (.ag cs) i=bindO (fldAt P t i) fun f=>rv H (okTI f.2=true∧f.1+f.2.size≤cs.length) (mkV f.2 ((cs.drop f.1).take f.2.size)):=rfl
theorem rindexAddr_sl {rows:List (List HV)} {t:TypeId} {i:IntKind} {z:Int}:rindexAddr P H t (.sl rows) (.v (.int i z))=bindO (elemTI P t 3) fun e=>rv H (0≤z∧z<(rows.length:Int)∧RowsLen rows e.2.2.size) (.fp rows z.toNat 0):=rfl
theorem rindexAddr_hd {id o len:Nat} {t:TypeId} {i:IntKind} {z:Int}:rindexAddr P H t (.hd id o len) (.v (.int i z))=bindO (elemTI P t 3) fun e=>bindO (getO H id) fun ob=>rv H (o+len=ob.rows.length∧ob.sz=e.2.2.size∧0≤z∧z<(len:Int)) (.pt id ob.rows.length (o+z.toNat) 0):=rfl
theorem rindexAddr_pt {id m r' o:Nat} {t:TypeId} {i:IntKind} {z:Int}:rindexAddr P H t (.pt id m r' o) (.v (.int i z))=bindO (elemTI P t 2) fun e=>rv H (liveAt H (.pt id m r' o)=true∧0≤z∧z<(e.1.num:Int)) (.pt id m r' (o+z.toNat*e.2.2.size)):=rfl
theorem rindexAddr_fp {rows:List (List HV)} {j o:Nat} {t:TypeId} {i:IntKind} {z:Int}:rindexAddr P H t (.fp rows j o) (.v (.int i z))=bindO (elemTI P t 2) fun e=>rv H (0≤z∧z<(e.1.num:Int)) (.fp rows j (o+z.toNat*e.2.2.size)):=rfl
theorem rindex_str {a:List UInt8} {t:TypeId} {i:IntKind} {z:Int}:rindex P H t (.v (str a)) (.v (.int i z))=bindO a[z.toNat]? fun b=>rv H (kindIs P t 4=true∧0≤z) (.v (.int .u8 (b.toNat:Int))):=rfl
theorem rindex_ag {cs:List HV} {t:TypeId} {i:IntKind} {z:Int}:rindex P H t (.ag cs) (.v (.int i z))=bindO (elemTI P t 2) fun e=>rv H (okTI e.2.2=true∧0≤z∧z<(e.1.num:Int)∧z.toNat*e.2.2.size+e.2.2.size≤cs.length) (mkV e.2.2 ((cs.drop (z.toNat*e.2.2.size)).take e.2.2.size)):=rfl
theorem bv_none {z:Int}:boundV none z=some z:=rfl
theorem bv_int {i:IntKind} {y z:Int}:boundV (some (.v (.int i y))) z=some y:=rfl
theorem extract_str (a:List UInt8) (i j:Nat):Value.string ((⟨a.toArray⟩:ByteArray).extract i j)=str ((a.take j).drop i):=by
 unfold str
 congr 1
 apply ByteArray.ext
 apply Array.ext'
 simp[ByteArray.data_extract,List.extract_eq_take_drop,List.drop_take]
theorem rcut_str {a:List UInt8} {t:TypeId} {lo hi:Option HV}:rcut P H t (.v (str a)) lo hi=bindO (boundV lo 0) fun x=>bindO (boundV hi (a.length:Int)) fun y=>rv H (kindIs P t 4=true∧0≤x∧x≤y∧y≤(a.length:Int)) (.v (str ((a.take y.toNat).drop x.toNat))):=by
 have e:∀x y:Nat,Value.string ((⟨a.toArray⟩:ByteArray).extract x y)=str ((a.take y).drop x):=extract_str a
 have e2:(⟨a.toArray⟩:ByteArray).size=a.length:=by simp[ByteArray.size]
 show bindO (boundV lo 0) (fun x=>bindO (boundV hi ((⟨a.toArray⟩:ByteArray).size:Int)) fun y=>rv H (kindIs P t 4=true∧0≤x∧x≤y∧y≤((⟨a.toArray⟩:ByteArray).size:Int)) (.v (.string ((⟨a.toArray⟩:ByteArray).extract x.toNat y.toNat))))=_
 rw[e2]
 simp only[e]
theorem rcut_sl {rows:List (List HV)} {t:TypeId} {lo hi:Option HV}:rcut P H t (.sl rows) lo hi=bindO (elemTI P t 3) fun e=>bindO (boundV lo 0) fun l=>bindO (boundV hi (rows.length:Int)) fun h=>rv H (RowsLen rows e.2.2.size∧0≤l∧l≤h∧h≤(rows.length:Int)) (.sl ((rows.drop l.toNat).take (h.toNat-l.toNat))):=rfl
theorem rcut_hd {id o len:Nat} {t:TypeId} {lo hi:Option HV}:rcut P H t (.hd id o len) lo hi=bindO (elemTI P t 3) fun e=>bindO (boundV lo 0) fun l=>bindO (boundV hi (len:Int)) fun h=>bindO (getO H id) fun ob =>
   rv H (o+len=ob.rows.length∧ob.sz=e.2.2.size∧0≤l∧l≤h∧h=(len:Int)) (.hd id (o+l.toNat) (len-l.toNat)):=rfl
theorem rlen_str {a:List UInt8} {t:TypeId}:rlen P H t (.v (str a))=rv H (kindIs P t 4=true) (.v (.int .i64 (a.length:Int))):=by
 have e2:(⟨a.toArray⟩:ByteArray).size=a.length:=by simp[ByteArray.size]
 show rv H (kindIs P t 4=true) (.v (.int .i64 ((⟨a.toArray⟩:ByteArray).size:Int)))=_
 rw[e2]
theorem rlen_nil {t:TypeId}:rlen P H t (.v (.slice none 0 0))=rv H (kindIs P t 3=true) (.v (.int .i64 0)):=rfl
theorem rlen_sl {rows:List (List HV)} {t:TypeId}:rlen P H t (.sl rows)=rv H (kindIs P t 3=true) (.v (.int .i64 (rows.length:Int))):=rfl
theorem rlen_hd {id o len:Nat} {t:TypeId}:rlen P H t (.hd id o len)=bindO (getO H id) fun ob=>rv H (o+len=ob.rows.length∧kindIs P t 3=true) (.v (.int .i64 (len:Int))):=rfl
theorem rload2_true {x:TI} {ob:HObj} {row:List HV} {id m i o:Nat}:rload2 x H ob row id m i o true=rv H (okTI x=true∧m=ob.rows.length∧o+x.size≤ob.sz) (mkV x ((row.drop o).take x.size)):=rfl
theorem rload2_false {x:TI} {ob:HObj} {row:List HV} {id m i o:Nat}:rload2 x H ob row id m i o false=bindO (if okTI x=true then some () else none) fun _=>rloadP x (gopens H id i o x.size) (.pt id m i o):=rfl
theorem rload1_pt {x:TI} {id m i o:Nat}:rload1 x H (.pt id m i o)=bindO (getO H id) fun ob=>bindO ob.rows[i]? fun row=>rload2 x H ob row id m i o (tvs ((row.drop o).take x.size)):=rfl
theorem rload1_fp {x:TI} {rows:List (List HV)} {i o:Nat}:rload1 x H (.fp rows i o)=bindO rows[i]? fun row=>rv H (okTI x=true∧o+x.size≤row.length∧tvs ((row.drop o).take x.size)=true) (mkV x ((row.drop o).take x.size)):=rfl
theorem rloadP_pt {x:TI} {id m r' o:Nat}:rloadP x H (.pt id m r' o)=bindO (getO H id) fun ob=>bindO ob.rows[r']? fun row=>rv H (m=ob.rows.length∧o+x.size≤ob.sz∧tvs ((row.drop o).take x.size)=true) (mkV x ((row.drop o).take x.size)):=rfl
theorem rloadQ_pt {x:TI} {id m r' o:Nat}:rloadQ x H (.pt id m r' o)=bindO (getO H id) fun ob=>bindO ob.rows[r']? fun row=>rv H (okTI x=true∧m=ob.rows.length∧o+x.size≤ob.sz∧tvs ((row.drop o).take x.size)=true) (mkV x ((row.drop o).take x.size)):=rfl
theorem rloadQ_fp {x:TI} {rows:List (List HV)} {i o:Nat}:rloadQ x H (.fp rows i o)=bindO rows[i]? fun row=>rv H (okTI x=true∧o+x.size≤row.length∧tvs ((row.drop o).take x.size)=true) (mkV x ((row.drop o).take x.size)):=rfl
theorem rstore_pt {t:TypeId} {id m r' o:Nat} {v:HV}:rstore P H t (.pt id m r' o) v=bindO (ti P t) fun x=>bindO (getO H id) fun ob=>bindO ob.rows[r']? fun row =>
   some (m=ob.rows.length∧(cellsH v).length=x.size∧(cellsH v).all c1=true∧o+x.size≤ob.sz,.any,H.set id (some { ob with rows:=ob.rows.set r' (row.take o++cellsH v++row.drop (o+x.size)) })):=rfl
theorem rmakeSlice_int {t:TypeId} {i j:IntKind} {x y:Int}:rmakeSlice P H t (.v (.int i x)) (.v (.int j y))=bindO (elemTI P t 3) fun e=>bindO (zcells e.2.2) fun cs =>
  some (0≤x∧x≤y∧(e.2.2.bytes:Int)*y≤281474976710656∧y≤9223372036854775807,.hd H.length 0 x.toNat,H++[some ⟨e.2.1,e.2.2.size,List.replicate x.toNat cs⟩]):=rfl
theorem rappend_nil {t:TypeId} {x:HV}:rappend P H t (.v (.slice none 0 0)) x=bindO (elemTI P t 3) fun e=>bindO (srcRows H x) fun new =>
  some (e.2.2.size≠0∧(zcells e.2.2).isSome=true∧tvs new.flatten=true∧RowsLen new e.2.2.size∧new.length≤140737488355328∧new.length*e.2.2.bytes≤140737488355328,.hd H.length 0 new.length,H++[some ⟨e.2.1,e.2.2.size,new⟩]):=rfl
theorem rappend_hd {t:TypeId} {id len:Nat} {x:HV}:rappend P H t (.hd id 0 len) x=bindO (elemTI P t 3) fun e=>bindO (srcRows H x) fun new=>bindO (getO H id) fun ob =>
  some (e.2.2.size≠0∧(zcells e.2.2).isSome=true∧tvs new.flatten=true∧RowsLen new e.2.2.size∧len=ob.rows.length∧ob.e=e.2.1∧ob.sz=e.2.2.size∧len+new.length≤140737488355328∧(len+new.length)*e.2.2.bytes≤140737488355328,
   .hd id 0 (len+new.length),H.set id (some { ob with rows:=ob.rows++new })):=rfl
theorem srcRows_nil:srcRows H (.v (.slice none 0 0))=some []:=rfl
theorem srcRows_sl {rows:List (List HV)}:srcRows H (.sl rows)=some rows:=rfl
theorem srcRows_hd {id o len:Nat}:srcRows H (.hd id o len)=(getO H id).bind fun ob=>if o+len=ob.rows.length then some (ob.rows.drop o) else none:=by
 simp only[srcRows,getO]
 cases h:H[id]? with
 | none=>rfl
 | some o'=>cases o' <;> rfl
theorem binRes_int {op:BinOp} {t:TypeId} {c:Bool} {i:IntKind} {x y:Int}:binRes P op t c (.v (.int i x)) (.v (.int i y))=intRes op i x y:=by simp[binRes]
theorem binRes_bool {op:BinOp} {t:TypeId} {c:Bool} {x y:Bool}:binRes P op t c (.v (.bool x)) (.v (.bool y))=if kindIs P t 7=true then eqRes op (decide (x=y)) else none:=rfl
theorem binRes_icnil {op:BinOp} {t u:TypeId} {c:Bool} {x:HV}:binRes P op t c (.ic u x) (.v .nilIface)=if kindIs P t 9=true then eqRes op false else none:=rfl
theorem binRes_nilnil {op:BinOp} {t:TypeId} {c:Bool}:binRes P op t c (.v .nilIface) (.v .nilIface)=if kindIs P t 9=true∧c=true then eqRes op true else none:=rfl
theorem ir_add {i:IntKind} {x y:Int}:intRes .add i x y=some (.int i (i.wrap (x+y))):=rfl
theorem ir_sub {i:IntKind} {x y:Int}:intRes .sub i x y=some (.int i (i.wrap (x-y))):=rfl
theorem ir_mul {i:IntKind} {x y:Int}:intRes .mul i x y=some (.int i (i.wrap (x*y))):=rfl
theorem ir_quo {i:IntKind} {x y:Int}:intRes .quo i x y=if y=0 then none else some (.int i (i.wrap (x.tdiv y))):=rfl
theorem ir_rem {i:IntKind} {x y:Int}:intRes .rem i x y=if y=0 then none else some (.int i (x.tmod y)):=rfl
theorem ir_eql {i:IntKind} {x y:Int}:intRes .eql i x y=some (.bool (decide (x=y))):=rfl
theorem ir_neq {i:IntKind} {x y:Int}:intRes .neq i x y=some (.bool (!decide (x=y))):=rfl
theorem ir_lss {i:IntKind} {x y:Int}:intRes .lss i x y=some (.bool (decide (x<y))):=rfl
theorem ir_leq {i:IntKind} {x y:Int}:intRes .leq i x y=some (.bool (decide (x≤y))):=rfl
theorem ir_gtr {i:IntKind} {x y:Int}:intRes .gtr i x y=some (.bool (decide (y<x))):=rfl
theorem ir_geq {i:IntKind} {x y:Int}:intRes .geq i x y=some (.bool (decide (y≤x))):=rfl
theorem er_eql {b:Bool}:eqRes .eql b=some (.bool b):=rfl
theorem er_neq {b:Bool}:eqRes .neq b=some (.bool (!b)):=rfl
theorem binRes_seql {t:TypeId} {c:Bool} {a b:List UInt8}:binRes P .eql t c (.v (str a)) (.v (str b))=some (.bool (decide (a=b))):=rfl
theorem binRes_sneq {t:TypeId} {c:Bool} {a b:List UInt8}:binRes P .neq t c (.v (str a)) (.v (str b))=some (.bool (!decide (a=b))):=rfl
theorem exR_sadd {t:TypeId} {c:Bool} {a b:List UInt8}:exR k (bindO (binRes P .add t c (.v (str a)) (.v (str b))) fun v=>rv H True (.v v)) all d l r T=(a.length+b.length≤9223372036854775807∧k (.ops all l::r) (updO T d (.v (str (a++b)))) H):=by
 have e1:(⟨a.toArray⟩:ByteArray).size=a.length:=by simp[ByteArray.size]
 have e2:(⟨b.toArray⟩:ByteArray).size=b.length:=by simp[ByteArray.size]
 have e3:(⟨a.toArray⟩:ByteArray)++(⟨b.toArray⟩:ByteArray)=⟨(a++b).toArray⟩:=by
  apply ByteArray.ext
  apply Array.ext'
  simp[ByteArray.data_append]
 have e4:binRes P .add t c (.v (str a)) (.v (str b))=if a.length+b.length≤9223372036854775807 then some (str (a++b)) else none:=by
  show (if (⟨a.toArray⟩:ByteArray).size+(⟨b.toArray⟩:ByteArray).size≤9223372036854775807 then some (Value.string ((⟨a.toArray⟩:ByteArray)++(⟨b.toArray⟩:ByteArray))) else none)=_
  rw[e1,e2,e3];rfl
 rw[e4]
 by_cases h:a.length+b.length≤9223372036854775807
 ·simp only[h,if_true,bindO_some,true_and]
  show (True∧_)=_
  simp
 ·simp only[h,if_false,bindO_none,false_and]
  rfl
theorem endQ_ret {res:List Nat} {L:Nat} {Q:HV→Heap→Prop}:endQ res L Q .ret T H=endP L Q (packV L (retV res T) H):=rfl
theorem endQ_normal {res:List Nat} {L:Nat} {Q:HV→Heap→Prop}:endQ res L Q .normal T H=endP L Q (packV L (retV res T) H):=rfl
theorem endP_zero {Q:HV→Heap→Prop} {x:HV} {H:Heap}:endP 0 Q (x,H)=Q x []:=by simp[endP,nmH]
theorem retV_one {i:Nat}:retV [i] T=T i:=rfl
theorem retV_nil:retV [] T=.tu []:=rfl
theorem retV_more {i j:Nat} {l:List Nat}:retV (i::j::l) T=.tu ((i::j::l).map T):=rfl
theorem callX_fn {fid:Nat} {args args' : List HV} {R:HV} {r:List Item} (n:Nat) (spec:HFn P fid args' R) (hargs:args.map (fz n H)=args') (hnz:nz R=true) (h:k (.ops all l::r) (updO T d (nameV R H).1) (nameV R H).2):callX k P fid H args all d l r T:=by
 subst hargs
 refine ⟨_,HCalls.lend n spec (fun r hr=>by rw[hr];exact hnz),fun x H' hq _=>?_⟩
 obtain ⟨rfl,rfl⟩:=hq
 exact h
theorem cHV_int {i:IntKind} {z:Int}:cHV (.int i z)=.v (.int i z):=rfl
theorem cHV_bool {b:Bool}:cHV (.bool b)=.v (.bool b):=rfl
theorem cHV_string {a:List UInt8}:cHV (.string ⟨List.toArray a⟩)=.v (str a):=rfl
theorem cHV_nilslice:cHV (.slice none 0 0)=.v (.slice none 0 0):=rfl
theorem cHV_nilIface:cHV .nilIface=.v .nilIface:=rfl
theorem cHV_nilFunc:cHV .nilFunc=.v .nilFunc:=rfl
theorem cHV_agg {cs:List Value}:cHV (.agg (List.toArray cs))=.ag (cs.map .v):=rfl
end
attribute [congr] exCallQ_congr exInv_congr exInvQ_congr exInv2_congr exInvQ2_congr exR_congr exRq_congr exB_congr exB2_congr exBq_congr exBq2_congr exC2_congr exCall_congr
attribute [go_sem high] upd_eq exB2_tt exB2_ff exB2_tf1 exB2_ft1 exBq2_tt exBq2_ff exBq2_tf1 exBq2_ft1 exC2_true exC2_false exR_rv1 exR_some1 exR_rv0 exR_some0 exRq_rv1 exB2_undef1 exBq2_undef1
attribute [go_sem] srcRows_none rmakeMap rlookup_mp rmapUpdate_mp rmapEntry_mp rentryStore_mp rcopy_hd mapOf_obj valOf_v valOf_ag2 keyIs_int keyIs_ag2 keyIs_str keq_int keq_ag2 keq_str binRes_slnil binRes_snil binRes_ssnil
attribute [go_sem] exCallQ_fn exCallQ_meth exCall_meth fnF_ge ropQ_func ropQ_meth exInv_ic exInv2_some exInvQ_ic exInvQ2_some ropQ_max ropQ_min rmm_max rmm_min rconvB_true rconvB_false rconvA_str rconvA_int rconvA_hd rconvA_sl rconvA_nil rcutB_pt rcutB_str rcutB_hd rcutB_sl oneRow_one binRes_ag eqK_nil eqK_int eqK_str eqK_bool Kd_some Kd_none keepT_at Int.toNat_natCast Bool.not_eq_true' Bool.not_eq_false'
 exC2_bool exR_none exCall_fn exB_some exB2_bool1 updO_some updO_none upd_ne hev_tmp hev_func hev_const T0_zero T0_succ T0_nil
 rcutT_hd rcutT_sl rcutT_str
 endP_zero retV_one retV_nil retV_more packV packL List.forall_mem_cons decide_true decide_false decide_eq_true_eq decide_eq_false_iff_not
 cHV_int cHV_bool cHV_string cHV_nilslice cHV_nilIface cHV_nilFunc cHV_agg
 bindO_some bindO_none getO_zero getO_succ rbin riface rfieldAddr rload ralloc rbox rbuild rbuildSlice isC exRq_none exBq_some exBq2_bool1 ropQ_move ropQ_assign ropQ_pick ropQ_build ropQ_load ropQ_nilCheck ropQ_bin ropQ_un ropQ_conv ropQ_iface ropQ_slice ropQ_fieldAddr ropQ_field ropQ_indexAddr ropQ_index ropQ_extract ropQ_len rpick_true rpick_false run1_not run1_neg rextract_tu rconv_int rconv_str rconv_hd rconv_sl rsure_fp rsure_pt rsure_fn rsure_ic liveAt_fp liveAt_pt rfield_ag rindexAddr_sl rindexAddr_hd rindexAddr_pt rindexAddr_fp rindex_str rindex_ag bv_none bv_int rcut_str rcut_sl rcut_hd rlen_str rlen_nil rlen_sl rlen_hd rload2_true rload2_false rload1_pt rload1_fp rloadP_pt rloadQ_pt rloadQ_fp rstore_pt rmakeSlice_int rappend_nil rappend_hd srcRows_nil srcRows_sl srcRows_hd binRes_int binRes_bool binRes_icnil binRes_nilnil ir_add ir_sub ir_mul ir_quo ir_rem ir_eql ir_neq ir_lss ir_leq ir_gtr ir_geq er_eql er_neq binRes_seql binRes_sneq exR_sadd
 RowsLen_nil RowsLen_cons RowsLen_append PartsOk Option.bind_some Option.bind_none Nat.zero_add Nat.add_zero false_implies false_and and_false not_false_eq_true not_true_eq_false Option.isSome_some hfill places tvs tv nmR nmL nm nmH nz nzL nzR
 true_and and_true if_true if_false true_implies forall_const Option.map_some Option.map_none List.map_cons List.map_nil List.cons_append List.nil_append List.length_cons List.length_nil
 List.getElem?_cons_zero List.getElem?_cons_succ List.set_cons_zero List.set_cons_succ List.take_succ_cons List.drop_succ_cons List.take_zero List.drop_zero List.take_nil List.drop_nil List.headD_cons cellsH Bool.not_true Bool.not_false Bool.or_true Bool.or_false Bool.true_or Bool.false_or
 nameV nameL mkV moved okTI TI.agg
attribute [go_sem] fzo fzoL fzoR rbuildSliceF
attribute [go_sem ↓] exOq_buildSlice exOq_call exOq_invoke exO_invoke exO_max exO_min lappend_nil lappend_cons exOq_move exOq_assign exOq_pick exOq_build exOq_load exOq_nilCheck exOq_bin exOq_un exOq_conv exOq_iface exOq_func exOq_meth exOq_slice exOq_fieldAddr exOq_field exOq_indexAddr exOq_index exOq_extract exOq_builtin dstAt_zero dstAt_succ dropTo_nil dropTo_endB dropTo_code dropTo_ops dropTo_quiet ex_nil ex_endB ex_opsnil ex_op ex_opg ex_skip ex_label ex_seq ex_region ex_cond ex_block ex_exit ex_goto ex_ret ex_loop ex_scope ex_range ex_draw exO_call exO_move exO_assign exO_pick exO_alloc exO_box exO_build exO_buildSlice exO_load exO_store exO_nilCheck exO_bin exO_un exO_conv exO_iface exO_makeMap exO_lookup exO_mapUpdate exO_mapEntry exO_entryStore exO_copy exO_func exO_meth exO_makeSlice exO_slice1 exO_slice2 exO_slice3 exO_slice4 exO_fieldAddr exO_field exO_indexAddr exO_index exO_extract exO_len exO_append ex_quietnil ex_quiet1 ex_quietg Kx_normal Kx_exit Kx_goto Kx_ret fin_normal fin_exit fin_goto fin_ret endQ_ret endQ_normal
end Go.Proofs.YtmapdjdnnhlpiaaGreatDoor
namespace Go.Proofs.YtmapdjdnnhlpiaaGreatDoor
open Go.RowKit
theorem bindO_map {α β:Type} {o:Option α} {g:α→β} {f:β→Res}:bindO (o.map g) f=bindO o (fun a=>f (g a)):=by cases o <;> rfl
def isV:HV→Bool
 | .v _=>true
 | .sl _=>true
 | .fp _ _ _=>true
 | _=>false
section
variable {α:Type}
structure Plain (f:α→List HV) (n:Nat):Prop where
 len:∀a,(f a).length=n
 isv:∀a,(f a).all isV=true
variable {f:α→List HV} {n:Nat}
theorem isV_tv {h:HV} (hv:isV h=true):tv h=true:=by cases h <;> simp_all [isV,tv]
theorem isV_nm {h:HV} {m:Nat} (hv:isV h=true):nm m h=true:=by cases h <;> simp_all [isV,nm]
theorem isV_fzo {h:HV} (hv:isV h=true):fzo h=h:=by cases h <;> simp_all [isV,fzo]
theorem isV_fz {h:HV} {k:Nat} {H:Heap} (hv:isV h=true):fz k H h=h:=by
 cases k with
 | zero=>unfold fz;exact isV_fzo hv
 | succ k=>cases h <;> simp_all [isV,fz,fzo]
theorem tvs_all:∀{l:List HV},l.all isV=true→tvs l=true
 | [],_=>rfl
 | h::t,hl=>by
  simp only[List.all_cons,Bool.and_eq_true] at hl
  simp only[tvs,isV_tv hl.1,tvs_all hl.2,Bool.and_self]
theorem tvs_append:∀(a b:List HV),tvs (a++b)=(tvs a && tvs b)
 | [],b=>by simp[tvs]
 | h::t,b=>by simp only[List.cons_append,tvs,tvs_append t b,Bool.and_assoc]
theorem nmL_all {m:Nat}:∀{l:List HV},l.all isV=true→nmL m l=true
 | [],_=>rfl
 | h::t,hl=>by
  simp only[List.all_cons,Bool.and_eq_true] at hl
  simp only[nmL,isV_nm hl.1,nmL_all hl.2,Bool.and_self]
theorem fzL_all {k:Nat} {H:Heap}:∀{l:List HV},l.all isV=true→l.map (fz k H)=l
 | [],_=>rfl
 | h::t,hl=>by
  simp only[List.all_cons,Bool.and_eq_true] at hl
  simp only[List.map_cons,isV_fz hl.1,fzL_all hl.2]
theorem fzoL_all:∀{l:List HV},l.all isV=true→fzoL l=l
 | [],_=>rfl
 | h::t,hl=>by
  simp only[List.all_cons,Bool.and_eq_true] at hl
  simp only[fzoL,isV_fzo hl.1,fzoL_all hl.2]
theorem Plain.rowsLen (h:Plain f n) (l:List α):RowsLen (l.map f) n=True:=by
 simp only[RowsLen,eq_iff_iff,iff_true]
 intro r hr
 obtain ⟨a,_,rfl⟩:=List.mem_map.1 hr
 exact h.len a
theorem Plain.tvs (h:Plain f n):∀l:List α,Go.Proofs.YtmapdjdnnhlpiaaGreatDoor.tvs (l.map f).flatten=true
 | []=>rfl
 | a::l=>by
  simp only[List.map_cons,List.flatten_cons,tvs_append,tvs_all (h.isv a),h.tvs l,Bool.and_self]
theorem Plain.nmR {m:Nat} (h:Plain f n):∀l:List α,Go.Proofs.YtmapdjdnnhlpiaaGreatDoor.nmR m (l.map f)=true
 | []=>rfl
 | a::l=>by simp only[List.map_cons,Go.Proofs.YtmapdjdnnhlpiaaGreatDoor.nmR,nmL_all (h.isv a),h.nmR l,Bool.and_self]
theorem Plain.fz {k:Nat} {H:Heap} (h:Plain f n) (l:List α):(l.map f).map (fun r=>r.map (Go.Proofs.YtmapdjdnnhlpiaaGreatDoor.fz k H))=l.map f:=by
 rw[List.map_map]
 congr 1
 funext a
 exact fzL_all (h.isv a)
theorem Plain.fzoR (h:Plain f n) (l:List α):Go.Proofs.YtmapdjdnnhlpiaaGreatDoor.fzoR (l.map f)=l.map f:=by
 rw[fzoR_get,List.map_map]
 congr 1
 funext a
 exact fzoL_all (h.isv a)
end
section
variable {H:Heap} {k:Nat}
theorem fz_v {x:Value}:fz (k+1) H (.v x)=.v x:=rfl
theorem fz_sl {rows:List (List HV)}:fz (k+1) H (.sl rows)=.sl rows:=rfl
theorem fz_fp {rows:List (List HV)} {i o:Nat}:fz (k+1) H (.fp rows i o)=.fp rows i o:=rfl
theorem fz_any:fz (k+1) H .any=.any:=rfl
theorem fz_ag {cs:List HV}:fz (k+1) H (.ag cs)=.ag (cs.map (fz k H)):=rfl
theorem fz_fn {f:Nat} {cs:List HV}:fz (k+1) H (.fn f cs)=.fn f (cs.map (fz k H)):=rfl
theorem fz_ic {t:TypeId} {x:HV}:fz (k+1) H (.ic t x)=.ic t (fz k H x):=rfl
theorem fz_hd {id off len:Nat}:fz (k+1) H (.hd id off len)=(match getO H id with
  | some ob=>if off+len=ob.rows.length then .sl ((ob.rows.drop off).map fun r=>r.map (fz k H)) else .any
  | none=>.any):=by
 simp only[fz,getO]
 cases h:H[id]? with
 | none=>rfl
 | some o'=>cases o' <;> rfl
theorem fz_pt {id m r o:Nat}:fz (k+1) H (.pt id m r o)=(match getO H id with
  | some ob=>if m=ob.rows.length∧ob.rows.length≠0 then .fp (ob.rows.map fun r=>r.map (fz k H)) r o else .any
  | none=>.any):=by
 simp only[fz,getO]
 cases h:H[id]? with
 | none=>rfl
 | some o'=>cases o' <;> rfl
end
def srow (s:List UInt8):List HV:=[.v (str s)]
def strs (l:List (List UInt8)):List (List HV):=l.map srow
theorem srow_plain:Plain srow 1:=⟨fun _=>rfl,fun _=>rfl⟩
theorem strs_nil:strs []=[]:=rfl
theorem strs_snoc {l:List (List UInt8)} {s:List UInt8}:strs l++[[.v (str s)]]=strs (l++[s]):=by simp[strs,srow]
theorem strs_append {a b:List (List UInt8)}:strs a++strs b=strs (a++b):=by simp[strs]
theorem strs_length {l:List (List UInt8)}:(strs l).length=l.length:=by simp[strs]
theorem strs_get {l:List (List UInt8)} {i:Nat}:(strs l)[i]?=l[i]?.map srow:=by simp[strs]
theorem strs_drop {l:List (List UInt8)} {i:Nat}:(strs l).drop i=strs (l.drop i):=by simp[strs,List.map_drop]
theorem strs_take {l:List (List UInt8)} {i:Nat}:(strs l).take i=strs (l.take i):=by simp[strs,List.map_take]
theorem strs_rowsLen {l:List (List UInt8)}:RowsLen (strs l) 1=True:=srow_plain.rowsLen l
theorem strs_tvs {l:List (List UInt8)}:tvs (strs l).flatten=true:=srow_plain.tvs l
theorem strs_nmR {l:List (List UInt8)} {m:Nat}:nmR m (strs l)=true:=srow_plain.nmR l
theorem strs_fz {l:List (List UInt8)} {k:Nat} {H:Heap}:(strs l).map (fun r=>r.map (fz k H))=strs l:=srow_plain.fz l
theorem strs_fzoR {l:List (List UInt8)}:fzoR (strs l)=strs l:=srow_plain.fzoR l
theorem strs_nzR:∀{l:List (List UInt8)},nzR (strs l)=true
 | []=>rfl
 | a::l=>by
  have:nzR (strs l)=true:=strs_nzR
  simp only[strs,List.map_cons,nzR,srow,nzL,nz,Bool.and_self,Bool.true_and] at this⊢
  exact this
def owStrs (l:List (List UInt8)):HV:=.ow 9 1 (strs l)
theorem w64 {x:Int} (h1:-9223372036854775808≤x) (h2:x<9223372036854775808):IntKind.i64.wrap x=x:=IntWalk.i64_in x ⟨h1,by omega⟩
theorem w8 {x:Int} (h1:0≤x) (h2:x<256):IntKind.u8.wrap x=x:=IntWalk.u8_in x ⟨h1,by omega⟩
theorem c1_str {a:List UInt8}:c1 (.v (str a))=true:=rfl
theorem bytesOf_nil:bytesOf []=some []:=rfl
theorem bytesOf_cons {z:Int} {t:List (List HV)}:bytesOf ([.v (.int .u8 z)]::t)=(bytesOf t).map (UInt8.ofNat z.toNat::·):=rfl
theorem c1_int {i:IntKind} {z:Int}:c1 (.v (.int i z))=true:=rfl
theorem c1_bool {b:Bool}:c1 (.v (.bool b))=true:=rfl
theorem c1_nilslice:c1 (.v (.slice none 0 0))=true:=rfl
theorem c1_nilIface:c1 (.v .nilIface)=true:=rfl
theorem c1_sl {rows:List (List HV)}:c1 (.sl rows)=true:=rfl
theorem c1_hd {i o n:Nat}:c1 (.hd i o n)=true:=rfl
theorem c1_pt {i n r o:Nat}:c1 (.pt i n r o)=true:=rfl
theorem c1_fp {rows:List (List HV)} {i o:Nat}:c1 (.fp rows i o)=true:=rfl
theorem c1_fn {f:Nat} {cs:List HV}:c1 (.fn f cs)=true:=rfl
theorem c1_ic {t:TypeId} {x:HV}:c1 (.ic t x)=true:=rfl
theorem nonneg {n:Nat}:(0≤(n:Int))=True:=by simp
theorem nz_owStrs {l:List (List UInt8)}:nz (owStrs l)=true:=by simp only[owStrs,nz,strs_nzR]
theorem fzo_owStrs {l:List (List UInt8)}:fzo (owStrs l)=.sl (strs l):=by simp only[owStrs,fzo,strs_fzoR]
attribute [go_sem] fzo_owStrs
attribute [go_sem] List.all_cons List.all_nil c1_str c1_int c1_bool c1_nilslice c1_nilIface c1_sl c1_hd c1_pt c1_fp c1_fn c1_ic nonneg List.flatten_cons List.flatten_nil List.append_nil List.length_append List.take_length Int.le_refl Nat.le_refl Bool.and_true Bool.true_and Bool.and_self bytesOf_nil bytesOf_cons
attribute [go_sem] bindO_map fz_v fz_sl fz_fp fz_any fz_ag fz_fn fz_ic fz_hd fz_pt strs_nil strs_snoc strs_append strs_length strs_get strs_drop strs_take strs_rowsLen strs_tvs strs_nmR strs_fz strs_fzoR strs_nzR srow
end Go.Proofs.YtmapdjdnnhlpiaaGreatDoor
namespace Go.Proofs.YtmapdjdnnhlpiaaGreatDoor
open Go.RowKit
section
variable {F:Fence} {n:Nat} {P:Program} {Q:Exit→Act→World→Prop} {a:Act} {w:World} {b:Frame} {k:List Go.Item} {cs:List Frame}
theorem stepR_scope {c:Code}:step P (lone (b.atR a (.code (.scope c)::k)) cs w)=.next (lone (b.atR a (.code c::.inScope c::k)) cs w) :=
 step_lone_go (by simp[stepG,stepG.exec,Frame.atR])
theorem stepR_inScope {c:Code}:step P (lone (b.atR a (.inScope c::k)) cs w)=.next (lone (b.atR a k) cs w) :=
 step_lone_go (by simp[stepG,stepG.exec,Frame.atR])
theorem wpIn_scope_jumps {c rest:Code} (l:Nat) (J:Act→World→Prop) (μ:Act→World→Nat) (hf:findLabel c l=some rest)
  (first:c.wpIn F n P (Exit.jump l J Q) a w)
  (pass:∀a w,J a w→rest.wpIn F n P (Exit.jump l (fun a' w'=>J a' w'∧μ a' w' < μ a w) Q) a w):(Code.scope c).wpIn F n P Q a w:=by
 intro b k cs hro hb hr
 have h0:(lone (b.atR a (.code (.scope c)::k)) cs w).fenced P F:=fenced_calm hb hr rfl
 have hg:gotoIn l (.inScope c::k)=some (.code rest::.inScope c::k):=by simp[gotoIn,hf]
 have hx:∀id,exitTo id (.inScope c::k)=exitTo id k:=fun id=>by simp[exitTo]
 have key:∀j a w,μ a w=j→J a w→∃e a' w',Q e a' w'∧ArrivesIn (Machine.fenced P F) P (lone (b.atR a (.code rest::.inScope c::k)) cs w) b k cs e a' w':=by
  intro j
  induction j using Nat.strongRecOn with
  | _ j ih =>
   intro a w hj hJ
   obtain ⟨e,a₁,w₁,hq,harr⟩:=pass a w hJ b (.inScope c::k) cs hro hb hr
   cases e with
   | normal=>exact ⟨.normal,a₁,w₁,hq,StepsIn.trans harr (.one (fenced_calm hb hr rfl) stepR_inScope)⟩
   | exit id=>exact ⟨.exit id,a₁,w₁,hq,fun k' hk=>harr.1 k' (by rw[hx];exact hk),fun hr' hk=>harr.2 hr' (by rw[hx];exact hk)⟩
   | goto l' =>
    obtain ⟨rfl,hJ',hlt⟩:=hq
    obtain ⟨e₂,a₂,w₂,hq₂,harr₂⟩:=ih _ (by omega) a₁ w₁ rfl hJ'
    exact ⟨e₂,a₂,w₂,hq₂,.of_steps (harr.1 _ hg) harr₂⟩
   | ret=>exact ⟨_,a₁,w₁,hq,harr⟩
   | panic ch=>exact ⟨_,a₁,w₁,hq,harr⟩
   | outgrown=>exact ⟨_,a₁,w₁,hq,harr⟩
 obtain ⟨e,a₁,w₁,hq,harr⟩:=first b (.inScope c::k) cs hro hb hr
 cases e with
 | normal=>exact ⟨.normal,a₁,w₁,hq,.head h0 stepR_scope (StepsIn.trans harr (.one (fenced_calm hb hr rfl) stepR_inScope))⟩
 | exit id=>exact ⟨.exit id,a₁,w₁,hq,fun k' hk=>.head h0 stepR_scope (harr.1 k' (by rw[hx];exact hk)),fun hr' hk=>let ⟨k₁,h1,h2⟩:=harr.2 hr' (by rw[hx];exact hk);⟨k₁,h1,.head h0 stepR_scope h2⟩⟩
 | goto l' =>
  obtain ⟨rfl,hJ'⟩:=hq
  obtain ⟨e₂,a₂,w₂,hq₂,harr₂⟩:=key _ a₁ w₁ rfl hJ'
  exact ⟨e₂,a₂,w₂,hq₂,.of_steps (.head h0 stepR_scope (harr.1 _ hg)) harr₂⟩
 | ret=>exact ⟨_,a₁,w₁,hq,.of_steps (.one h0 stepR_scope) harr⟩
 | panic ch=>exact ⟨_,a₁,w₁,hq,.of_steps (.one h0 stepR_scope) harr⟩
 | outgrown=>exact ⟨_,a₁,w₁,hq,.of_steps (.one h0 stepR_scope) harr⟩
end
def jumpQ (l:Nat) (J:KS) (Q:Exit→KS):Exit→KS
 | .goto l'=>fun T H=>l'=l∧J T H
 | e=>Q e
section
variable {P:Program} {N L:Nat} {Q:Exit→KS} {T:Nat→HV} {H:Heap}
theorem jumpQ_goto {l l' : Nat} {J:KS}:jumpQ l J Q (.goto l') T H=(l'=l∧J T H):=rfl
theorem jumpQ_normal {l:Nat} {J:KS}:jumpQ l J Q .normal T H=Q .normal T H:=rfl
theorem jumpQ_exit {l i:Nat} {J:KS}:jumpQ l J Q (.exit i) T H=Q (.exit i) T H:=rfl
theorem jumpQ_ret {l:Nat} {J:KS}:jumpQ l J Q .ret T H=Q .ret T H:=rfl
theorem HW.scope {c rest:Code} (l:Nat) (I:Nat→KS) (hf:findLabel c l=some rest) (first:HW P N L c (jumpQ l (fun T H=>∃k,I k T H) Q) T H)
  (pass:∀k T H,I k T H→HW P N L rest (jumpQ l (fun T' H'=>∃k',k' < k∧I k' T' H') Q) T H):HW P N L (.scope c) Q T H:=by
 intro ro n B Z G FP ds a w hB hL hs
 classical
 let J:Nat→Act→World→Prop:=fun k a' w'=>∃T' H' Z' G' FP' ds',I k T' H'∧St N B Z' G' FP' ds' T' H' a' w'∧GLt L G G'∧Evo Z FP w Z' FP' w'
 let μ:Act→World→Nat:=fun a' w'=>if h:∃k,J k a' w' then Classical.choose (exists_least h) else 0
 refine wpIn_scope_jumps l (fun a' w'=>∃k,J k a' w') μ hf (wpIn_mono (first ro n B Z G FP ds a w hB hL hs) ?_) ?_
 ·rintro e a' w' ⟨T',H',Z',G',FP',ds',h1,h2,h3,h4⟩
  cases e with
  | goto l'=>obtain ⟨rfl,k,hk⟩:=h1;exact ⟨rfl,k,T',H',Z',G',FP',ds',hk,h2,h3,h4⟩
  | _=>exact ⟨T',H',Z',G',FP',ds',h1,h2,h3,h4⟩
 ·intro a1 w1 hJ
  have hμ:μ a1 w1=Classical.choose (exists_least hJ):=by simp only[μ];rw[dif_pos hJ]
  obtain ⟨T1,H1,Z1,G1,FP1,ds1,hI,hs1,hG1,hE1⟩:=(Classical.choose_spec (exists_least hJ)).1
  refine wpIn_mono (pass _ T1 H1 hI ro n B Z1 G1 FP1 ds1 a1 w1 (hB.evo hE1) hG1.len hs1) ?_
  rintro e a' w' ⟨T',H',Z',G',FP',ds',h1,h2,h3,h4⟩
  cases e with
  | goto l' =>
   obtain ⟨rfl,k',hk',hI'⟩:=h1
   have hJ' : J k' a' w':=⟨T',H',Z',G',FP',ds',hI',h2,hG1.trans h3,hE1.trans h4⟩
   refine ⟨rfl,⟨k',hJ'⟩,?_⟩
   rw[hμ]
   have e:∃k,J k a' w':=⟨k',hJ'⟩
   have:μ a' w'=Classical.choose (exists_least e):=by simp only[μ];rw[dif_pos e]
   rw[this]
   exact Nat.lt_of_le_of_lt ((Classical.choose_spec (exists_least e)).2 _ hJ') hk'
  | _=>exact ⟨T',H',Z',G',FP',ds',h1,h2,hG1.trans h3,hE1.trans h4⟩
theorem HW.scopeG {c rest:Code} (l:Nat) (I:Nat→KS) (hf:findLabel c l=some rest) (first:HW P N L c (jumpQ l (GQ N L fun T H=>∃k,I k T H) Q) T H)
  (pass:∀k T H,I k T H→HW P N L rest (jumpQ l (GQ N L fun T' H'=>∃k',k' < k∧I k' T' H') Q) T H):HW P N L (.scope c) Q T H:=by
 have wk:∀(J:KS) e T H,jumpQ l (GQ N L J) Q e T H→GQ N L (jumpQ l J Q e) T H:=by
  intro J e T H h
  cases e with
  | goto l' =>
   obtain ⟨h1,T',H',g,hr⟩:=h
   exact ⟨T',H',g,h1,hr⟩
  | _=>exact ⟨T,H,Ghost.refl,h⟩
 exact HW.scope l I hf (HW.weaken first (wk _)) (fun k T H h=>HW.weaken (pass k T H h) (wk _))
end
attribute [go_sem ↓] jumpQ_goto jumpQ_normal jumpQ_exit jumpQ_ret
end Go.Proofs.YtmapdjdnnhlpiaaGreatDoor
namespace Go.Proofs.YtmapdjdnnhlpiaaGreatDoor
open Go.RowKit
section
variable {Z Z' : Nat→Prop} {w w' : World}
theorem HInv.join {G G' : List (Option OG)} {FP FP' : Nat→List Nat} {H H' : Heap} {m:Nat} (h:HInv Z G FP H w) (hml:m≤H.length) (h' : HInv Z' G' FP' H' w') (hlen:H'.length=m)
  (hG:GLe (G.take m) G') (hE:Evo Z (fun j=>if j<m then FP j else []) w Z' FP' w') :
  HInv Z' (G'++G.drop m) (fun j=>if j<m then FP' j else FP j) (H'++H.drop m) w'∧GLe G (G'++G.drop m)∧Evo Z FP w Z' (fun j=>if j<m then FP' j else FP j) w':=by
 have hG'l:G'.length=m:=h'.len.trans hlen
 have hGl:m≤G.length:=by rw[h.len];exact hml
 have hout:∀j,m≤j→FP' j=[]:=fun j hj=>h'.nofp j (fun o ho=>by have:=(List.getElem?_eq_some_iff.1 ho).1;omega)
 have hle:GLe G (G'++G.drop m):=by
  refine ⟨by simp;omega,fun id hid=>?_⟩
  by_cases e:id<m
  ·rw[List.getElem?_append_left (by omega)]
   have k:=hG.at_ id (by simp;omega)
   simp only[take_get (l:=G) e] at k
   exact k
  ·right;left
   rw[List.getElem?_append_right (by omega),List.getElem?_drop,hG'l]
   congr 1;omega
 have hZk:∀b,Z b→w'.heap[b]?=w.heap[b]?:=fun b hb=>hE.keep b (h.zlt b hb) (fun id hc=>by
  by_cases e:id<m
  ·simp only[if_pos e] at hc;exact h.zfp id b hc hb
  ·simp[e] at hc)
 have hnot:∀j,¬j<m→∀b,b∈FP j→∀id,b∉(if id<m then FP id else []):=fun j hj b hb id hc=>by
  by_cases e:id<m
  ·simp only[if_pos e] at hc
   have:=h.disj id j b hc hb
   omega
  ·simp[e] at hc
 have hkj:∀j,¬j<m→∀b,b∈FP j→w'.heap[b]?=w.heap[b]?:=fun j hj b hb=>hE.keep b (h.flt j b hb) (hnot j hj b hb)
 have hcross:∀i j b,¬j<m→b∈FP' i→b∈FP j→False:=fun i j b hj hi hb=>by
  rcases hE.fnew i b hi with k | ⟨id,k⟩
  ·have:=h.flt j b hb;omega
  ·exact hnot j hj b hb id k
 have get1:∀{j:Nat},j<m→(H'++H.drop m)[j]?=H'[j]?:=fun hj=>List.getElem?_append_left (by omega)
 have get2:∀{j:Nat},¬j<m→(H'++H.drop m)[j]?=H[j]?:=fun hj=>by
  rw[List.getElem?_append_right (by omega),List.getElem?_drop,hlen];congr 1;omega
 have gg1:∀{j:Nat},j<m→(G'++G.drop m)[j]?=G'[j]?:=fun hj=>List.getElem?_append_left (by omega)
 have gg2:∀{j:Nat},¬j<m→(G'++G.drop m)[j]?=G[j]?:=fun hj=>by
  rw[List.getElem?_append_right (by omega),List.getElem?_drop,hG'l];congr 1;omega
 refine ⟨⟨by simp[hlen,hG'l,h.len],fun j hj=>?_,fun j hj=>?_,fun j o hj=>?_,fun j=>?_,fun i j b hi hj=>?_,h'.zlt,fun j b hb=>?_,fun j b hb=>?_,h'.glob⟩,hle,⟨hE.os,hE.tape,hE.output,hE.size,fun b hb hf=>?_,hE.zle,fun b hb=>?_,fun j b hb=>?_⟩⟩
 ·by_cases e:j<m
  ·rw[get1 e] at hj;rw[gg1 e];exact h'.dead j hj
  ·rw[get2 e] at hj;rw[gg2 e];exact h.dead j hj
 ·by_cases e:j<m
  ·simp only[if_pos e];exact h'.nofp j (fun o=>by have:=hj o;rwa [get1 e] at this)
  ·simp only[if_neg e];exact h.nofp j (fun o=>by have:=hj o;rwa [get2 e] at this)
 ·by_cases e:j<m
  ·rw[get1 e] at hj
   obtain ⟨g,hg,hob⟩:=h'.live j o hj
   refine ⟨g,by rw[gg1 e];exact hg,?_⟩
   simp only[if_pos e]
   exact hob.keep (fun _ _=>rfl) (fun _ h=>h) (GLe.more _) (fun _ _=>rfl)
  ·rw[get2 e] at hj
   obtain ⟨g,hg,hob⟩:=h.live j o hj
   refine ⟨g,by rw[gg2 e];exact hg,?_⟩
   simp only[if_neg e]
   exact hob.keep hZk hE.zle hle (hkj j e)
 ·by_cases e:j<m
  ·simp only[if_pos e];exact h'.nodup j
  ·simp only[if_neg e];exact h.nodup j
 ·by_cases e1:i<m <;> by_cases e2:j<m
  ·simp only[if_pos e1] at hi;simp only[if_pos e2] at hj;exact h'.disj i j b hi hj
  ·simp only[if_pos e1] at hi;simp only[if_neg e2] at hj;exact (hcross i j b e2 hi hj).elim
  ·simp only[if_neg e1] at hi;simp only[if_pos e2] at hj;exact (hcross j i b e1 hj hi).elim
  ·simp only[if_neg e1] at hi;simp only[if_neg e2] at hj;exact h.disj i j b hi hj
 ·by_cases e:j<m
  ·simp only[if_pos e] at hb;exact h'.flt j b hb
  ·simp only[if_neg e] at hb;exact Nat.lt_of_lt_of_le (h.flt j b hb) hE.size
 ·by_cases e:j<m
  ·simp only[if_pos e] at hb;exact h'.zfp j b hb
  ·simp only[if_neg e] at hb
   intro hz
   rcases hE.znew b hz with k | k | ⟨id,k⟩
   ·exact h.zfp j b hb k
   ·have:=h.flt j b hb;omega
   ·exact hnot j e b hb id k
 ·exact hE.keep b hb (fun id hc=>by
   by_cases e:id<m
   ·simp only[if_pos e] at hc;exact hf id hc
   ·simp[e] at hc)
 ·rcases hE.znew b hb with k | k | ⟨id,k⟩
  ·exact .inl k
  ·exact .inr (.inl k)
  ·by_cases e:id<m
   ·simp only[if_pos e] at k;exact .inr (.inr ⟨id,k⟩)
   ·simp[e] at k
 ·by_cases e:j<m
  ·simp only[if_pos e] at hb
   rcases hE.fnew j b hb with k | ⟨id,k⟩
   ·exact .inl k
   ·by_cases e' : id<m
    ·simp only[if_pos e'] at k;exact .inr ⟨id,k⟩
    ·simp[e'] at k
  ·simp only[if_neg e] at hb;exact .inr ⟨j,hb⟩
end
section
variable {P:Program}
theorem HYield.frame {id:Nat} {H:Heap} {args:List HV} {Kb:Bool→Heap→Prop} (m:Nat) (h:HYield P id (H.take m) args Kb) (hid:id<m) (hml:m≤H.length) (hnm:nmH m H=true) (hargs:nmL m args=true) :
  HYield P id H args (fun b H'=>∃Hc,H'=Hc++H.drop m∧Hc.length=m∧Kb b Hc):=by
 intro ro n Z G FP w l vals hi hy ha
 have hmg:m≤G.length:=by rw[hi.len];exact hml
 have hi':=hi.trunc m hnm
 have hy':=nm_spec (.yl id) m G _ [] (by simpa [nm] using hid) hy
 have ha':=nmL_spec args m G _ [] hargs ha
 obtain ⟨fn,tmps,assign,body,h1,h2⟩:=h ro n Z _ _ w l vals hi' hy' ha'
 refine ⟨fn,tmps,assign,body,h1,h2.mono ?_⟩
 rintro e w' ⟨v,r,H',Z',G',FP',fr,rfl,⟨b,rfl,hQ⟩,hlen,hi2,hr,hnd,hfr1,hfr2,hG,hE⟩
 simp only[RV] at hr
 obtain ⟨rfl,rfl⟩:=hr
 have hlm:H'.length=m:=by rw[hlen];simp;omega
 obtain ⟨j1,j2,j3⟩:=hi.join hml hi2 hlm hG hE
 exact ⟨_,.v (.bool b),_,Z',_,_,[],rfl,⟨b,rfl,H',rfl,hlm,hQ⟩,by simp;omega,j1,by simp[RV],by simp,by simp,by simp,j2,j3⟩
def HSeq (P:Program) (gf:Nat) (Hc:Heap) (caps:List HV) (Hc0:Heap) (xs:List (List HV)):Prop :=
 ∀(id:Nat) (J K:Nat→Heap→Prop),id<Hc.length→
  (∀i H,J i H→H.length=Hc.length∧nmH Hc.length H=true)→(∀i H,K i H→nmH Hc.length H=true)→
  (∀i x H,xs[i]?=some x→J i H→HYield P id H x (fun b H'=>if b=true then J (i+1) H' else K (i+1) H'))→
  J 0 Hc0→HCalls P gf Hc (.yl id::caps) (fun _ H'=>J xs.length H'∨∃i,K i H')
end
end Go.Proofs.YtmapdjdnnhlpiaaGreatDoor
