/- Parts of the proof: HiQ, HiR. -/
import Derived.Test.YtoknohandclcbaaGreatZc03
import Derived.OrdersIn
set_option linter.unusedSectionVars false
set_option linter.unusedVariables false
set_option linter.unusedSimpArgs false
namespace Go.Proofs.YtoknohandclcbaaGreat
open Go.RowKit
abbrev Res:=Option (Prop×HV×Heap)
def onR (r:Res) (K:KT):Prop :=
 match r with
 | some (p,x,H)=>p∧K x H
 | none=>False
def zE {α:Type} (o:Option α) (f:α→Res):Res :=
 match o with
 | some a=>f a
 | none=>none
theorem zDJ {α:Type} (a:α) (f:α→Res):zE (some a) f=f a:=rfl
theorem zEy {α:Type} (f:α→Res):zE none f=none:=rfl
def getO (H:Heap) (id:Nat):Option HObj :=
 match H[id]? with
 | some (some ob)=>some ob
 | _=>none
theorem zX {H:Heap} {id:Nat} {ob:HObj} (h:getO H id=some ob):H[id]?=some (some ob):=by
 unfold getO at h
 split at h
 ·rename_i o ho;cases h;exact ho
 ·cases h
theorem zTA (o:Option HObj) (H:Heap):getO (o::H) 0=o:=by cases o <;> rfl
theorem zTB (o:Option HObj) (H:Heap) (i:Nat):getO (o::H) (i+1)=getO H i:=by simp[getO]
theorem zC {α:Type} {o:Option α} {f:α→Res} {K:KT} (h:onR (zE o f) K):∃a,o=some a∧onR (f a) K:=by
 cases o with
 | none=>exact h.elim
 | some a=>exact ⟨a,rfl,h⟩
def rv (H:Heap) (p:Prop) (x:HV):Res:=some (p,x,H)
def zV (rows:List (List HV)) (n:Nat):Prop:=∀r∈rows,r.length=n
theorem zNJ {n:Nat}:zV [] n=True:=by simp[zV]
theorem zLK {r:List HV} {t:List (List HV)} {n:Nat}:zV (r::t) n=(r.length=n∧zV t n):=by simp[zV]
theorem zHO {a b:List (List HV)} {n:Nat}:zV (a++b) n=(zV a n∧zV b n):=by
 simp only[zV,List.mem_append,eq_iff_iff]
 exact ⟨fun h=>⟨fun r hr=>h r (.inl hr),fun r hr=>h r (.inr hr)⟩,fun h r hr=>hr.elim (h.1 r) (h.2 r)⟩
def zAw (T:Nat→HV) (n:Nat):List (Nat×Operand)→Prop
 | []=>True
 | p::ps=>((zQ (hev T p.2)).length=n∧(zQ (hev T p.2)).all c1=true)∧zAw T n ps
theorem zFN {T:Nat→HV} {n:Nat}:∀{ps:List (Nat×Operand)},zAw T n ps→∀p∈ps,(zQ (hev T p.2)).length=n∧(zQ (hev T p.2)).all c1=true
 | [],_,p,hp=>by simp at hp
 | q::ps,h,p,hp=>by
  rcases List.mem_cons.1 hp with rfl | hp
  ·exact h.1
  ·exact zFN h.2 p hp
def zGv (H:Heap) (c x y:HV):Res :=
 match c with
 | .v (.bool true)=>rv H True x
 | .v (.bool false)=>rv H True y
 | _=>none
def rbin (P:Program) (H:Heap) (op:BinOp) (t:TypeId) (cst:Bool) (a b:HV):Res:=zE (zBE P op t cst a b) fun v=>rv H True (.v v)
def run1 (H:Heap) (op:UnOp) (x:HV):Res :=
 match op,x with
 | .not,.v (.bool b)=>rv H True (.v (.bool (!b)))
 | .neg,.v (.int k n)=>rv H True (.v (.int k (k.wrap (0-n))))
 | _,_=>none
def zB1 (H:Heap) (x:HV) (i:Nat):Res :=
 match x with
 | .tu vs=>zE vs[i]? fun v=>rv H True v
 | _=>none
def zCi (P:Program) (H:Heap) (src dst:TypeId) (x:HV):Res :=
 match x with
 | .v (.int k n)=>zE (zAg P src) fun _=>zE (zAg P dst) fun k'=>rv H True (.v (.int k' (k'.wrap n)))
 | .v (.string s)=>rv H (zH P src 4=true∧zH P dst 4=true) (.v (.string s))
 | x=>zE (zL P src 3) fun e=>zE (zAQ H x) fun rows=>zE (zBW rows) fun l=>rv H (zAg P e.2.1=some .u8∧zH P dst 4=true) (.v (str l))
def zFy (P:Program) (H:Heap) (t:TypeId) (x:HV):Res:=zE (ti P t) fun y=>rv H (y.kind≠9∧tv x=true) (.ic t x)
def zFu (H:Heap) (x:HV):Res :=
 match x with
 | .fp rows i o=>rv H True (.fp rows i o)
 | .pt id n r o=>rv H (zBZ H (.pt id n r o)=true) (.pt id n r o)
 | .fn f cs=>rv H True (.fn f cs)
 | .ic t y=>rv H True (.ic t y)
 | _=>none
def zB6 (P:Program) (H:Heap) (s:TypeId) (a:HV) (i:Nat):Res:=zE (zI P s i) fun f=>rv H (f.2.size≠0∧zBZ H a=true) (zMI a f.1)
def zDw (P:Program) (H:Heap) (s:TypeId) (a:HV) (i:Nat):Res :=
 match a with
 | .ag cs=>zE (zI P s i) fun f=>rv H (okTI f.2=true∧f.1+f.2.size≤cs.length) (mkV f.2 ((cs.drop f.1).take f.2.size))
 | _=>none
def zA2 (P:Program) (H:Heap) (t:TypeId) (a i:HV):Res :=
 match a,i with
 | .sl rows,.v (.int _ z)=>zE (zL P t 3) fun e=>rv H (0≤z∧z<(rows.length:Int)∧zV rows e.2.2.size) (.fp rows z.toNat 0)
 | .hd id off len,.v (.int _ z)=>zE (zL P t 3) fun e=>zE (getO H id) fun ob=>rv H (off+len=ob.rows.length∧ob.sz=e.2.2.size∧0≤z∧z<(len:Int)) (.pt id ob.rows.length (off+z.toNat) 0)
 | .pt id n r o,.v (.int _ z)=>zE (zL P t 2) fun e=>rv H (zBZ H (.pt id n r o)=true∧0≤z∧z<(e.1.num:Int)) (.pt id n r (o+z.toNat*e.2.2.size))
 | .fp rows i o,.v (.int _ z)=>zE (zL P t 2) fun e=>rv H (0≤z∧z<(e.1.num:Int)) (.fp rows i (o+z.toNat*e.2.2.size))
 | _,_=>none
def zDR (P:Program) (H:Heap) (t:TypeId) (a i:HV):Res :=
 match a,i with
 | .v (.string s),.v (.int _ z)=>zE (bl s)[z.toNat]? fun b=>rv H (zH P t 4=true∧0≤z) (.v (.int .u8 (b.toNat:Int)))
 | .ag cs,.v (.int _ z)=>zE (zL P t 2) fun e=>rv H (okTI e.2.2=true∧0≤z∧z<(e.1.num:Int)∧z.toNat*e.2.2.size+e.2.2.size≤cs.length) (mkV e.2.2 ((cs.drop (z.toNat*e.2.2.size)).take e.2.2.size))
 | _,_=>none
def zA1:Option HV→Int→Option Int
 | none,d=>some d
 | some (.v (.int _ z)),_=>some z
 | some _,_=>none
def rcut (P:Program) (H:Heap) (t:TypeId) (x:HV) (lo hi:Option HV):Res :=
 match x with
 | .v (.string s)=>zE (zA1 lo 0) fun l=>zE (zA1 hi (s.size:Int)) fun h=>rv H (zH P t 4=true∧0≤l∧l≤h∧h≤(s.size:Int)) (.v (.string (s.extract l.toNat h.toNat)))
 | .sl rows=>zE (zL P t 3) fun e=>zE (zA1 lo 0) fun l=>zE (zA1 hi (rows.length:Int)) fun h=>rv H (zV rows e.2.2.size∧0≤l∧l≤h∧h≤(rows.length:Int)) (.sl ((rows.drop l.toNat).take (h.toNat-l.toNat)))
 | .hd id off len=>zE (zL P t 3) fun e=>zE (zA1 lo 0) fun l=>zE (zA1 hi (len:Int)) fun h=>zE (getO H id) fun ob =>
   rv H (off+len=ob.rows.length∧ob.sz=e.2.2.size∧0≤l∧l≤h∧h=(len:Int)) (.hd id (off+l.toNat) (len-l.toNat))
 | _=>none
def rlen (P:Program) (H:Heap) (t:TypeId) (x:HV):Res :=
 match x with
 | .v (.string s)=>rv H (zH P t 4=true) (.v (.int .i64 (s.size:Int)))
 | .v (.slice none 0 0)=>rv H (zH P t 3=true) (.v (.int .i64 0))
 | .sl rows=>rv H (zH P t 3=true) (.v (.int .i64 (rows.length:Int)))
 | .hd id off len=>zE (getO H id) fun ob=>rv H (off+len=ob.rows.length∧zH P t 3=true) (.v (.int .i64 (len:Int)))
 | _=>none
def zJi (x:TI) (H:Heap) (a:HV):Res :=
 match a with
 | .pt id n r o=>zE (getO H id) fun ob=>zE ob.rows[r]? fun row=>rv H (n=ob.rows.length∧o+x.size≤ob.sz∧tvs ((row.drop o).take x.size)=true) (mkV x ((row.drop o).take x.size))
 | _=>none
def zH2 (x:TI) (H:Heap) (ob:HObj) (row:List HV) (id n r o:Nat) (closed:Bool):Res :=
 match closed with
 | true=>rv H (okTI x=true∧n=ob.rows.length∧o+x.size≤ob.sz) (mkV x ((row.drop o).take x.size))
 | false=>zE (if okTI x=true then some () else none) fun _=>zJi x (zDS H id r o x.size) (.pt id n r o)
def zJk (x:TI) (H:Heap) (a:HV):Res :=
 match a with
 | .pt id n r o=>zE (getO H id) fun ob=>zE ob.rows[r]? fun row=>zH2 x H ob row id n r o (tvs ((row.drop o).take x.size))
 | .fp rows i o=>zE rows[i]? fun row=>rv H (okTI x=true∧o+x.size≤row.length∧tvs ((row.drop o).take x.size)=true) (mkV x ((row.drop o).take x.size))
 | _=>none
def zJl (P:Program) (H:Heap) (t:TypeId) (a:HV):Res:=zE (ti P t) fun x=>zJk x H a
def zJd (P:Program) (H:Heap) (t:TypeId) (a v:HV):Res :=
 match a with
 | .pt id n r o=>zE (ti P t) fun x=>zE (getO H id) fun ob=>zE ob.rows[r]? fun row =>
   some (n=ob.rows.length∧(zQ v).length=x.size∧(zQ v).all c1=true∧o+x.size≤ob.sz,.any,H.set id (some { ob with rows:=ob.rows.set r (row.take o++zQ v++row.drop (o+x.size)) }))
 | _=>none
def zH5 (P:Program) (H:Heap) (t:TypeId):Res:=zE (ti P t) fun x=>zE (zA x) fun cs=>some (True,.pt H.length 1 0 0,H++[some ⟨t,x.size,[cs]⟩])
def rbox (P:Program) (H:Heap) (t:TypeId) (v:HV):Res:=some ((zQ v).all c1=true,.pt H.length 1 0 0,H++[some ⟨t,(zQ v).length,[zQ v]⟩])
def zGA (P:Program) (H:Heap) (t:TypeId) (parts:List (Nat×HV)):Res:=zE (ti P t) fun x=>zE (zA x) fun cs=>zE (zIb (zGF P x) cs parts) fun cs' =>
 rv H (x.agg=true∧(x.kind=1→∀f∈x.flds,(ti P f.2).isSome=true)∧(x.kind=2→(ti P x.elem).isSome=true)) (.ag cs')
def zAu (P:Program) (T:Nat→HV) (H:Heap) (t:TypeId) (len:Nat) (parts:List (Nat×Operand)):Res:=zE (zL P t 3) fun e =>
 some (len=parts.length∧zCZ 0 parts=true∧e.2.2.size≠0∧len*e.2.2.size≤16777216∧(zA e.2.2).isSome=true∧zAw T e.2.2.size parts,
  .hd H.length 0 parts.length,H++[some ⟨e.2.1,e.2.2.size,parts.map fun p=>zQ (hev T p.2)⟩])
def zCJ (P:Program) (H:Heap) (t:TypeId) (l c:HV):Res :=
 match l,c with
 | .v (.int _ n),.v (.int _ m)=>zE (zL P t 3) fun e=>zE (zA e.2.2) fun cs =>
  some (0≤n∧n≤m∧(e.2.2.bytes:Int)*m≤281474976710656∧m≤9223372036854775807,.hd H.length 0 n.toNat,H++[some ⟨e.2.1,e.2.2.size,List.replicate n.toNat cs⟩])
 | _,_=>none
def zCj (P:Program) (H:Heap) (t:TypeId) (s x:HV):Res :=
 match s with
 | .v (.slice none 0 0)=>zE (zL P t 3) fun e=>zE (zAQ H x) fun new =>
  some (e.2.2.size≠0∧(zA e.2.2).isSome=true∧tvs new.flatten=true∧zV new e.2.2.size∧new.length≤140737488355328∧new.length*e.2.2.bytes≤140737488355328,.hd H.length 0 new.length,H++[some ⟨e.2.1,e.2.2.size,new⟩])
 | .hd id 0 len=>zE (zL P t 3) fun e=>zE (zAQ H x) fun new=>zE (getO H id) fun ob =>
  some (e.2.2.size≠0∧(zA e.2.2).isSome=true∧tvs new.flatten=true∧zV new e.2.2.size∧len=ob.rows.length∧ob.e=e.2.1∧ob.sz=e.2.2.size∧len+new.length≤140737488355328∧(len+new.length)*e.2.2.bytes≤140737488355328,
   .hd id 0 (len+new.length),H.set id (some { ob with rows:=ob.rows++new }))
 | _=>none
def zPX (es:Array MapEntry) (key z:Value):Option (Value×Bool):=(zCO key es.toList 0).map fun r=>((r.map (·.2)).getD z,r.isSome)
def putO (es:Array MapEntry) (c:Nat) (key val:Value):Option HObj:=(zCO key es.toList 0).map fun r=>zAk (putE es c key val r).1 (putE es c key val r).2
def entO (es:Array MapEntry) (c:Nat) (key z:Value):Option (Value×Nat×HObj):=(zCO key es.toList 0).map fun r=>((entV es c z r).1,(entV es c z r).2,zAk (entE es c key z r).1 (entE es c key z r).2)
def stoO (es:Array MapEntry) (c:Nat) (b:Int) (val:Value):Option HObj:=(es.findIdx? fun e=>(e.born:Int) == b).map fun i=>zAk (es.modify i fun e=>{ e with val:=val }) c
def zIO (H:Heap):Res:=some (True,.mp H.length,H++[some (zAk #[] 0)])
def zIP (P:Program) (H:Heap) (t:TypeId) (m k:HV) (ok:Bool):Res :=
 match m with
 | .mp id=>zE (getO H id) fun ob=>zE (zCk ob) fun es=>zE (zEg P t) fun ty=>zE (valOf k) fun key=>zE (zPX es.1 key ty.2.2) fun r =>
  rv H (zCL P ty.1 key) (if ok=true then .tu [cHV r.1,.v (.bool r.2)] else cHV r.1)
 | _=>none
def zCy (P:Program) (H:Heap) (t:TypeId) (m k x:HV):Res :=
 match m with
 | .mp id=>zE (getO H id) fun ob=>zE (zCk ob) fun es=>zE (zEg P t) fun ty=>zE (valOf k) fun key=>zE (valOf x) fun val=>zE (putO es.1 es.2 key val) fun o =>
  some (zCL P ty.1 key∧keq key key=some true,.v undef,H.set id (some o))
 | _=>none
def zDv (P:Program) (H:Heap) (t:TypeId) (m k:HV):Res :=
 match m with
 | .mp id=>zE (getO H id) fun ob=>zE (zCk ob) fun es=>zE (zEg P t) fun ty=>zE (valOf k) fun key=>zE (entO es.1 es.2 key ty.2.2) fun r =>
  some (zCL P ty.1 key∧keq key key=some true,.tu [cHV r.1,.v (.int .i64 r.2.1)],H.set id (some r.2.2))
 | _=>none
def zC0 (H:Heap) (m s x:HV):Res :=
 match m,s with
 | .mp id,.v (.int .i64 b)=>zE (getO H id) fun ob=>zE (zCk ob) fun es=>zE (valOf x) fun val=>zE (stoO es.1 es.2 b val) fun o =>
  some (True,.v undef,H.set id (some o))
 | _,_=>none
def zWA (P:Program) (H:Heap) (t:TypeId) (d x:HV):Res :=
 match d with
 | .hd id 0 len=>zE (zL P t 3) fun e=>zE (zAQ H x) fun new=>zE (getO H id) fun ob =>
  some (e.2.2.size≠0∧tvs new.flatten=true∧tvs ob.rows.flatten=true∧zV new e.2.2.size∧len=ob.rows.length∧new.length=len∧ob.e=e.2.1∧ob.sz=e.2.2.size,.v (.int .i64 len),H.set id (some { ob with rows:=new }))
 | _=>none
def zN9 (P:Program) (H:Heap) (t:TypeId) (d:HV):Res :=
 match d with
 | .hd id off len=>zE (zL P t 3) fun e=>zE (zA e.2.2) fun cs=>zE (getO H id) fun ob =>
  some (e.2.2.size≠0∧tvs ob.rows.flatten=true∧off+len=ob.rows.length∧ob.e=e.2.1∧ob.sz=e.2.2.size,.tu [],H.set id (some { ob with rows:=ob.rows.take off++List.replicate len cs }))
 | _=>none
def zPH (P:Program) (H:Heap) (t:TypeId) (x h:HV):Res :=
 match x with
 | .hd id 0 len=>zE (zL P t 3) fun e=>zE (zA1 (some h) 0) fun y=>zE (getO H id) fun ob =>
   some (len=ob.rows.length∧ob.sz=e.2.2.size∧0≤y∧y≤(len:Int),.hd H.length 0 y.toNat,H.set id none++[some { ob with rows:=ob.rows.take y.toNat }])
 | x=>rcut P H t x none (some h)
def zDx (P:Program) (H:Heap) (src dst:TypeId) (x:HV):Res :=
 match x with
 | .v (.string s)=>match zH P dst 3 with
  | true=>zE (zL P dst 3) fun e=>rv H (zH P src 4=true∧zAg P e.2.1=some .u8∧s.size≤140737488355328) (.sl ((bl s).map zDg))
  | false=>zCi P H src dst (.v (.string s))
 | x=>zCi P H src dst x
def zNd:List (List HV)→Option (List HV)
 | [r]=>some r
 | _=>none
def zLv (P:Program) (H:Heap) (t:TypeId) (x lo:HV):Res :=
 match x with
 | .pt id n 0 0=>zE (zQd P t) fun m=>zE (zA1 (some lo) 0) fun z=>zE (getO H id) fun ob=>zE (zNd ob.rows) fun row =>
   some (n=1∧row.length=m∧m≤140737488355328∧0≤z∧z≤(m:Int),.sl (((fzoL row).map fun c=>[c]).drop z.toNat),H.set id none)
 | x=>rcut P H t x (some lo) none
def rmm (b:Bool) (H:Heap) (x y:HV):Res :=
 match x,y with
 | .v (.int k x),.v (.int _ y)=>rv H True (.v (.int k (if b=true then (if y > x then y else x) else (if y<x then y else x))))
 | _,_=>none
def rop (P:Program) (T:Nat→HV) (H:Heap):Op→Res
 | .move x=>rv H True (hev T x)
 | .assign x=>rv H True (hev T x)
 | .pick c x y=>zGv H (hev T c) (hev T x) (hev T y)
 | .alloc t=>zH5 P H t
 | .box t x=>rbox P H t (hev T x)
 | .build t parts=>zGA P H t (parts.toList.map fun p=>(p.1,hev T p.2))
 | .buildSlice t len parts=>zAu P T H t len parts.toList
 | .load t a=>zJl P H t (hev T a)
 | .store t a x=>zJd P H t (hev T a) (hev T x)
 | .nilCheck x=>zFu H (hev T x)
 | .binOp op t x y _=>rbin P H op t (isC x || isC y) (hev T x) (hev T y)
 | .unOp op _ x=>run1 H op (hev T x)
 | .convert src dst x=>zDx P H src dst (hev T x)
 | .makeInterface t x=>zFy P H t (hev T x)
 | .makeFunc (.func f) first cs=>match first with
  | ⟨[]⟩=>rv H (f<4294967296) (.fn f (cs.toList.map (hev T)))
  | ⟨[x]⟩=>rv H True (.fn (f+4294967296) (hev T x::cs.toList.map (hev T)))
  | _=>none
 | .makeSlice t l c=>zCJ P H t (hev T l) (hev T c)
 | .slice t x none (some hi) none=>zPH P H t (hev T x) (hev T hi)
 | .slice t x (some lo) none none=>zLv P H t (hev T x) (hev T lo)
 | .slice t x lo hi none=>rcut P H t (hev T x) (lo.map (hev T)) (hi.map (hev T))
 | .fieldAddr s a i=>zB6 P H s (hev T a) i
 | .field s a i=>zDw P H s (hev T a) i
 | .indexAddr t a i=>zA2 P H t (hev T a) (hev T i)
 | .index t a i=>zDR P H t (hev T a) (hev T i)
 | .extract x i=>zB1 H (hev T x) i
 | .makeMap _ none=>zIO H
 | .lookup t m k ok=>zIP P H t (hev T m) (hev T k) ok
 | .mapUpdate t m k x=>zCy P H t (hev T m) (hev T k) (hev T x)
 | .mapEntry t m k=>zDv P H t (hev T m) (hev T k)
 | .entryStore _ m s x=>zC0 H (hev T m) (hev T s) (hev T x)
 | .call { callee:=.builtin .len,args:=⟨[x]⟩,argTypes:=⟨[t]⟩ }=>rlen P H t (hev T x)
 | .call { callee:=.builtin .append,args:=⟨[s,x]⟩,argTypes:=⟨[t,u]⟩ }=>if t=u then zCj P H t (hev T s) (hev T x) else none
 | .call { callee:=.builtin .copy,args:=⟨[d,x]⟩,argTypes:=⟨[t,_]⟩ }=>zWA P H t (hev T d) (hev T x)
 | .call { callee:=.builtin .clear,args:=⟨[d]⟩,argTypes:=⟨[t]⟩ }=>zN9 P H t (hev T d)
 | .call { callee:=.builtin .max,args:=⟨[x,y]⟩,argTypes:=⟨[_,_]⟩ }=>rmm true H (hev T x) (hev T y)
 | .call { callee:=.builtin .min,args:=⟨[x,y]⟩,argTypes:=⟨[_,_]⟩ }=>rmm false H (hev T x) (hev T y)
 | _=>none
def zFw (x:TI) (H:Heap) (a:HV):Res :=
 match a with
 | .pt id n r o=>zE (getO H id) fun ob=>zE ob.rows[r]? fun row=>rv H (okTI x=true∧n=ob.rows.length∧o+x.size≤ob.sz∧tvs ((row.drop o).take x.size)=true) (mkV x ((row.drop o).take x.size))
 | .fp rows i o=>zE rows[i]? fun row=>rv H (okTI x=true∧o+x.size≤row.length∧tvs ((row.drop o).take x.size)=true) (mkV x ((row.drop o).take x.size))
 | _=>none
def ropQ (P:Program) (T:Nat→HV) (H:Heap):Op→Res
 | .move x=>rv H True (hev T x)
 | .assign x=>rv H True (hev T x)
 | .pick c x y=>zGv H (hev T c) (hev T x) (hev T y)
 | .build t parts=>zGA P H t (parts.toList.map fun p=>(p.1,hev T p.2))
 | .load t a=>zE (ti P t) fun x=>zFw x H (hev T a)
 | .nilCheck x=>zFu H (hev T x)
 | .binOp op t x y _=>rbin P H op t (isC x || isC y) (hev T x) (hev T y)
 | .unOp op _ x=>run1 H op (hev T x)
 | .convert src dst x=>zCi P H src dst (hev T x)
 | .makeInterface t x=>zFy P H t (hev T x)
 | .makeFunc (.func f) first cs=>match first with
  | ⟨[]⟩=>rv H (f<4294967296) (.fn f (cs.toList.map (hev T)))
  | ⟨[x]⟩=>rv H True (.fn (f+4294967296) (hev T x::cs.toList.map (hev T)))
  | _=>none
 | .slice t x lo hi none=>rcut P H t (hev T x) (lo.map (hev T)) (hi.map (hev T))
 | .fieldAddr s a i=>zB6 P H s (hev T a) i
 | .field s a i=>zDw P H s (hev T a) i
 | .indexAddr t a i=>zA2 P H t (hev T a) (hev T i)
 | .index t a i=>zDR P H t (hev T a) (hev T i)
 | .extract x i=>zB1 H (hev T x) i
 | .call { callee:=.builtin .len,args:=⟨[x]⟩,argTypes:=⟨[t]⟩ }=>rlen P H t (hev T x)
 | .call { callee:=.builtin .max,args:=⟨[x,y]⟩,argTypes:=⟨[_,_]⟩ }=>rmm true H (hev T x) (hev T y)
 | .call { callee:=.builtin .min,args:=⟨[x,y]⟩,argTypes:=⟨[_,_]⟩ }=>rmm false H (hev T x) (hev T y)
 | _=>none
section
variable {P:Program} {N:Nat} {T:Nat→HV} {H:Heap} {K:KT}
theorem zJD {o:Oper} {t:TypeId} {x:Operand} {lo hi:Option Operand} (ho:o.op=.slice t x lo hi none) (hok:zG N o=true) (h:onR (rcut P H t (hev T x) (lo.map (hev T)) (hi.map (hev T))) K):HQ P N o T H K:=by
 refine z4W ho hok ?_
 have hlo:∀l,zA1 (lo.map (hev T)) 0=some l→zHM T lo=some l:=by
  intro l hl
  cases lo with
  | none=>simpa [zA1,zHM] using hl
  | some x =>
   simp only[Option.map_some] at hl
   unfold zA1 at hl
   unfold zHM
   split at hl
   ·rename_i e;cases e
   ·rename_i k z d e
    simp only[Option.some.injEq] at e
    simp only[e];exact hl
   ·cases hl
 have hhi:∀(n:Nat) h,zA1 (hi.map (hev T)) (n:Int)=some h→zGc T n hi=some h:=by
  intro n l hl
  cases hi with
  | none=>simpa [zA1,zGc] using hl
  | some x =>
   simp only[Option.map_some] at hl
   unfold zA1 at hl
   unfold zGc
   split at hl
   ·rename_i e;cases e
   ·rename_i k z d e
    simp only[Option.some.injEq] at e
    simp only[e];exact hl
   ·cases hl
 unfold rcut at h
 unfold hcut
 split at h
 ·rename_i s e
  obtain ⟨l,hl,h⟩:=zC h
  obtain ⟨h',hh,h⟩:=zC h
  rw[e];simp only[hlo l hl,hhi _ _ hh]
  exact ⟨h.1.1,h.1.2.1,h.1.2.2.1,h.1.2.2.2,h.2⟩
 ·rename_i rows e
  obtain ⟨⟨x0,e',te⟩,he,h⟩:=zC h
  obtain ⟨l,hl,h⟩:=zC h
  obtain ⟨h',hh,h⟩:=zC h
  rw[e];simp only[he,hlo l hl,hhi _ _ hh]
  exact ⟨h.1.1,h.1.2.1,h.1.2.2.1,h.1.2.2.2,h.2⟩
 ·rename_i id off len e
  obtain ⟨⟨x0,e',te⟩,he,h⟩:=zC h
  obtain ⟨l,hl,h⟩:=zC h
  obtain ⟨h',hh,h⟩:=zC h
  obtain ⟨ob,ho,h⟩:=zC h
  rw[e];simp only[he,hlo l hl,hhi _ _ hh,zX ho]
  exact ⟨h.1.1,h.1.2.1,h.1.2.2.1,h.1.2.2.2.1,h.1.2.2.2.2,h.2⟩
 ·exact h.elim
theorem z1f {o:Oper} {t:TypeId} {a:Operand} {x:TI} (ho:o.op=.load t a) (hok:zG N o=true) (hx:ti P t=some x) (h:onR (zFw x H (hev T a)) K):HQ P N o T H K :=
 fun B Z G FP ds act w hs=>by
  have ha:=hs.hev a (zF hok (by simp[ho,Op.operands]))
  have hk:okTI x=true∧zCb x H (hev T a) K:=by
   unfold zFw at h
   unfold zCb
   split at h
   ·rename_i id n r o e
    rw[e]
    obtain ⟨ob,ho,h⟩:=zC h
    obtain ⟨row,hr,h⟩:=zC h
    simp only[zX ho,hr]
    exact ⟨h.1.1,h.1.2.1,h.1.2.2.1,h.1.2.2.2,h.2⟩
   ·rename_i rows i o e
    rw[e]
    obtain ⟨row,hr,h⟩:=zC h
    simp only[hr]
    exact ⟨h.1.1,h.1.2.1,h.1.2.2,h.2⟩
   ·exact h.elim
  obtain ⟨v,h',h1,h2,h3⟩:=zCM hx hk.1 hs.inv ha hk.2
  exact ⟨v,h',by simp only[execOp,ho,Sem.run_bind,h1,Result.andThen_ok,Sem.run_pure],h2,h3⟩
theorem zJE {o:Oper} {src dst:TypeId} {x:Operand} (ho:o.op=.convert src dst x) (hok:zG N o=true) (h:onR (zCi P H src dst (hev T x)) K):HQ P N o T H K:=by
 unfold zCi at h
 split at h
 ·rename_i k n e
  obtain ⟨k1,h1,h⟩:=zC h
  obtain ⟨k2,h2,h⟩:=zC h
  refine zOZ ho hok ?_
  unfold zNs;rw[e];simp only[h1,h2];exact h.2
 ·rename_i s e
  refine zOZ ho hok ?_
  unfold zNs;rw[e];exact ⟨h.1.1,h.1.2,h.2⟩
 ·rename_i e1 e2
  obtain ⟨⟨x0,e,te⟩,he,h⟩:=zC h
  obtain ⟨rows,hr,h⟩:=zC h
  obtain ⟨l,hl,h⟩:=zC h
  refine zYC ho hok ?_
  unfold zSv;rw[he,hr];simp only[hl];exact ⟨h.1.1,h.1.2,h.2⟩
theorem zO1 {o:Oper} {b:Bool} {x y:Operand} {t u:TypeId} (ho:o.op=.call { callee:=.builtin (if b=true then .max else .min),args:=#[x,y],argTypes:=#[t,u] }) (hok:zG N o=true) (h:onR (rmm b H (hev T x) (hev T y)) K):HQ P N o T H K:=by
 have h' : hmm b (hev T x) (hev T y) (fun v=>K v H):=by
  unfold rmm at h
  unfold hmm
  split at h
  ·rename_i e1 e2;first | exact h.2 | (rw[e1,e2];exact h.2)
  ·exact h.elim
 cases b with
 | true=>exact z4V ho hok h'
 | false=>exact z4U ho hok h'
theorem z4Y {o:Oper} (hok:zG N o=true) (h:onR (ropQ P T H o.op) K):HQ P N o T H K:=by
 obtain ⟨d,op,ty,pos,af,g⟩:=o
 simp only at h
 unfold ropQ at h
 split at h
 ·exact (zJA (.inl rfl) hok h.2)
 ·exact (zJA (.inr rfl) hok h.2)
 ·rename_i c x y
  unfold zGv at h
  split at h
  ·rename_i hc;exact (zIz rfl hok hc (by simpa using h.2))
  ·rename_i hc;exact (zIz rfl hok hc (by simpa using h.2))
  ·exact h.elim
 ·rename_i t parts
  obtain ⟨x,hx,h⟩:=zC h
  obtain ⟨cs,hcs,h⟩:=zC h
  obtain ⟨cs',hcs',h⟩:=zC h
  refine (zO0 rfl hok ?_)
  unfold zNt;rw[hx];simp only[hcs,hcs'];exact ⟨h.1.1,h.1.2.1,h.1.2.2,h.2⟩
 ·rename_i t a
  obtain ⟨x,hx,h⟩:=zC h
  exact z1f rfl hok hx h
 ·rename_i x
  refine (zUi rfl hok ?_)
  unfold zFu at h
  unfold zSm
  split at h <;> rename_i e <;> first | (rw[e];exact h.2) | (rw[e];exact ⟨h.1,h.2⟩) | exact h.elim
 ·rename_i op t x y t'
  obtain ⟨v,hv,h⟩:=zC h
  refine (zY3 rfl hok ?_)
  unfold hbin;rw[hv];exact h.2
 ·rename_i op t x
  refine (z4T rfl hok ?_)
  unfold run1 at h
  unfold hun
  split at h <;> first | (rename_i e;rw[e];exact h.2) | exact h.elim
 ·rename_i src dst x
  exact zJE rfl hok h
 ·rename_i t x
  obtain ⟨y,hy,h⟩:=zC h
  refine (zOX rfl hok ?_)
  unfold zNq;rw[hy];exact ⟨h.1.1,h.1.2,h.2⟩
 ·rename_i f first cs
  split at h
  ·exact (zUk h.1 rfl hok h.2)
  ·exact (zUj rfl hok h.2)
  ·exact h.elim
 ·rename_i t x lo hi
  exact zJD rfl hok h
 ·rename_i s a i
  obtain ⟨⟨off,fx⟩,hf,h⟩:=zC h
  refine (zFP rfl hok ?_)
  unfold zDE;rw[hf];exact ⟨h.1.1,h.1.2,h.2⟩
 ·rename_i s a i
  unfold zDw at h
  split at h
  ·rename_i cs e
   obtain ⟨⟨off,fx⟩,hf,h⟩:=zC h
   refine (zOY rfl hok ?_)
   unfold zNr;rw[hf,e];exact ⟨h.1.1,h.1.2,h.2⟩
  ·exact h.elim
 ·rename_i t a i
  refine (zFO rfl hok ?_)
  unfold zA2 at h
  unfold zDD
  split at h
  ·rename_i rows k z e1 e2
   obtain ⟨⟨x0,e',te⟩,he,h⟩:=zC h
   rw[e1,e2];simp only[he];exact ⟨h.1.1,h.1.2.1,h.1.2.2,h.2⟩
  ·rename_i id off len k z e1 e2
   obtain ⟨⟨x0,e',te⟩,he,h⟩:=zC h
   obtain ⟨ob,ho,h⟩:=zC h
   rw[e1,e2];simp only[he,zX ho];exact ⟨h.1.1,h.1.2.1,h.1.2.2.1,h.1.2.2.2,h.2⟩
  ·rename_i id n r o k z e1 e2
   obtain ⟨⟨x0,e',te⟩,he,h⟩:=zC h
   rw[e1,e2];simp only[he];exact ⟨h.1.1,h.1.2.1,h.1.2.2,h.2⟩
  ·rename_i rows i o k z e1 e2
   obtain ⟨⟨x0,e',te⟩,he,h⟩:=zC h
   rw[e1,e2];simp only[he];exact ⟨rfl,h.1.1,h.1.2,h.2⟩
  ·exact h.elim
 ·rename_i t a i
  refine (zOW rfl hok ?_)
  unfold zDR at h
  unfold zNp
  split at h
  ·rename_i s k z e1 e2
   obtain ⟨b,hb,h⟩:=zC h
   rw[e1,e2];simp only[hb];exact ⟨h.1.1,h.1.2,h.2⟩
  ·rename_i cs k z e1 e2
   obtain ⟨⟨x0,e',te⟩,he,h⟩:=zC h
   rw[e1,e2];simp only[he];exact ⟨h.1.1,h.1.2.1,h.1.2.2.1,h.1.2.2.2,h.2⟩
  ·exact h.elim
 ·rename_i x i
  refine (zHw rfl hok ?_)
  unfold zB1 at h
  unfold zF6
  split at h
  ·rename_i vs e
   obtain ⟨v,hv,h⟩:=zC h
   rw[e];simp only[hv];exact h.2
  ·exact h.elim
 ·rename_i x t
  refine (zY2 rfl hok ?_)
  unfold rlen at h
  unfold hlen
  split at h
  ·rename_i s e;rw[e];exact ⟨h.1,h.2⟩
  ·rename_i e;rw[e];exact ⟨h.1,h.2⟩
  ·rename_i rows e;rw[e];exact ⟨h.1,h.2⟩
  ·rename_i id off len e
   obtain ⟨ob,ho,h⟩:=zC h
   rw[e];simp only[zX ho];exact ⟨h.1.1,h.1.2,h.2⟩
  ·exact h.elim
 ·rename_i x y _ _
  exact zO1 (b:=true) rfl hok h
 ·rename_i x y _ _
  exact zO1 (b:=false) rfl hok h
 ·exact h.elim
theorem zOU {o:Oper} (hok:zG N o=true) (h:onR (rop P T H o.op) K):HR P N o T H K:=by
 obtain ⟨d,op,ty,pos,af,g⟩:=o
 simp only at h
 unfold rop at h
 split at h
 ·exact z6 (zJA (.inl rfl) hok h.2)
 ·exact z6 (zJA (.inr rfl) hok h.2)
 ·rename_i c x y
  unfold zGv at h
  split at h
  ·rename_i hc;exact z6 (zIz rfl hok hc (by simpa using h.2))
  ·rename_i hc;exact z6 (zIz rfl hok hc (by simpa using h.2))
  ·exact h.elim
 ·rename_i t
  obtain ⟨x,hx,h⟩:=zC h
  obtain ⟨cs,hcs,h⟩:=zC h
  refine zYF rfl ?_
  unfold zSy;rw[hx];simp only[hcs];exact h.2
 ·exact z4X rfl hok h
 ·rename_i t parts
  obtain ⟨x,hx,h⟩:=zC h
  obtain ⟨cs,hcs,h⟩:=zC h
  obtain ⟨cs',hcs',h⟩:=zC h
  refine z6 (zO0 rfl hok ?_)
  unfold zNt;rw[hx];simp only[hcs,hcs'];exact ⟨h.1.1,h.1.2.1,h.1.2.2,h.2⟩
 ·rename_i t len parts
  obtain ⟨⟨x,e,te⟩,he,h⟩:=zC h
  refine zJC rfl hok ?_
  unfold zD9 zJv;rw[he];simp only[List.length_map]
  obtain ⟨⟨h1,h2,h3,h4,h5,h6⟩,h7⟩:=h
  exact ⟨h1,h2,h3,h4,h5,zFN h6,h7⟩
 ·rename_i t a
  obtain ⟨x,hx,h⟩:=zC h
  refine z1b rfl hok ?_
  unfold zMX;rw[hx]
  unfold zJk at h
  split at h
  ·rename_i id n r o e
   obtain ⟨ob,ho,h⟩:=zC h
   obtain ⟨row,hr,h⟩:=zC h
   have hcl:zC6 x H (.pt id n r o)=tvs ((row.drop o).take x.size):=by simp only[zC6,zX ho,hr]
   rw[e]
   unfold zH2 at h
   split at h
   ·rename_i ht
    refine ⟨h.1.1,?_⟩
    rw[hcl,ht,if_pos rfl]
    unfold zCb
    simp only[zX ho,hr]
    exact ⟨h.1.2.1,h.1.2.2,ht,h.2⟩
   ·rename_i ht
    obtain ⟨_,hk,h⟩:=zC h
    have hk' : okTI x=true:=by split at hk;assumption;cases hk
    refine ⟨hk',?_⟩
    rw[hcl,ht,if_neg (by simp)]
    simp only[zGG]
    unfold zJi at h
    unfold zCb
    obtain ⟨ob',ho',h⟩:=zC h
    obtain ⟨row',hr',h⟩:=zC h
    simp only[zX ho',hr']
    exact ⟨h.1.1,h.1.2.1,h.1.2.2,h.2⟩
  ·rename_i rows i o e
   obtain ⟨row,hr,h⟩:=zC h
   rw[e]
   refine ⟨h.1.1,?_⟩
   unfold zC6
   rw[if_pos rfl]
   unfold zCb
   simp only[hr]
   exact ⟨h.1.2.1,h.1.2.2,h.2⟩
  ·exact h.elim
 ·rename_i t a x
  refine zYB rfl hok ?_
  unfold zJd at h
  split at h
  ·rename_i id n r o e
   obtain ⟨x',hx,h⟩:=zC h
   obtain ⟨ob,ho,h⟩:=zC h
   obtain ⟨row,hr,h⟩:=zC h
   unfold zSn;rw[hx,e]
   simp only[zX ho,hr]
   exact ⟨h.1.1,h.1.2.1,h.1.2.2.1,h.1.2.2.2,h.2⟩
  ·exact h.elim
 ·rename_i x
  refine z6 (zUi rfl hok ?_)
  unfold zFu at h
  unfold zSm
  split at h <;> rename_i e <;> first | (rw[e];exact h.2) | (rw[e];exact ⟨h.1,h.2⟩) | exact h.elim
 ·rename_i op t x y t'
  obtain ⟨v,hv,h⟩:=zC h
  refine z6 (zY3 rfl hok ?_)
  unfold hbin;rw[hv];exact h.2
 ·rename_i op t x
  refine z6 (z4T rfl hok ?_)
  unfold run1 at h
  unfold hun
  split at h <;> first | (rename_i e;rw[e];exact h.2) | exact h.elim
 ·rename_i src dst x
  unfold zDx at h
  split at h
  ·rename_i s e
   split at h
   ·obtain ⟨⟨x0,e',te⟩,he,h⟩:=zC h
    refine zYE rfl hok ?_
    unfold zSx;rw[e];simp only[he]
    exact ⟨h.1.1,h.1.2.1,h.1.2.2,h.2⟩
   ·exact z6 (zJE rfl hok (by rw[e];exact h))
  ·exact z6 (zJE rfl hok h)
 ·rename_i t x
  obtain ⟨y,hy,h⟩:=zC h
  refine z6 (zOX rfl hok ?_)
  unfold zNq;rw[hy];exact ⟨h.1.1,h.1.2,h.2⟩
 ·rename_i f first cs
  split at h
  ·exact z6 (zUk h.1 rfl hok h.2)
  ·exact z6 (zUj rfl hok h.2)
  ·exact h.elim
 ·rename_i t l c
  refine zLR rfl hok ?_
  unfold zCJ at h
  split at h
  ·rename_i k1 n k2 m e1 e2
   obtain ⟨⟨x0,e,te⟩,he,h⟩:=zC h
   obtain ⟨cs,hcs,h⟩:=zC h
   unfold zEo zJv;rw[he,e1,e2];simp only[hcs,List.length_replicate]
   exact ⟨h.1.1,h.1.2.1,h.1.2.2.1,h.1.2.2.2,h.2⟩
  ·exact h.elim
 ·rename_i t x hi
  unfold zPH at h
  split at h
  ·rename_i id len e
   obtain ⟨⟨x0,e',te⟩,he,h⟩:=zC h
   obtain ⟨y,hy,h⟩:=zC h
   obtain ⟨ob,ho,h⟩:=zC h
   refine z1c rfl hok ?_
   unfold zZd
   have hc:zGc T len (some hi)=some y:=by
    unfold zA1 at hy
    simp only[zGc]
    split at hy
    ·rename_i e;cases e
    ·rename_i k z d e
     simp only[Option.some.injEq] at e
     simp only[e];exact hy
    ·cases hy
   rw[e]
   simp only[he,hc,zX ho]
   exact ⟨h.1.1,h.1.2.1,h.1.2.2.1,h.1.2.2.2,h.2⟩
  ·exact z6 (zJD (lo:=none) (hi:=some hi) rfl hok h)
 ·rename_i t x lo
  unfold zLv at h
  split at h
  ·rename_i id n e
   obtain ⟨m,hm,h⟩:=zC h
   obtain ⟨z,hz,h⟩:=zC h
   obtain ⟨ob,ho,h⟩:=zC h
   obtain ⟨row,hr,h⟩:=zC h
   refine z1d rfl hok ?_
   unfold zZe;rw[e]
   unfold zA1 at hz
   split at hz
   ·rename_i e1;cases e1
   ·rename_i k z' d e1
    cases hz
    simp only[Option.some.injEq] at e1
    have hrow:ob.rows=[row]:=by
     unfold zNd at hr;split at hr
     ·rename_i r' e2;cases hr;exact e2
     ·cases hr
    simp only[hm,e1,zX ho,hrow]
    exact ⟨h.1.1,h.1.2.1,h.1.2.2.1,h.1.2.2.2.1,h.1.2.2.2.2,h.2⟩
   ·cases hz
  ·exact z6 (zJD (lo:=some lo) (hi:=none) rfl hok h)
 ·rename_i t x lo hi hne hne2
  exact z6 (zJD rfl hok h)
 ·rename_i s a i
  obtain ⟨⟨off,fx⟩,hf,h⟩:=zC h
  refine z6 (zFP rfl hok ?_)
  unfold zDE;rw[hf];exact ⟨h.1.1,h.1.2,h.2⟩
 ·rename_i s a i
  unfold zDw at h
  split at h
  ·rename_i cs e
   obtain ⟨⟨off,fx⟩,hf,h⟩:=zC h
   refine z6 (zOY rfl hok ?_)
   unfold zNr;rw[hf,e];exact ⟨h.1.1,h.1.2,h.2⟩
  ·exact h.elim
 ·rename_i t a i
  refine z6 (zFO rfl hok ?_)
  unfold zA2 at h
  unfold zDD
  split at h
  ·rename_i rows k z e1 e2
   obtain ⟨⟨x0,e',te⟩,he,h⟩:=zC h
   rw[e1,e2];simp only[he];exact ⟨h.1.1,h.1.2.1,h.1.2.2,h.2⟩
  ·rename_i id off len k z e1 e2
   obtain ⟨⟨x0,e',te⟩,he,h⟩:=zC h
   obtain ⟨ob,ho,h⟩:=zC h
   rw[e1,e2];simp only[he,zX ho];exact ⟨h.1.1,h.1.2.1,h.1.2.2.1,h.1.2.2.2,h.2⟩
  ·rename_i id n r o k z e1 e2
   obtain ⟨⟨x0,e',te⟩,he,h⟩:=zC h
   rw[e1,e2];simp only[he];exact ⟨h.1.1,h.1.2.1,h.1.2.2,h.2⟩
  ·rename_i rows i o k z e1 e2
   obtain ⟨⟨x0,e',te⟩,he,h⟩:=zC h
   rw[e1,e2];simp only[he];exact ⟨rfl,h.1.1,h.1.2,h.2⟩
  ·exact h.elim
 ·rename_i t a i
  refine z6 (zOW rfl hok ?_)
  unfold zDR at h
  unfold zNp
  split at h
  ·rename_i s k z e1 e2
   obtain ⟨b,hb,h⟩:=zC h
   rw[e1,e2];simp only[hb];exact ⟨h.1.1,h.1.2,h.2⟩
  ·rename_i cs k z e1 e2
   obtain ⟨⟨x0,e',te⟩,he,h⟩:=zC h
   rw[e1,e2];simp only[he];exact ⟨h.1.1,h.1.2.1,h.1.2.2.1,h.1.2.2.2,h.2⟩
  ·exact h.elim
 ·rename_i x i
  refine z6 (zHw rfl hok ?_)
  unfold zB1 at h
  unfold zF6
  split at h
  ·rename_i vs e
   obtain ⟨v,hv,h⟩:=zC h
   rw[e];simp only[hv];exact h.2
  ·exact h.elim
 ·exact zQi rfl hok h.2
 ·rename_i t m k ok
  refine z6 (zUl rfl hok ?_)
  unfold zIP at h
  unfold zMW
  split at h
  ·rename_i id e
   obtain ⟨ob,ho,h⟩:=zC h
   obtain ⟨⟨es,c⟩,hm,h⟩:=zC h
   obtain ⟨⟨kt,et,z⟩,ht,h⟩:=zC h
   obtain ⟨key,hk,h⟩:=zC h
   obtain ⟨r,hr,h⟩:=zC h
   obtain ⟨r',hr',rfl⟩:=Option.map_eq_some_iff.1 hr
   rw[e];simp only[zX ho,hm,ht,hk,hr']
   exact h
  ·exact h.elim
 ·rename_i t m k x
  refine zLQ rfl hok ?_
  unfold zCy at h
  unfold zEn
  split at h
  ·rename_i id e
   obtain ⟨ob,ho,h⟩:=zC h
   obtain ⟨⟨es,c⟩,hm,h⟩:=zC h
   obtain ⟨⟨kt,et,z⟩,ht,h⟩:=zC h
   obtain ⟨key,hk,h⟩:=zC h
   obtain ⟨val,hv,h⟩:=zC h
   obtain ⟨r,hr,h⟩:=zC h
   obtain ⟨r',hr',rfl⟩:=Option.map_eq_some_iff.1 hr
   rw[e];simp only[zX ho,hm,ht,hk,hv,hr']
   exact ⟨h.1.1,h.1.2,h.2⟩
  ·exact h.elim
 ·rename_i t m k
  refine zNP rfl hok ?_
  unfold zDv at h
  unfold zGU
  split at h
  ·rename_i id e
   obtain ⟨ob,ho,h⟩:=zC h
   obtain ⟨⟨es,c⟩,hm,h⟩:=zC h
   obtain ⟨⟨kt,et,z⟩,ht,h⟩:=zC h
   obtain ⟨key,hk,h⟩:=zC h
   obtain ⟨r,hr,h⟩:=zC h
   obtain ⟨r',hr',rfl⟩:=Option.map_eq_some_iff.1 hr
   rw[e];simp only[zX ho,hm,ht,hk,hr']
   exact ⟨h.1.1,h.1.2,h.2⟩
  ·exact h.elim
 ·rename_i t m s x
  refine zJB rfl hok ?_
  unfold zC0 at h
  unfold zD7
  split at h
  ·rename_i id b0 e1 e2
   obtain ⟨ob,ho,h⟩:=zC h
   obtain ⟨⟨es,c⟩,hm,h⟩:=zC h
   obtain ⟨val,hv,h⟩:=zC h
   obtain ⟨r,hr,h⟩:=zC h
   obtain ⟨r',hr',rfl⟩:=Option.map_eq_some_iff.1 hr
   rw[e1,e2];simp only[zX ho,hm,hv,hr']
   exact h.2
  ·exact h.elim
 ·rename_i x t
  refine z6 (zY2 rfl hok ?_)
  unfold rlen at h
  unfold hlen
  split at h
  ·rename_i s e;rw[e];exact ⟨h.1,h.2⟩
  ·rename_i e;rw[e];exact ⟨h.1,h.2⟩
  ·rename_i rows e;rw[e];exact ⟨h.1,h.2⟩
  ·rename_i id off len e
   obtain ⟨ob,ho,h⟩:=zC h
   rw[e];simp only[zX ho];exact ⟨h.1.1,h.1.2,h.2⟩
  ·exact h.elim
 ·rename_i s x t u
  split at h
  ·rename_i htu
   subst htu
   refine zLS rfl hok ?_
   unfold zCj at h
   unfold zGW zJv
   split at h
   ·rename_i es
    obtain ⟨⟨x0,e',te⟩,he,h⟩:=zC h
    obtain ⟨new,hn,h⟩:=zC h
    obtain ⟨⟨h1,h2,h3,h4,h5,h6⟩,h7⟩:=h
    rw[he,hn,es]
    exact ⟨h1,h2,h3,h4,h5,h6,h7⟩
   ·rename_i id len es
    obtain ⟨⟨x0,e',te⟩,he,h⟩:=zC h
    obtain ⟨new,hn,h⟩:=zC h
    obtain ⟨ob,ho,h⟩:=zC h
    obtain ⟨⟨h1,h2,h3,h4,h5,h6,h7,h8,h9⟩,h10⟩:=h
    rw[he,hn,es]
    simp only[zX ho]
    exact ⟨h1,h2,h3,h4,h5,h6,h7,h8,h9,h10⟩
   ·exact h.elim
  ·exact h.elim
 ·rename_i d x t t'
  refine z1e rfl hok ?_
  unfold zWA at h
  unfold zZf
  split at h
  ·rename_i id len es
   obtain ⟨⟨x0,e',te⟩,he,h⟩:=zC h
   obtain ⟨new,hn,h⟩:=zC h
   obtain ⟨ob,ho,h⟩:=zC h
   obtain ⟨⟨h1,h2,h3,h4,h5,h6,h7,h8⟩,h10⟩:=h
   rw[he,hn,es]
   simp only[zX ho]
   exact ⟨h1,h2,h3,h4,h5,h6,h7,h8,h10⟩
  ·exact h.elim
 ·rename_i d t
  refine zYD rfl hok ?_
  unfold zN9 at h
  unfold zSw
  split at h
  ·rename_i id off len es
   obtain ⟨⟨x0,e',te⟩,he,h⟩:=zC h
   obtain ⟨cs,hcs,h⟩:=zC h
   obtain ⟨ob,ho,h⟩:=zC h
   obtain ⟨⟨h1,h2,h3,h4,h5⟩,h6⟩:=h
   rw[he,es]
   simp only[zX ho]
   rw[hcs]
   exact ⟨h1,h2,h3,h4,h5,h6⟩
  ·exact h.elim
 ·rename_i x y _ _
  exact z6 (zO1 (b:=true) rfl hok h)
 ·rename_i x y _ _
  exact z6 (zO1 (b:=false) rfl hok h)
 ·exact h.elim
end
end Go.Proofs.YtoknohandclcbaaGreat
namespace Go.Proofs.YtoknohandclcbaaGreat
open Go.RowKit
inductive Item where
 | code (c:Code)
 | endB (l:Nat)
 | ops (all l:List Oper)
 | quiet (all l:List Oper)
def zA9 (l:Nat):List Item→Option (List Item)
 | []=>none
 | .endB l'::r=>if l=l' then some r else zA9 l r
 | _::r=>zA9 l r
abbrev KS:=(Nat→HV)→Heap→Prop
def Kx (k:List Item→KS) (Q:Exit→KS) (r:List Item):Exit→KS
 | .normal=>k r
 | .exit l=>match zA9 l r with | some r'=>k r' | none=>Q (.exit l)
 | e=>Q e
def exR (k:List Item→KS) (res:Res) (all:List Oper) (d:Option Nat) (l:List Oper) (r:List Item) (T:Nat→HV):Prop :=
 onR res fun x H'=>k (.ops all l::r) (updO T d x) H'
def zFY (k:List Item→KS) (P:Program) (fid:Nat) (H:Heap) (args:List HV) (all:List Oper) (d:Option Nat) (l:List Oper) (r:List Item) (T:Nat→HV):Prop :=
 ∃Q,HCalls P fid H args Q∧∀x H',Q x H'→H'.length=H.length→k (.ops all l::r) (updO T d (zAH x H').1) (zAH x H').2
def zJG (k:List Item→KS) (P:Program) (id:Nat) (H:Heap) (args:List HV) (all:List Oper) (d:Option Nat) (l:List Oper) (r:List Item) (T:Nat→HV):Prop :=
 ∃Kb,HYield P id H args Kb∧∀b H',Kb b H'→H'.length=H.length→k (.ops all l::r) (updO T d (.v (.bool b))) H'
def zDT (k:List Item→KS) (P:Program) (f:HV) (H:Heap) (args:List HV) (all:List Oper) (d:Option Nat) (l:List Oper) (r:List Item) (T:Nat→HV):Prop :=
 match f with
 | .fn fid caps=>zFY k P (fnF fid) H (fnA fid .any args caps) all d l r T
 | .yl id=>zJG k P id H args all d l r T
 | _=>False
def zFK (k:List Item→KS) (P:Program) (f:Option Nat) (H:Heap) (args:List HV) (all:List Oper) (d:Option Nat) (l:List Oper) (r:List Item) (T:Nat→HV):Prop :=
 match f with
 | some fid=>zFY k P fid H args all d l r T
 | none=>False
def zKc (k:List Item→KS) (P:Program) (rv:HV) (name:String) (H:Heap) (args:List HV) (all:List Oper) (d:Option Nat) (l:List Oper) (r:List Item) (T:Nat→HV):Prop :=
 match rv with
 | .ic t x=>zFK k P (zAb P t name) H (x::args) all d l r T
 | _=>False
def exO (k:List Item→KS) (P:Program) (all:List Oper) (d:Option Nat) (op:Op) (l:List Oper) (r:List Item) (T:Nat→HV) (H:Heap):Prop :=
 match op with
 | .call { callee:=.value f,args:=args,argTypes:=_ }=>zDT k P (hev T f) H (args.toList.map (hev T)) all d l r T
 | .call { callee:=.invoke rv name,args:=args,argTypes:=_ }=>zKc k P (hev T rv) name H (args.toList.map (hev T)) all d l r T
 | op=>exR k (rop P T H op) all d l r T
def zA4 (all:List Oper) (j:Nat):Option Nat:=(all[j]?).bind (·.dst)
def exB2 (k:List Item→KS) (P:Program) (v:HV) (t:Nat) (b:Bool) (all:List Oper) (d:Option Nat) (op:Op) (l:List Oper) (r:List Item) (T:Nat→HV) (H:Heap):Prop :=
 match v with
 | .v (.bool c)=>(c=b→exO k P all d op l r T H)∧(c=(!b)→k (.ops all l::r) (updO T d (.v undef)) H)
 | .v (.tuple _)=>k (.ops all l::r) (updO T d (.v undef)) H
 | _=>False
def exB (k:List Item→KS) (P:Program) (t:Option Nat) (b:Bool) (all:List Oper) (d:Option Nat) (op:Op) (l:List Oper) (r:List Item) (T:Nat→HV) (H:Heap):Prop :=
 match t with
 | some t=>exB2 k P (T t) t b all d op l r T H
 | none=>False
def exG (k:List Item→KS) (P:Program) (all:List Oper) (o:Oper) (l:List Oper) (r:List Item) (T:Nat→HV) (H:Heap):Prop :=
 match o.guard with
 | none=>exO k P all o.dst o.op l r T H
 | some (j,b)=>exB k P (zA4 all j) b all o.dst o.op l r T H
def exRq (k:List Item→KS) (res:Res) (all:List Oper) (d:Option Nat) (l:List Oper) (r:List Item) (T:Nat→HV) (H:Heap):Prop :=
 onR res fun x _=>k (.quiet all l::r) (updO T d x) H
abbrev HFn (P:Program) (f:FuncId) (args:List HV) (R:HV):Prop:=HCalls P f [] args (fun r _=>r=R)
def zEX (n:Nat) (H:Heap) (args args' : List HV) (R:HV):Prop:=(args.map (fz n H)=args'∧nz R=true)∨(args=args'∧nmL 0 args=true)
def zMw (k:List Item→KS) (P:Program) (fid:Nat) (H:Heap) (args:List HV) (all:List Oper) (d:Option Nat) (l:List Oper) (r:List Item) (T:Nat→HV):Prop :=
 ∃n R args',HFn P fid args' R∧zEX n H args args' R∧k (.quiet all l::r) (updO T d (fzo R)) H
def z2 (P:Program) (T:Nat→HV) (H:Heap) (t:TypeId) (len:Nat) (parts:List (Nat×Operand)):Res:=zE (zL P t 3) fun e =>
 rv H (len=parts.length∧zCZ 0 parts=true∧e.2.2.size≠0∧len*e.2.2.size≤16777216∧(zA e.2.2).isSome=true∧zAw T e.2.2.size parts) (.sl (parts.map fun p=>fzoL (zQ (hev T p.2))))
def zDb (k:List Item→KS) (P:Program) (f:HV) (H:Heap) (args:List HV) (all:List Oper) (d:Option Nat) (l:List Oper) (r:List Item) (T:Nat→HV):Prop :=
 match f with
 | .fn fid caps=>zMw k P (fnF fid) H (fnA fid .any args caps) all d l r T
 | _=>False
def zEr (k:List Item→KS) (P:Program) (f:Option Nat) (H:Heap) (args:List HV) (all:List Oper) (d:Option Nat) (l:List Oper) (r:List Item) (T:Nat→HV):Prop :=
 match f with
 | some fid=>zMw k P fid H args all d l r T
 | none=>False
def zHh (k:List Item→KS) (P:Program) (rv:HV) (name:String) (H:Heap) (args:List HV) (all:List Oper) (d:Option Nat) (l:List Oper) (r:List Item) (T:Nat→HV):Prop :=
 match rv with
 | .ic t x=>zEr k P (zAb P t name) H (x::args) all d l r T
 | _=>False
def exOq (k:List Item→KS) (P:Program) (all:List Oper) (d:Option Nat) (op:Op) (l:List Oper) (r:List Item) (T:Nat→HV) (H:Heap):Prop :=
 match op with
 | .call { callee:=.value f,args:=args,argTypes:=_ }=>zDb k P (hev T f) H (args.toList.map (hev T)) all d l r T
 | .call { callee:=.invoke rv name,args:=args,argTypes:=_ }=>zHh k P (hev T rv) name H (args.toList.map (hev T)) all d l r T
 | .buildSlice t len parts=>exRq k (z2 P T H t len parts.toList) all d l r T H
 | op=>exRq k (ropQ P T H op) all d l r T H
def zDe (k:List Item→KS) (P:Program) (v:HV) (t:Nat) (b:Bool) (all:List Oper) (d:Option Nat) (op:Op) (l:List Oper) (r:List Item) (T:Nat→HV) (H:Heap):Prop :=
 match v with
 | .v (.bool c)=>(c=b→exOq k P all d op l r T H)∧(c=(!b)→k (.quiet all l::r) (updO T d (.v undef)) H)
 | .v (.tuple _)=>k (.quiet all l::r) (updO T d (.v undef)) H
 | _=>False
def exBq (k:List Item→KS) (P:Program) (t:Option Nat) (b:Bool) (all:List Oper) (d:Option Nat) (op:Op) (l:List Oper) (r:List Item) (T:Nat→HV) (H:Heap):Prop :=
 match t with
 | some t=>zDe k P (T t) t b all d op l r T H
 | none=>False
def exGq (k:List Item→KS) (P:Program) (all:List Oper) (o:Oper) (l:List Oper) (r:List Item) (T:Nat→HV) (H:Heap):Prop :=
 match o.guard with
 | none=>exOq k P all o.dst o.op l r T H
 | some (j,b)=>exBq k P (zA4 all j) b all o.dst o.op l r T H
def exC2 (k:List Item→KS) (v:HV) (x y:Code) (r:List Item) (T:Nat→HV) (H:Heap):Prop :=
 match v with
 | .v (.bool c)=>(c=true→k (.code x::r) T H)∧(c=false→k (.code y::r) T H)
 | _=>False
def ex (P:Program) (N L:Nat) (Q:Exit→KS):Nat→List Item→KS
 | 0,_=>fun _ _=>False
 | _+1,[]=>Q .normal
 | n+1,.endB _::r=>ex P N L Q n r
 | n+1,.ops _ []::r=>ex P N L Q n r
 | n+1,.ops all (o::l)::r=>exG (ex P N L Q n) P all o l r
 | n+1,.quiet _ []::r=>ex P N L Q n r
 | n+1,.quiet all (o::l)::r=>exGq (ex P N L Q n) P all o l r
 | n+1,.code c::r =>
  match c with
  | .skip=>ex P N L Q n r
  | .label _=>ex P N L Q n r
  | .seq x y=>ex P N L Q n (.code x::.code y::r)
  | .region _ ops false=>ex P N L Q n (.ops ops.toList ops.toList::r)
  | .cond c x y=>fun T H=>exC2 (ex P N L Q n) (hev T c) x y r T H
  | .block l c=>ex P N L Q n (.code c::.endB l::r)
  | .exit l=>Kx (ex P N L Q n) Q r (.exit l)
  | .goto l=>Q (.goto l)
  | .ret=>Q .ret
  | c=>fun T H=>HW P N L c (Kx (ex P N L Q n) Q r) T H
def zCr (N:Nat):Code→Bool
 | .region _ ops false=>ops.toList.all fun o=>zG N o && zAD o
 | .seq x y=>zCr N x && zCr N y
 | .cond c x y=>zBJ N c && zCr N x && zCr N y
 | .block _ c=>zCr N c
 | _=>true
def zAn (N:Nat):Item→Bool
 | .code c=>zCr N c
 | .endB _=>true
 | .ops all l=>(all.all fun o=>zG N o && zAD o) && l.all fun o=>zG N o && zAD o
 | .quiet _ _=>false
def M (F:Fence) (n:Nat) (P:Program) (Φ:Exit→Act→World→Prop):List Item→Exit→Act→World→Prop
 | [],e,a,w=>Φ e a w
 | .endB l::r,e,a,w=>match e with
  | .normal=>M F n P Φ r .normal a w
  | .exit l'=>if l'=l then M F n P Φ r .normal a w else M F n P Φ r (.exit l') a w
  | e=>M F n P Φ r e a w
 | .code c::r,e,a,w=>match e with
  | .normal=>c.wpIn F n P (M F n P Φ r) a w
  | e=>M F n P Φ r e a w
 | .ops all l::r,e,a,w=>match e with
  | .normal=>wpListIn F n P all.toArray (M F n P Φ r) l a w
  | e=>M F n P Φ r e a w
 | .quiet all l::r,e,a,w=>match e with
  | .normal=>False
  | e=>M F n P Φ r e a w
section
variable {F:Fence} {n:Nat} {P:Program} {Φ:Exit→Act→World→Prop}
theorem zHv (l:Nat):∀(r:List Item) (a:Act) (w:World),(match zA9 l r with | some r'=>M F n P Φ r' .normal a w | none=>Φ (.exit l) a w)→M F n P Φ r (.exit l) a w
 | [],a,w,h=>h
 | .endB l'::r,a,w,h=>by
  simp only[zA9] at h
  simp only[M]
  split at h
  ·rename_i e;split at e
   ·rename_i e';cases e;rw[if_pos e'];exact h
   ·rename_i e';rw[if_neg e'];exact zHv l r a w (by rw[e];exact h)
  ·rename_i e;split at e
   ·cases e
   ·rename_i e';rw[if_neg e'];exact zHv l r a w (by rw[e];exact h)
 | .code c::r,a,w,h=>by simp only[zA9] at h;simp only[M];exact zHv l r a w h
 | .ops all x::r,a,w,h=>by simp only[zA9] at h;simp only[M];exact zHv l r a w h
 | .quiet all x::r,a,w,h=>by simp only[zA9] at h;simp only[M];exact zHv l r a w h
theorem zCD {e:Exit} (h1:e≠.normal) (h2:∀l,e≠.exit l):∀(r:List Item) (a:Act) (w:World),Φ e a w→M F n P Φ r e a w
 | [],a,w,h=>h
 | .endB l'::r,a,w,h=>by
  have:=zCD h1 h2 r a w h
  cases e <;> first | exact absurd rfl h1 | exact absurd rfl (h2 _) | exact this
 | .code c::r,a,w,h=>by
  have:=zCD h1 h2 r a w h
  cases e <;> first | exact absurd rfl h1 | exact absurd rfl (h2 _) | exact this
 | .ops all x::r,a,w,h=>by
  have:=zCD h1 h2 r a w h
  cases e <;> first | exact absurd rfl h1 | exact absurd rfl (h2 _) | exact this
 | .quiet all x::r,a,w,h=>by
  have:=zCD h1 h2 r a w h
  cases e <;> first | exact absurd rfl h1 | exact absurd rfl (h2 _) | exact this
end
theorem zAy {all:List Oper} {j t:Nat} (h:zA4 all j=some t) (T:Nat→HV):gval all T j=T t:=by
 unfold zA4 at h
 unfold gval
 rw[h]
theorem zBV {o:Oper} (h:zAD o=true):∀c,o.op≠.defer c:=by
 intro c hc
 unfold zAD at h
 rw[hc] at h
 cases h
theorem St.drop {N B:Nat} {Z:Nat→Prop} {G:List (Option OG)} {FP:Nat→List Nat} {ds:List Nat} {T:Nat→HV} {H:Heap} {a:Act} {w:World} (h:St N B Z G FP ds T H a w) (d:Option Nat) (hd:∀i,d=some i→i<N):St N B Z G FP ds (updO T d (.v undef)) H (a.put d undef) w :=
 h.put (by simp[RV]) d hd
theorem zCo {N l:Nat}:∀(r r' : List Item),r.all (zAn N)=true→zA9 l r=some r'→r'.all (zAn N)=true
 | [],r',_,h=>by simp[zA9] at h
 | .endB l'::r,r',hok,h=>by
  simp only[zA9] at h
  simp only[List.all_cons,Bool.and_eq_true] at hok
  split at h
  ·cases h;exact hok.2
  ·exact zCo r r' hok.2 h
 | .code c::r,r',hok,h=>by
  simp only[zA9] at h
  simp only[List.all_cons,Bool.and_eq_true] at hok
  exact zCo r r' hok.2 h
 | .ops all x::r,r',hok,h=>by
  simp only[zA9] at h
  simp only[List.all_cons,Bool.and_eq_true] at hok
  exact zCo r r' hok.2 h
 | .quiet all x::r,r',hok,h=>by
  simp only[zA9] at h
  simp only[List.all_cons,Bool.and_eq_true] at hok
  exact zCo r r' hok.2 h
section
variable {P:Program} {N L:Nat} {Q:Exit→KS}
def Fin (Q:Exit→KS) (N L B:Nat) (Z0:Nat→Prop) (G0:List (Option OG)) (FP0:Nat→List Nat) (w0:World):Exit→Act→World→Prop :=
 fun e a' w'=>∃T' H' Z' G' FP' ds',Q e T' H'∧St N B Z' G' FP' ds' T' H' a' w'∧GLt L G0 G'∧Evo Z0 FP0 w0 Z' FP' w'
theorem z3g {k:List Item→KS} {all l:List Oper} {o:Oper} {r:List Item} {T:Nat→HV} {H:Heap} {ro:Option Nat} {m B:Nat} {Φ:Exit→Act→World→Prop} {Z0:Nat→Prop} {G0:List (Option OG)} {FP0:Nat→List Nat} {w0:World}
  (hall:(all.all fun o=>zG N o && zAD o)=true) (ho:(zG N o && zAD o)=true)
  (ih:∀T H Z G FP ds a w,k (.ops all l::r) T H→Bo ro B FP w→St N B Z G FP ds T H a w→GLt L G0 G→Evo Z0 FP0 w0 Z FP w→M (Wd ro) m P Φ (.ops all l::r) .normal a w)
  {Z:Nat→Prop} {G:List (Option OG)} {FP:Nat→List Nat} {ds:List Nat} {a:Act} {w:World} (h:exG k P all o l r T H) (hB:Bo ro B FP w) (hs:St N B Z G FP ds T H a w) (hG:GLt L G0 G) (hE:Evo Z0 FP0 w0 Z FP w) :
  M (Wd ro) m P Φ (.ops all (o::l)::r) .normal a w:=by
 simp only[Bool.and_eq_true] at ho
 have hnd:=zBV ho.2
 have hdst:∀i,o.dst=some i→i<N:=fun i hi=>by
  have:=ho.1;simp only[zG,zBr,hi,Bool.and_eq_true,decide_eq_true_eq] at this;exact this.1
 have main:∀T,exO k P all o.dst o.op l r T H→St N B Z G FP ds T H a w→o.wpIn (Wd ro) m P a w (wpListIn (Wd ro) m P all.toArray (M (Wd ro) m P Φ r) l) (M (Wd ro) m P Φ r):=by
  intro T h hs
  have fin:∀{K:KS},HO P N L o T H K→(∀T' H',K T' H'→k (.ops all l::r) T' H')→o.wpIn (Wd ro) m P a w (wpListIn (Wd ro) m P all.toArray (M (Wd ro) m P Φ r) l) (M (Wd ro) m P Φ r):=by
   intro K hO hK
   refine hO ro m B Z G FP ds a w hB hG.len hs _ _ ?_
   rintro a' w' ⟨T',H',Z',G',FP',hKT,hs',hG',hE'⟩
   exact ih T' H' Z' G' FP' ds a' w' (hK _ _ hKT) (hB.evo hE') hs' (hG.trans hG') (hE.trans hE')
  unfold exO at h
  split at h
  ·rename_i f args tys hop
   unfold zDT at h
   split at h
   ·rename_i fid caps hf
    obtain ⟨Q',hc,hk⟩:=h
    exact fin (zNQ (K:=k (.ops all l::r)) hop ho.1 hf hc hk) (fun _ _ h=>h)
   ·rename_i id hf
    obtain ⟨Kb,hc,hk⟩:=h
    exact fin (zO2 (K:=k (.ops all l::r)) hop ho.1 hf hc hk) (fun _ _ h=>h)
   ·exact h.elim
  ·rename_i rv name args tys hop
   unfold zKc at h
   split at h
   ·rename_i t x hf
    unfold zFK at h
    split at h
    ·rename_i fid hm
     obtain ⟨Q',hc,hk⟩:=h
     exact fin (zGr (K:=k (.ops all l::r)) hop ho.1 hf hm hc hk) (fun _ _ h=>h)
    ·exact h.elim
   ·exact h.elim
  ·exact fin (zEY (K:=k (.ops all l::r)) hnd hdst (zOU ho.1 h)) (fun _ _ h=>h)
 simp only[M]
 unfold exG at h
 split at h
 ·rename_i hg
  exact wpListIn_plain hg fun K' hK'=>by
   have:=main T h hs
   exact Oper.wpIn_mono (fun a w h=>hK' a w h) this
 ·rename_i j b hg
  unfold exB at h
  split at h
  ·rename_i t ht
   unfold exB2 at h
   split at h
   ·rename_i c hv
    have hy:yielded all.toArray a.tmps j=some c:=by
     refine hs.yields ?_ (by rw[zAy ht];exact hv)
     rw[List.all_eq_true]
     intro x hx
     have:=List.all_eq_true.1 hall x hx
     simp only[Bool.and_eq_true,zG] at this
     exact this.1.1
    have hw:Region.wanted o (yielded all.toArray a.tmps)=(c == b):=by
     simp only[Region.wanted,hg,hy]
     cases c <;> cases b <;> rfl
    by_cases hcb:c=b
    ·have h1:=h.1 hcb
     simp only[wpListIn,hw]
     rw[if_pos (by simp[hcb])]
     exact main T h1 hs
    ·have hcb' : c=(!b):=by cases c <;> cases b <;> simp_all
     have h1:=h.2 hcb'
     simp only[wpListIn,hw]
     rw[if_neg (by simp[hcb])]
     exact ⟨fun _ _=>trivial,ih _ _ Z G FP ds _ w h1 hB (hs.drop o.dst hdst) hG hE⟩
   ·rename_i ts hv
    have hy:yielded all.toArray a.tmps j=none:=by
     refine hs.yieldsNo ?_ (by rw[zAy ht];exact hv)
     rw[List.all_eq_true]
     intro x hx
     have:=List.all_eq_true.1 hall x hx
     simp only[Bool.and_eq_true,zG] at this
     exact this.1.1
    have hw:Region.wanted o (yielded all.toArray a.tmps)=false:=by
     simp only[Region.wanted,hg,hy]
     cases b <;> rfl
    simp only[wpListIn,hw]
    exact ⟨fun _ _=>trivial,ih _ _ Z G FP ds _ w h hB (hs.drop o.dst hdst) hG hE⟩
   ·exact h.elim
  ·exact h.elim
theorem zCP:∀(n:Nat) (r:List Item) (T:Nat→HV) (H:Heap),ex P N L Q n r T H→r.all (zAn N)=true→∀(ro:Option Nat) (m B:Nat) (Z0:Nat→Prop) (G0:List (Option OG)) (FP0:Nat→List Nat) (w0:World) (Z:Nat→Prop) (G:List (Option OG)) (FP:Nat→List Nat) (ds:List Nat) (a:Act) (w:World),
  Bo ro B FP w→St N B Z G FP ds T H a w→GLt L G0 G→Evo Z0 FP0 w0 Z FP w→M (Wd ro) m P (Fin Q N L B Z0 G0 FP0 w0) r .normal a w
 | 0,r,T,H,h,_=>h.elim
 | n+1,[],T,H,h,hok=>fun ro m B Z0 G0 FP0 w0 Z G FP ds a w hB hs hG hE=>⟨T,H,Z,G,FP,ds,h,hs,hG,hE⟩
 | n+1,.endB l::r,T,H,h,hok=>fun ro m B Z0 G0 FP0 w0 Z G FP ds a w hB hs hG hE=>by
  simp only[List.all_cons,Bool.and_eq_true] at hok
  simp only[M]
  exact zCP n r T H h hok.2 ro m B Z0 G0 FP0 w0 Z G FP ds a w hB hs hG hE
 | n+1,.ops all []::r,T,H,h,hok=>fun ro m B Z0 G0 FP0 w0 Z G FP ds a w hB hs hG hE=>by
  simp only[List.all_cons,Bool.and_eq_true] at hok
  simp only[M,wpListIn]
  exact zCP n r T H h hok.2 ro m B Z0 G0 FP0 w0 Z G FP ds a w hB hs hG hE
 | n+1,.ops all (o::l)::r,T,H,h,hok=>fun ro m B Z0 G0 FP0 w0 Z G FP ds a w hB hs hG hE=>by
  simp only[List.all_cons,Bool.and_eq_true] at hok
  obtain ⟨hio,hr⟩:=hok
  simp only[zAn,Bool.and_eq_true,List.all_cons] at hio
  refine z3g hio.1 (by simp only[Bool.and_eq_true];exact hio.2.1) ?_ h hB hs hG hE
  intro T' H' Z' G' FP' ds' a' w' hk hB' hs' hG' hE'
  exact zCP n _ T' H' hk (by simp only[List.all_cons,Bool.and_eq_true,zAn];exact ⟨⟨hio.1,hio.2.2⟩,hr⟩) ro m B Z0 G0 FP0 w0 Z' G' FP' ds' a' w' hB' hs' hG' hE'
 | n+1,.quiet all []::r,T,H,h,hok=>by simp[zAn] at hok
 | n+1,.quiet all (o::l)::r,T,H,h,hok=>by simp[zAn] at hok
 | n+1,.code c::r,T,H,h,hok=>fun ro m B Z0 G0 FP0 w0 Z G FP ds a w hB hs hG hE=>by
  simp only[List.all_cons,Bool.and_eq_true] at hok
  obtain ⟨hc,hr⟩:=hok
  simp only[zAn] at hc
  simp only[M]
  have ih:=zCP n
  have out:∀(e:Exit) (T' : Nat→HV) (H' : Heap) (Z' : Nat→Prop) (G' : List (Option OG)) (FP' : Nat→List Nat) (ds' : List Nat) (a' : Act) (w' : World),Kx (ex P N L Q n) Q r e T' H'→Bo ro B FP' w'→St N B Z' G' FP' ds' T' H' a' w'→GLt L G0 G'→Evo Z0 FP0 w0 Z' FP' w'→M (Wd ro) m P (Fin Q N L B Z0 G0 FP0 w0) r e a' w':=by
   intro e T' H' Z' G' FP' ds' a' w' hk hB' hs' hG' hE'
   cases e with
   | normal=>exact ih r T' H' hk hr ro m B Z0 G0 FP0 w0 Z' G' FP' ds' a' w' hB' hs' hG' hE'
   | exit l =>
    refine zHv l r a' w' ?_
    simp only[Kx] at hk
    split at hk
    ·rename_i r' hd
     exact ih r' T' H' (by rw[hd] at hk;exact hk) (zCo r r' hr hd) ro m B Z0 G0 FP0 w0 Z' G' FP' ds' a' w' hB' hs' hG' hE'
    ·rename_i hd
     exact ⟨T',H',Z',G',FP',ds',by rw[hd] at hk;exact hk,hs',hG',hE'⟩
   | goto l=>exact zCD (by simp) (by simp) r a' w' ⟨T',H',Z',G',FP',ds',hk,hs',hG',hE'⟩
   | ret=>exact zCD (by simp) (by simp) r a' w' ⟨T',H',Z',G',FP',ds',hk,hs',hG',hE'⟩
   | panic ch=>exact zCD (by simp) (by simp) r a' w' ⟨T',H',Z',G',FP',ds',hk,hs',hG',hE'⟩
   | outgrown=>exact zCD (by simp) (by simp) r a' w' ⟨T',H',Z',G',FP',ds',hk,hs',hG',hE'⟩
  have stuck:HW P N L c (Kx (ex P N L Q n) Q r) T H→c.wpIn (Wd ro) m P (M (Wd ro) m P (Fin Q N L B Z0 G0 FP0 w0) r) a w:=by
   intro hw
   refine wpIn_mono (hw ro m B Z G FP ds a w hB hG.len hs) ?_
   rintro e a' w' ⟨T',H',Z',G',FP',ds',k1,k2,k3,k4⟩
   exact out e T' H' Z' G' FP' ds' a' w' k1 (hB.evo k4) k2 (hG.trans k3) (hE.trans k4)
  cases c with
  | skip=>exact wpIn_skip (ih r T H h hr ro m B Z0 G0 FP0 w0 Z G FP ds a w hB hs hG hE)
  | label l=>exact wpIn_label (ih r T H h hr ro m B Z0 G0 FP0 w0 Z G FP ds a w hB hs hG hE)
  | seq x y =>
   simp only[zCr,Bool.and_eq_true] at hc
   have:=ih (.code x::.code y::r) T H h (by simp only[List.all_cons,Bool.and_eq_true,zAn];exact ⟨hc.1,hc.2,hr⟩) ro m B Z0 G0 FP0 w0 Z G FP ds a w hB hs hG hE
   simp only[M] at this
   refine wpIn_seq (wpIn_mono this ?_)
   intro e a' w' he
   cases e <;> exact he
  | region id ops draw =>
   cases draw with
   | true=>exact stuck h
   | false =>
    simp only[zCr] at hc
    have:=ih (.ops ops.toList ops.toList::r) T H h (by simp only[List.all_cons,Bool.and_eq_true,zAn];exact ⟨⟨hc,hc⟩,hr⟩) ro m B Z0 G0 FP0 w0 Z G FP ds a w hB hs hG hE
    simp only[M] at this
    exact wpIn_region_list (by simpa using this)
  | cond c x y =>
   simp only[zCr,Bool.and_eq_true] at hc
   have h' : exC2 (ex P N L Q n) (hev T c) x y r T H:=h
   unfold exC2 at h'
   split at h'
   ·rename_i b hv
    have he:=hs.cond hc.1.1 hv
    cases b with
    | true =>
     have:=ih (.code x::r) T H (h'.1 rfl) (by simp only[List.all_cons,Bool.and_eq_true,zAn];exact ⟨hc.1.2,hr⟩) ro m B Z0 G0 FP0 w0 Z G FP ds a w hB hs hG hE
     exact wpIn_cond he this
    | false =>
     have:=ih (.code y::r) T H (h'.2 rfl) (by simp only[List.all_cons,Bool.and_eq_true,zAn];exact ⟨hc.2,hr⟩) ro m B Z0 G0 FP0 w0 Z G FP ds a w hB hs hG hE
     exact wpIn_cond he this
   ·exact h'.elim
  | block l c =>
   simp only[zCr] at hc
   have:=ih (.code c::.endB l::r) T H h (by simp only[List.all_cons,Bool.and_eq_true,zAn];exact ⟨hc,trivial,hr⟩) ro m B Z0 G0 FP0 w0 Z G FP ds a w hB hs hG hE
   simp only[M] at this
   refine wpIn_block (wpIn_mono this ?_)
   intro e a' w' he
   cases e <;> exact he
  | exit l=>exact wpIn_exit (out (.exit l) T H Z G FP ds a w h hB hs hG hE)
  | goto l=>exact wpIn_goto (zCD (by simp) (by simp) r a w ⟨T,H,Z,G,FP,ds,h,hs,hG,hE⟩)
  | ret=>exact wpIn_ret (zCD (by simp) (by simp) r a w ⟨T,H,Z,G,FP,ds,h,hs,hG,hE⟩)
  | loop c=>exact stuck h
  | rangeFunc f ps as c=>exact stuck h
  | scope c=>exact stuck h
  | refuse u=>exact stuck h
theorem HW.run {c:Code} {T:Nat→HV} {H:Heap} (n:Nat) (hok:zCr N c=true) (h:ex P N L Q n [.code c] T H):HW P N L c Q T H:=by
 intro ro m B Z G FP ds a w hB hL hs
 have:=zCP n [.code c] T H h (by simp[zAn,hok]) ro m B Z G FP w Z G FP ds a w hB hs (GLt.refl hL) (Evo.refl _ _ _)
 simp only[M] at this
 exact this
end
end Go.Proofs.YtoknohandclcbaaGreat
