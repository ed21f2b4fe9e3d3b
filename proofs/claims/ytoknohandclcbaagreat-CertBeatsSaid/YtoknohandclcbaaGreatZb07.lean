/- Parts of the proof: HiDc, HiDd, HiDe. -/
import Derived.Test.YtoknohandclcbaaGreatZb06
set_option linter.unusedSectionVars false
set_option linter.unusedVariables false
set_option linter.unusedSimpArgs false
namespace Go.Proofs.YtoknohandclcbaaGreat
open Go.RowKit
def RRel (r r' : Res):Prop:=∀p x H0,p→r=some (p,x,H0)→∃(p' : Prop) (H0' : Heap),p'∧r'=some (p',x,H0')
theorem zAB {r:Res}:RRel none r:=fun _ _ _ _ h=>by cases h
theorem zS {H H' : Heap} {p p' : Prop} {x:HV} (h:p→p'):RRel (rv H p x) (rv H' p' x):=fun q y H0 hq e=>by
 cases e;exact ⟨p',H',h hq,rfl⟩
theorem zN {α:Type} {o o' : Option α} {f f' : α→Res} (h:∀a,o=some a→o'=some a∧RRel (f a) (f' a)):RRel (zF o f) (zF o' f'):=by
 cases o with
 | none=>exact zAB
 | some a =>
  obtain ⟨h1,h2⟩:=h a rfl
  rw[h1];exact h2
def nmed (id:Nat):HV→Prop
 | .hd i _ _=>i=id
 | .pt i _ _ _=>i=id
 | _=>False
def Agr (H H' : Heap) (x:HV):Prop:=∀id,nmed id x→∀ob,getO H id=some ob→getO H' id=some ob
theorem zDP {H:Heap} {id:Nat} {ob:HObj}:getO H id=some ob↔H[id]?=some (some ob):=by
 constructor
 ·exact z7
 ·intro h;unfold getO;rw[h]
section
variable {P:Program} {T:Nat→HV} {H H' : Heap}
theorem zEx {x:HV} (h:Agr H H' x) (hl:zB7 H x=true):zB7 H' x=true:=by
 unfold zB7 at hl⊢
 split at hl
 ·rename_i id n r o
  split at hl
  ·rename_i ob ho
   have:=zDP.1 (h id rfl ob (zDP.2 ho))
   rw[this];exact hl
  ·cases hl
 ·rfl
 ·cases hl
theorem zMK {x:HV} (h:Agr H H' x) {rows:List (List HV)} (hs:zAW H x=some rows):zAW H' x=some rows:=by
 unfold zAW at hs⊢
 split at hs
 ·exact hs
 ·exact hs
 ·exact hs
 ·rename_i id off len
  split at hs
  ·rename_i ob ho
   have:=zDP.1 (h id rfl ob (zDP.2 ho))
   rw[this];exact hs
  ·cases hs
 ·cases hs
theorem zNw {op:Op} (hag:∀y∈op.operands.toList,Agr H H' (hev T y)):RRel (ropQ P T H op) (ropQ P T H' op):=by
 have h1:∀y,y∈op.operands→Agr H H' (hev T y):=fun y hy=>hag y (by simpa using hy)
 clear hag
 unfold ropQ
 split <;> simp only[Op.operands,Call.operands] at h1
 ·exact zS id
 ·exact zS id
 ·unfold zHL;split <;> first | exact zS id | exact zAB
 ·unfold zGM
  exact zN fun a ha=>⟨ha,zN fun b hb=>⟨hb,zN fun c hc=>⟨hc,zS id⟩⟩⟩
 ·rename_i t a
  refine zN fun x hx=>⟨hx,?_⟩
  have ha:=h1 a (by simp)
  unfold zGH
  split
  ·rename_i id n r o e
   rw[e] at ha
   exact zN fun ob ho=>⟨ha _ rfl ob ho,zN fun row hr=>⟨hr,zS fun h=>h⟩⟩
  ·exact zN fun row hr=>⟨hr,zS fun h=>h⟩
  ·exact zAB
 ·rename_i x
  have ha:=h1 x (by simp)
  unfold zGE
  split
  ·exact zS id
  ·rename_i e;rw[e] at ha;exact zS (zEx ha)
  ·exact zS id
  ·exact zS id
  ·exact zAB
 ·unfold rbin;exact zN fun v hv=>⟨hv,zS id⟩
 ·unfold run1;split <;> first | exact zS id | exact zAB
 ·rename_i src dst x
  have ha:=h1 x (by simp)
  unfold zCu
  split
  ·exact zN fun a ha=>⟨ha,zN fun b hb=>⟨hb,zS id⟩⟩
  ·exact zS id
  ·exact zN fun e he=>⟨he,zN fun rows hr=>⟨zMK ha hr,zN fun l hl=>⟨hl,zS id⟩⟩⟩
 ·unfold zGJ;exact zN fun y hy=>⟨hy,zS id⟩
 ·split <;> first | exact zS id | exact zAB
 ·rename_i t x lo hi
  have ha:=h1 x (by simp)
  unfold rcut
  split
  ·exact zN fun l hl=>⟨hl,zN fun h hh=>⟨hh,zS id⟩⟩
  ·exact zN fun e he=>⟨he,zN fun l hl=>⟨hl,zN fun h hh=>⟨hh,zS id⟩⟩⟩
  ·rename_i e;rw[e] at ha
   exact zN fun e he=>⟨he,zN fun l hl=>⟨hl,zN fun h hh=>⟨hh,zN fun ob ho=>⟨ha _ rfl ob ho,zS id⟩⟩⟩⟩
  ·exact zAB
 ·rename_i s a i
  have ha:=h1 a (by simp)
  unfold zBf
  exact zN fun f hf=>⟨hf,zS fun h=>⟨h.1,zEx ha h.2⟩⟩
 ·unfold zEJ;split
  ·exact zN fun f hf=>⟨hf,zS id⟩
  ·exact zAB
 ·rename_i t a i
  have ha:=h1 a (by simp)
  unfold zA7
  split
  ·exact zN fun e he=>⟨he,zS id⟩
  ·rename_i e _;rw[e] at ha
   exact zN fun e he=>⟨he,zN fun ob ho=>⟨ha _ rfl ob ho,zS id⟩⟩
  ·rename_i e _;rw[e] at ha
   exact zN fun e he=>⟨he,zS fun h=>⟨zEx ha h.1,h.2⟩⟩
  ·exact zN fun e he=>⟨he,zS id⟩
  ·exact zAB
 ·unfold zD2;split
  ·exact zN fun b hb=>⟨hb,zS id⟩
  ·exact zN fun e he=>⟨he,zS id⟩
  ·exact zAB
 ·unfold zBa;split
  ·exact zN fun v hv=>⟨hv,zS id⟩
  ·exact zAB
 ·rename_i x t
  have ha:=h1 x (by simp)
  unfold rlen
  split
  ·exact zS id
  ·exact zS id
  ·exact zS id
  ·rename_i e;rw[e] at ha
   exact zN fun ob ho=>⟨ha _ rfl ob ho,zS id⟩
  ·exact zAB
 ·unfold rmm;split <;> first | exact zS id | exact zAB
 ·unfold rmm;split <;> first | exact zS id | exact zAB
 ·exact zAB
end
mutual
theorem zKZ:∀(h:HV) (H:Heap),∃B,(zAO h H).2=H++B
 | .ow ..,H=>⟨_,rfl⟩
 | .bx ..,H=>⟨_,rfl⟩
 | .om ..,H=>⟨_,rfl⟩
 | .ag cs,H=>by simpa only[zAO] using zEP cs H
 | .tu cs,H=>by simpa only[zAO] using zEP cs H
 | .fn _ cs,H=>by simpa only[zAO] using zEP cs H
 | .any,H=>⟨[],by simp[zAO]⟩
 | .v _,H=>⟨[],by simp[zAO]⟩
 | .sl _,H=>⟨[],by simp[zAO]⟩
 | .hd ..,H=>⟨[],by simp[zAO]⟩
 | .pt ..,H=>⟨[],by simp[zAO]⟩
 | .fp ..,H=>⟨[],by simp[zAO]⟩
 | .ic ..,H=>⟨[],by simp[zAO]⟩
 | .ob _,H=>⟨[],by simp[zAO]⟩
 | .mp _,H=>⟨[],by simp[zAO]⟩
 | .yl _,H=>⟨[],by simp[zAO]⟩
 | .gv _,H=>⟨[],by simp[zAO]⟩
theorem zEP:∀(l:List HV) (H:Heap),∃B,(zDY l H).2=H++B
 | [],H=>⟨[],by simp[zDY]⟩
 | h::t,H=>by
  obtain ⟨B,h1⟩:=zKZ h H
  obtain ⟨B',h2⟩:=zEP t (zAO h H).2
  exact ⟨B++B',by simp only[zDY];rw[h2,h1,List.append_assoc]⟩
end
def zBw:Op→Bool
 | .move _=>true
 | .assign _=>true
 | .pick ..=>true
 | .build ..=>true
 | .binOp ..=>true
 | .unOp ..=>true
 | .makeInterface ..=>true
 | .makeFunc ..=>true
 | .field ..=>true
 | .index ..=>true
 | .extract ..=>true
 | _=>false
theorem zHe {P:Program} {T:Nat→HV} {H H' : Heap} {op:Op} (h:zBw op=true):RRel (ropQ P T H op) (ropQ P T H' op):=by
 cases op <;> simp only[zBw,Bool.false_eq_true] at h
 case move=>exact zS id
 case assign=>exact zS id
 case pick=>unfold ropQ zHL;dsimp only;split <;> first | exact zS id | exact zAB
 case build=>unfold ropQ zGM;exact zN fun a ha=>⟨ha,zN fun b hb=>⟨hb,zN fun c hc=>⟨hc,zS id⟩⟩⟩
 case binOp=>unfold ropQ rbin;exact zN fun v hv=>⟨hv,zS id⟩
 case unOp=>unfold ropQ run1;dsimp only;split <;> first | exact zS id | exact zAB
 case makeInterface=>unfold ropQ zGJ;exact zN fun y hy=>⟨hy,zS id⟩
 case makeFunc f first cs =>
  cases f <;> unfold ropQ <;> dsimp only <;> first | exact zAB | (split <;> first | exact zS id | exact zAB)
 case field=>unfold ropQ zEJ;dsimp only;split <;> first | exact zN fun f hf=>⟨hf,zS id⟩ | exact zAB
 case index =>
  unfold ropQ zD2;dsimp only;split
  ·exact zN fun b hb=>⟨hb,zS id⟩
  ·exact zN fun e he=>⟨he,zS id⟩
  ·exact zAB
 case extract=>unfold ropQ zBa;dsimp only;split <;> first | exact zN fun v hv=>⟨hv,zS id⟩ | exact zAB
def SameTo (m:Nat) (H H' : Heap):Prop:=∀id:Nat,id<m→H'[id]?=H[id]?
theorem SameTo.app {m:Nat} {H:Heap} (B:Heap) (h:m≤H.length):SameTo m H (H++B):=fun id hid=>List.getElem?_append_left (by omega)
theorem SameTo.agr {m:Nat} {H H' : Heap} {x:HV} (h:SameTo m H H') (hn:nm m x=true):Agr H H' x:=fun id hid ob ho=>by
 have hlt:id<m:=by
  cases x <;> simp only[nmed] at hid
  ·subst hid;simpa [nm] using hn
  ·subst hid;simpa [nm] using hn
 exact zDP.2 ((h id hlt).trans (zDP.1 ho))
def zVU (P:Program) (base:Nat) (T:Nat→HV) (H:Heap) (op:Op) (x:HV):Prop :=
 (∃(p:Prop) (H0:Heap),p∧ropQ P T H op=some (p,x,H0)∧(zBw op=true∨∀y∈op.operands.toList,nm base (hev T y)=true))∨
 (∃f args tys fid caps R,op=.call { callee:=.value f,args:=args,argTypes:=tys }∧hev T f=.fn fid caps∧HFn P (fnF fid) (fnA fid .any (args.toList.map (hev T)) caps) R∧nmL 0 (fnA fid .any (args.toList.map (hev T)) caps)=true∧x=fzo R)∨
 (∃rv name args tys t y fid R,op=.call { callee:=.invoke rv name,args:=args,argTypes:=tys }∧hev T rv=.ic t y∧zAe P t name=some fid∧HFn P fid (y::args.toList.map (hev T)) R∧nmL 0 (y::args.toList.map (hev T))=true∧x=fzo R)∨
 (∃t len parts p H0,op=.buildSlice t len parts∧p∧zAE P T H t len parts.toList=some (p,x,H0))
def zVV (P:Program) (base:Nat) (T:Nat→HV) (H:Heap) (op:Op) (x:HV) (H' : Heap):Prop :=
 SameTo base H H'∧H.length≤H'.length∧(
  (∃f args tys fid caps n R args',op=.call { callee:=.value f,args:=args,argTypes:=tys }∧hev T f=.fn fid caps∧HFn P (fnF fid) args' R∧zEc n H (fnA fid .any (args.toList.map (hev T)) caps) args' R∧zAO R H=(x,H'))∨
  (∃rv name args tys t y fid n R args',op=.call { callee:=.invoke rv name,args:=args,argTypes:=tys }∧hev T rv=.ic t y∧zAe P t name=some fid∧HFn P fid args' R∧zEc n H (y::args.toList.map (hev T)) args' R∧zAO R H=(x,H'))∨
  (∃p:Prop,p∧rop P T H op=some (p,x,H')))
def zFP (P:Program) (base:Nat) (h:Bool) (T:Nat→HV) (H:Heap) (op:Op) (x:HV) (H' : Heap):Prop :=
 if h=true then zVV P base T H op x H' else zVU P base T H op x∧H'=H
def zEe (P:Program) (base:Nat) (h:Bool) (all:List Oper) (T:Nat→HV) (H:Heap) (o:Oper) (x:HV) (H' : Heap):Prop :=
 match o.guard with
 | none=>zFP P base h T H o.op x H'
 | some (j,b)=>∃t,zA8 all j=some t∧((∃c,T t=.v (.bool c)∧(c=b→zFP P base h T H o.op x H')∧(c=(!b)→x=.v undef∧H'=H))∨∃ts,T t=.v (.tuple ts)∧x=.v undef∧H'=H)
def bsO (hv:List Nat) (base:Nat×Nat) (j:Nat):Nat :=
 if hv.contains j=true then (if hv.contains (2000+j)=true then base.1 else if base.1<base.2 then base.2 else base.1)
 else if hv.contains (1000+j)=true then base.2 else base.1
theorem z4l {hv:List Nat} {base:Nat×Nat} {j:Nat} (h:hv.contains j=true):base.1≤bsO hv base j:=by
 unfold bsO
 rw[if_pos h]
 split
 ·exact Nat.le_refl _
 ·split <;> omega
theorem z2D {hv:List Nat} {base:Nat×Nat} {j:Nat} (h:hv.contains j=true) (h2:¬hv.contains (2000+j)=true):base.2≤bsO hv base j:=by
 unfold bsO
 rw[if_pos h,if_neg h2]
 split <;> omega
theorem SameTo.le {m m' : Nat} {H H' : Heap} (h:SameTo m H H') (hm:m'≤m):SameTo m' H H':=fun id hid=>h id (by omega)
def zF1 (P:Program) (base:Nat×Nat) (hv:List Nat) (all:List Oper):Nat→List Oper→(Nat→HV)→Heap→List HV→List Heap→Prop
 | _,[],_,_,xs,hs=>xs=[]∧hs=[]
 | j,o::l,T,H,xs,hs=>∃x H' xs' hs',xs=x::xs'∧hs=H'::hs'∧zEe P (bsO hv base j) (hv.contains j) all T H o x H'∧zF1 P base hv all (j+1) l (updO T o.dst x) H' xs' hs'
def zW (H0:Heap) (hs:List Heap) (j:Nat):Heap:=((H0::hs)[j]?).getD []
section
variable {P:Program} {all:List Oper} {base:Nat} {hv:List Nat}
theorem zHp {fid:Nat} {n:Nat} {H:Heap} {args args' : List HV} {R:HV} (h:HFn P fid args' R) (hL:zEc n H args args' R):HCalls P fid H args (fun r H'=>r=R∧H'=H):=by
 rcases hL with ⟨rfl,hnz⟩ | ⟨rfl,hnm⟩
 ·exact HCalls.lend n h (fun r hr=>by rw[hr];exact hnz)
 ·exact HCalls.plain h hnm
theorem zBH {T T' : Nat→HV} {H H' : Heap} {t:TypeId} {len:Nat} {parts:List (Nat×Operand)} (h:∀p∈parts,hev T p.2=hev T' p.2) {p:Prop} {x:HV} {H0:Heap} (hr:zAE P T H t len parts=some (p,x,H0)):zAE P T' H' t len parts=some (p,x,H'):=by
 have e1:∀n (l:List (Nat×Operand)),(∀p∈l,hev T p.2=hev T' p.2)→zAz T n l=zAz T' n l:=by
  intro n l
  induction l with
  | nil=>intro _;rfl
  | cons p l ih =>
   intro hp
   simp only[zAz]
   rw[hp p (by simp),ih (fun q hq=>hp q (by simp[hq]))]
 have e2:parts.map (fun p=>fzoL (zY (hev T p.2)))=parts.map (fun p=>fzoL (zY (hev T' p.2))):=by
  apply List.map_congr_left
  intro p hq
  rw[h p hq]
 unfold zAE at hr⊢
 cases he:zO P t 3 with
 | none=>rw[he] at hr;cases hr
 | some e =>
  rw[he] at hr
  simp only[zDS,rv] at hr⊢
  cases hr
  rw[e1 _ _ h,e2]
theorem zNg {T T' : Nat→HV} {H:Heap} {op:Op} {x:HV} (h:∀y∈op.operands.toList,hev T y=hev T' y) (hc:zVU P base T H op x):zVU P base T' H op x:=by
 rcases hc with ⟨p,H0,hp,hr,hi⟩ | ⟨f,args,tys,fid,caps,R,rfl,hf,h1,h2,h3⟩ | ⟨rv,name,args,tys,t,y,fid,R,rfl,hf,hm,h1,h2,h3⟩ | ⟨t,len,parts,p,H0,rfl,hp,hr⟩
 ·exact .inl ⟨p,H0,hp,by rw[←zHf h];exact hr,hi.imp id fun hi y hy=>by rw[←h y hy];exact hi y hy⟩
 ·have e1:=h f (by simp[Op.operands,Call.operands])
  have e2:args.toList.map (hev T)=args.toList.map (hev T'):=zAN fun x hx=>h x (by simp[Op.operands,Call.operands];exact .inr (by simpa using hx))
  exact .inr (.inl ⟨f,args,tys,fid,caps,R,rfl,e1▸hf,e2▸h1,e2▸h2,h3⟩)
 ·have e1:=h rv (by simp[Op.operands,Call.operands])
  have e2:args.toList.map (hev T)=args.toList.map (hev T'):=zAN fun x hx=>h x (by simp[Op.operands,Call.operands];exact .inr (by simpa using hx))
  exact .inr (.inr (.inl ⟨rv,name,args,tys,t,y,fid,R,rfl,e1▸hf,hm,e2▸h1,e2▸h2,h3⟩))
 ·have hp1:∀p∈parts.toList,hev T p.2=hev T' p.2:=fun p hp=>h p.2 (by simp[Op.operands];exact ⟨p.1,by simpa using hp⟩)
  exact .inr (.inr (.inr ⟨t,len,parts,p,H,rfl,hp,zBH hp1 hr⟩))
theorem zNh {T:Nat→HV} {H Hc:Heap} {op:Op} {x:HV} (hs:SameTo base H Hc) (hc:zVU P base T H op x):zJa P T Hc op x:=by
 rcases hc with ⟨p,H0,hp,hr,hi⟩ | ⟨f,args,tys,fid,caps,R,rfl,hf,h1,h2,h3⟩ | ⟨rv,name,args,tys,t,y,fid,R,rfl,hf,hm,h1,h2,h3⟩ | ⟨t,len,parts,p,H0,rfl,hp,hr⟩
 ·have hR:RRel (ropQ P T H op) (ropQ P T Hc op):=by
   rcases hi with hi | hi
   ·exact zHe hi
   ·exact zNw fun y hy=>hs.agr (hi y hy)
  obtain ⟨p',H0',hp',hr'⟩:=hR p x H0 hp hr
  exact .inl ⟨p',H0',hp',hr'⟩
 ·exact .inr (.inl ⟨f,args,tys,fid,caps,0,R,_,rfl,hf,h1,.inr ⟨rfl,h2⟩,h3⟩)
 ·exact .inr (.inr (.inl ⟨rv,name,args,tys,t,y,fid,0,R,_,rfl,hf,hm,h1,.inr ⟨rfl,h2⟩,h3⟩))
 ·exact .inr (.inr (.inr ⟨t,len,parts,p,Hc,rfl,hp,zBH (fun _ _=>rfl) hr⟩))
theorem zNi {T T' : Nat→HV} {H H' : Heap} {op:Op} {x:HV} (h:∀y∈op.operands.toList,hev T y=hev T' y) (hc:zVV P base T H op x H'):zVV P base T' H op x H':=by
 obtain ⟨k1,k2,hc⟩:=hc
 refine ⟨k1,k2,?_⟩
 rcases hc with ⟨f,args,tys,fid,caps,n,R,args',rfl,hf,h1,h2,h3⟩ | ⟨rv,name,args,tys,t,y,fid,n,R,args',rfl,hf,hm,h1,h2,h3⟩ | ⟨p,hp,hr⟩
 ·have e1:=h f (by simp[Op.operands,Call.operands])
  have e2:args.toList.map (hev T)=args.toList.map (hev T'):=zAN fun x hx=>h x (by simp[Op.operands,Call.operands];exact .inr (by simpa using hx))
  exact .inl ⟨f,args,tys,fid,caps,n,R,args',rfl,e1▸hf,h1,e2▸h2,h3⟩
 ·have e1:=h rv (by simp[Op.operands,Call.operands])
  have e2:args.toList.map (hev T)=args.toList.map (hev T'):=zAN fun x hx=>h x (by simp[Op.operands,Call.operands];exact .inr (by simpa using hx))
  exact .inr (.inl ⟨rv,name,args,tys,t,y,fid,n,R,args',rfl,e1▸hf,hm,h1,e2▸h2,h3⟩)
 ·exact .inr (.inr ⟨p,hp,by rw[←zGG h];exact hr⟩)
theorem zHH {h0:Bool} {T T' : Nat→HV} {H H' : Heap} {op:Op} {x:HV} (h:∀y∈op.operands.toList,hev T y=hev T' y) (hc:zFP P base h0 T H op x H'):zFP P base h0 T' H op x H':=by
 cases h0 with
 | true=>exact zNi h hc
 | false=>exact ⟨zNg h hc.1,hc.2⟩
theorem zIQ {h0:Bool} {T:Nat→HV} {H H' : Heap} {op:Op} {x:HV} (hc:zFP P base h0 T H op x H'):SameTo base H H'∧H.length≤H'.length:=by
 unfold zFP at hc
 split at hc
 ·exact ⟨hc.1,hc.2.1⟩
 ·rw[hc.2];exact ⟨fun _ _=>rfl,Nat.le_refl _⟩
theorem zCi {h0:Bool} {o:Oper} {T T' : Nat→HV} {H H' : Heap} {x:HV} (h:∀t∈zBY all o,T t=T' t) (hc:zEe P base h0 all T H o x H'):zEe P base h0 all T' H o x H':=by
 have hv:=zEG h
 unfold zEe at hc⊢
 split at hc
 ·exact zHH hv hc
 ·rename_i j b hg
  obtain ⟨t,ht,hc⟩:=hc
  have e:T t=T' t:=h t (by unfold zBY;rw[hg];simp[ht])
  refine ⟨t,ht,?_⟩
  rw[←e]
  rcases hc with ⟨c,h1,h2,h3⟩ | hc
  ·exact .inl ⟨c,h1,fun hcb=>zHH hv (h2 hcb),h3⟩
  ·exact .inr hc
theorem zDV {h0:Bool} {o:Oper} {T:Nat→HV} {H H' : Heap} {x:HV} (hc:zEe P base h0 all T H o x H'):SameTo base H H'∧H.length≤H'.length:=by
 unfold zEe at hc
 split at hc
 ·exact zIQ hc
 ·rename_i j b hg
  obtain ⟨t,ht,⟨c,h1,h2,h3⟩ | ⟨ts,_,_,h⟩⟩:=hc
  ·by_cases hcb:c=b
   ·exact zIQ (h2 hcb)
   ·have hc:c=(!b):=by cases c <;> cases b <;> simp_all
    rw[(h3 hc).2];exact ⟨fun _ _=>rfl,Nat.le_refl _⟩
  ·rw[h];exact ⟨fun _ _=>rfl,Nat.le_refl _⟩
theorem zDv {o:Oper} {T:Nat→HV} {H H' : Heap} {x:HV} (hc:zEe P base false all T H o x H'):H'=H:=by
 have hM:zFP P base false T H o.op x H'→H'=H:=fun h=>by
  unfold zFP at h
  simp only[Bool.false_eq_true,if_false] at h
  exact h.2
 unfold zEe at hc
 split at hc
 ·exact hM hc
 ·obtain ⟨t,ht,⟨c,h1,h2,h3⟩ | ⟨ts,_,_,h⟩⟩:=hc
  ·rename_i j b _
   by_cases hcb:c=b
   ·exact hM (h2 hcb)
   ·have hc:c=(!b):=by cases c <;> cases b <;> simp_all
    exact (h3 hc).2
  ·exact h
theorem zG8 {H0:Heap} {hs:List Heap}:zW H0 hs 0=H0:=rfl
theorem zDi {H0 H1:Heap} {hs:List Heap} {j:Nat}:zW H0 (H1::hs) (j+1)=zW H1 hs j:=rfl
theorem zBv {base:Nat×Nat}:∀(l:List Oper) (xs:List HV) (hs:List Heap) (i j:Nat) (T:Nat→HV) (H0:Heap) (o:Oper),zF1 P base hv all i l T H0 xs hs→l[j]?=some o→
  ∃x,xs[j]?=some x∧zEe P (bsO hv base (i+j)) (hv.contains (i+j)) all (runM (fun k=>decide (k<i+j)) i l xs T) (zW H0 hs j) o x (zW H0 hs (j+1))
 | [],xs,hs,i,j,T,H0,o,_,h=>by simp at h
 | o0::l,xs,hs,i,0,T,H0,o,hc,h=>by
  obtain ⟨x,H',xs',hs',rfl,rfl,h1,_⟩:=hc
  simp only[List.getElem?_cons_zero,Option.some.injEq] at h
  subst h
  refine ⟨x,rfl,?_⟩
  rw[zG8,zDi,zG8]
  refine zCi (fun t _=>?_) h1
  rw[zB2]
  intro j' _
  simp
 | o0::l,xs,hs,i,j+1,T,H0,o,hc,h=>by
  obtain ⟨x,H',xs',hs',rfl,rfl,_,h2⟩:=hc
  simp only[List.getElem?_cons_succ] at h
  obtain ⟨y,h3,h4⟩:=zBv l xs' hs' (i+1) j _ H' o h2 h
  refine ⟨y,by simpa using h3,?_⟩
  rw[zDi,zDi]
  rw[show i+1+j=i+(j+1) by omega] at h4
  refine zCi (fun t _=>?_) h4
  simp only[runM]
  rw[if_pos (by simp)]
theorem zCb {base:Nat×Nat} {l:List Oper} {xs:List HV} {hs:List Heap} {T:Nat→HV} {H0:Heap} (hc:zF1 P base hv all 0 l T H0 xs hs):∀(b a:Nat),a≤b→b≤l.length→SameTo base.1 (zW H0 hs a) (zW H0 hs b)∧(zW H0 hs a).length≤(zW H0 hs b).length:=by
 intro b
 induction b with
 | zero=>intro a ha _;obtain rfl:a=0:=(by omega);exact ⟨fun _ _=>rfl,Nat.le_refl _⟩
 | succ b ih =>
  intro a ha hb
  rcases Nat.lt_or_ge a (b+1) with h | h
  ·obtain ⟨h1,h2⟩:=ih a (by omega) (by omega)
   obtain ⟨x,_,hN⟩:=zBv l xs hs 0 b T H0 _ hc (List.getElem?_eq_getElem (show b<l.length by omega))
   have h34:SameTo base.1 (zW H0 hs b) (zW H0 hs (b+1))∧(zW H0 hs b).length≤(zW H0 hs (b+1)).length:=by
    rw[Nat.zero_add] at hN
    cases hvb:hv.contains b with
    | true =>
     exact ⟨(zDV hN).1.le (z4l hvb),(zDV hN).2⟩
    | false =>
     rw[hvb] at hN
     rw[zDv hN]
     exact ⟨fun _ _=>rfl,Nat.le_refl _⟩
   obtain ⟨h3,h4⟩:=h34
   exact ⟨fun id hid=>(h3 id hid).trans (h1 id hid),by omega⟩
  ·obtain rfl:a=b+1:=by omega
   exact ⟨fun _ _=>rfl,Nat.le_refl _⟩
theorem zCA {base:Nat×Nat} {l:List Oper} {xs:List HV} {hs:List Heap} {T:Nat→HV} {H0:Heap} (hc:zF1 P base hv all 0 l T H0 xs hs):∀(b a:Nat),a≤b→b≤l.length→(∀(j:Nat),a≤j→j<b→hv.contains j=true→hv.contains (2000+j)=true→False)→SameTo base.2 (zW H0 hs a) (zW H0 hs b)∧(zW H0 hs a).length≤(zW H0 hs b).length:=by
 intro b
 induction b with
 | zero=>intro a ha _ _;obtain rfl:a=0:=(by omega);exact ⟨fun _ _=>rfl,Nat.le_refl _⟩
 | succ b ih =>
  intro a ha hb hq
  rcases Nat.lt_or_ge a (b+1) with h | h
  ·obtain ⟨h1,h2⟩:=ih a (by omega) (by omega) (fun j h1 h2=>hq j h1 (by omega))
   obtain ⟨x,_,hN⟩:=zBv l xs hs 0 b T H0 _ hc (List.getElem?_eq_getElem (show b<l.length by omega))
   have h34:SameTo base.2 (zW H0 hs b) (zW H0 hs (b+1))∧(zW H0 hs b).length≤(zW H0 hs (b+1)).length:=by
    rw[Nat.zero_add] at hN
    cases hvb:hv.contains b with
    | true =>
     exact ⟨(zDV hN).1.le (z2D hvb (fun hw=>hq b (by omega) (by omega) hvb hw)),(zDV hN).2⟩
    | false =>
     rw[hvb] at hN
     rw[zDv hN]
     exact ⟨fun _ _=>rfl,Nat.le_refl _⟩
   obtain ⟨h3,h4⟩:=h34
   exact ⟨fun id hid=>(h3 id hid).trans (h1 id hid),by omega⟩
  ·obtain rfl:a=b+1:=by omega
   exact ⟨fun _ _=>rfl,Nat.le_refl _⟩
theorem zCa {base:Nat×Nat} {l:List Oper} {xs:List HV} {hs:List Heap} {T:Nat→HV} {H0:Heap} (hc:zF1 P base hv all 0 l T H0 xs hs):∀(b a:Nat),a≤b→b≤l.length→(∀(j:Nat),a≤j→j<b→hv.contains j=false)→zW H0 hs b=zW H0 hs a:=by
 intro b
 induction b with
 | zero=>intro a ha _ _;obtain rfl:a=0:=(by omega);rfl
 | succ b ih =>
  intro a ha hb hq
  rcases Nat.lt_or_ge a (b+1) with h | h
  ·have h1:=ih a (by omega) (by omega) fun j h1 h2=>hq j h1 (by omega)
   have ho:l[b]?=some l[b]:=List.getElem?_eq_getElem (show b<l.length by omega)
   obtain ⟨x,_,hN⟩:=zBv l xs hs 0 b T H0 _ hc ho
   rw[Nat.zero_add,hq b (by omega) (by omega)] at hN
   rw[zDv hN,h1]
  ·obtain rfl:a=b+1:=by omega
   rfl
end
section
variable {P:Program} {N L B base:Nat} {Z:Nat→Prop} {G:List (Option OG)} {FP:Nat→List Nat} {ds:List Nat} {T:Nat→HV} {H H' : Heap} {a:Act} {w:World} {ro:Option Nat} {mm:Nat}
theorem zNW {o:Oper} {x:HV} (hok:zH N o=true) (hn:zAD o=true) (hc:zVV P base T H o.op x H'):HO P N L o T H (fun T' H''=>T'=updO T o.dst x∧H''=H'):=by
 have hnd:=zBC hn
 have hdst:∀i,o.dst=some i→i<N:=fun i hi=>by
  have:=hok;simp only[zH,zBR,hi,Bool.and_eq_true,decide_eq_true_eq] at this;exact this.1
 rcases hc.2.2 with ⟨f,args,tys,fid,caps,n,R,args',hop,hf,h1,h2,h3⟩ | ⟨rv,name,args,tys,t,y,fid,n,R,args',hop,hf,hm,h1,h2,h3⟩ | ⟨p,hp,hr⟩
 ·exact zJ9 hop hok hf (zHp h1 h2) (fun r H2 hq _=>by
   obtain ⟨rfl,rfl⟩:=hq
   rw[h3];exact ⟨rfl,rfl⟩)
 ·exact zEd hop hok hf hm (zHp h1 h2) (fun r H2 hq _=>by
   obtain ⟨rfl,rfl⟩:=hq
   rw[h3];exact ⟨rfl,rfl⟩)
 ·exact zDU hnd hdst (zLl hok (by rw[hr];exact ⟨hp,rfl,rfl⟩))
def yBz (P:Program) (N L B:Nat) (ds:List Nat) (G:List (Option OG)) (Z:Nat→Prop) (FP:Nat→List Nat) (w:World) (T:Nat→HV) (H:Heap) (K:Act→World→Prop):Prop :=
 ∀Z' G' FP' a' w',St N B Z' G' FP' ds T H a' w'→GLt L G G'→Evo Z FP w Z' FP' w'→K a' w'
theorem zE7 {all:List Oper} {j:Nat} {o:Oper} {x:HV} {K:Act→World→Prop} {Q' : Exit→Act→World→Prop} {Hc Hn:Heap} {h0:Bool} (hall:all.all (zBR N)=true) (hj:all[j]?=some o) (hok:zH N o=true) (hn:zAD o=true) (hc:zEe P base h0 all T H o x H')
  (hs:St N B Z G FP ds T Hc a w) (hB:Bo ro B FP w) (hL:L≤G.length)
  (hq:h0=false→Hn=Hc∧SameTo base H Hc) (hh:h0=true→Hc=H∧Hn=H')
  (hK:yBz P N L B ds G Z FP w (updO T o.dst x) Hn K):wpOpIn (Wd ro) mm P all.toArray Q' j K a w:=by
 have hdst:∀i,o.dst=some i→i<N:=fun i hi=>by
  have:=hok;simp only[zH,zBR,hi,Bool.and_eq_true,decide_eq_true_eq] at this;exact this.1
 have run:zFP P base h0 T H o.op x H'→o.wpIn (Wd ro) mm P a w K Q':=fun hM=>by
  cases h0 with
  | true =>
   obtain ⟨rfl,rfl⟩:=hh rfl
   unfold zFP at hM
   rw[if_pos rfl] at hM
   refine zNW (L:=L) hok hn hM ro mm B Z G FP ds a w hB hL hs K Q' ?_
   rintro a' w' ⟨T2,H2,Z',G',FP',⟨rfl,rfl⟩,hs',hG',hE'⟩
   exact hK Z' G' FP' a' w' hs' hG' hE'
  | false =>
   obtain ⟨rfl,hR⟩:=hq rfl
   unfold zFP at hM
   simp only[Bool.false_eq_true,if_false] at hM
   exact zGu hok hn (zNh hR hM.1) hs (fun Z' G' FP' a' w' h1 h2 h3=>hK Z' G' FP' a' w' h1 (GLt.of hL h2) h3)
 have noRun:x=.v undef→H'=H→K (a.put o.dst undef) w:=fun hx hHH=>by
  have e:Hn=Hc:=by
   cases h0 with
   | true=>obtain ⟨rfl,rfl⟩:=hh rfl;exact hHH
   | false=>exact (hq rfl).1
  subst hx
  rw[e] at hK
  exact hK _ _ _ _ _ (hs.drop o.dst hdst) (GLt.refl hL) (Evo.refl _ _ _)
 unfold wpOpIn
 rw[List.getElem?_toArray,hj]
 dsimp only
 unfold zEe at hc
 split at hc
 ·rename_i hg
  simp only[Region.wanted,hg,if_true]
  exact run hc
 ·rename_i k b hg
  obtain ⟨t,ht,hc⟩:=hc
  rcases hc with ⟨c,h1,h2,h3⟩ | ⟨ts,h1,h4,h5⟩
  ·have hy:yielded all.toArray a.tmps k=some c:=hs.yields hall (by rw[zAd ht];exact h1)
   have hw:Region.wanted o (yielded all.toArray a.tmps)=(c == b):=by
    simp only[Region.wanted,hg,hy]
    cases c <;> cases b <;> rfl
   rw[hw]
   by_cases hcb:c=b
   ·rw[if_pos (by simp[hcb])]
    exact run (h2 hcb)
   ·have hc:c=(!b):=by cases c <;> cases b <;> simp_all
    rw[if_neg (by simp[hcb])]
    exact ⟨fun _ _=>trivial,noRun (h3 hc).1 (h3 hc).2⟩
  ·have hy:yielded all.toArray a.tmps k=none:=hs.yieldsNo hall (by rw[zAd ht];exact h1)
   have hw:Region.wanted o (yielded all.toArray a.tmps)=false:=by
    simp only[Region.wanted,hg,hy]
    cases b <;> rfl
   rw[hw,if_neg (by simp)]
   exact ⟨fun _ _=>trivial,noRun h4 h5⟩
end
end Go.Proofs.YtoknohandclcbaaGreat
namespace Go.Proofs.YtoknohandclcbaaGreat
open Go.RowKit
def zYb (N m:Nat) (hv:List Nat) (all:List Oper):Bool :=
 let bs:=befs all []
 (all.all fun o=>zH N o && zAD o) &&
 (all.zipIdx.all fun (o,j)=>(o.after.toList.all fun e=>!Region.binds .any e || decide (e.on<j)) &&
  (all.zipIdx.all fun (o',i)=>!decide (i<j) || (!(decide (m≤j) || zBT all o' o || (hv.contains i && hv.contains j) || (hv.contains (2000+i) && hv.contains (1000+j)) || (hv.contains (1000+i) && hv.contains (2000+j)))) || zAa bs i j))
structure AnyOk3 (N m:Nat) (hv:List Nat) (all:List Oper):Prop where
 base:AnyOk N m all
 od1:∀(i j:Nat) o' o,i<j→all[i]?=some o'→all[j]?=some o→hv.contains (2000+i)=true→hv.contains (1000+j)=true→zAa (befs all []) i j=true
 od2:∀(i j:Nat) o' o,i<j→all[i]?=some o'→all[j]?=some o→hv.contains (1000+i)=true→hv.contains (2000+j)=true→zAa (befs all []) i j=true
 hv:∀(i j:Nat) o' o,i<j→all[i]?=some o'→all[j]?=some o→hv.contains i=true→hv.contains j=true→zAa (befs all []) i j=true
theorem zIJ {N m:Nat} {hv:List Nat} {all:List Oper} (h:zYb N m hv all=true):AnyOk3 N m hv all:=by
 simp only[zYb,Bool.and_eq_true] at h
 obtain ⟨h1,h2⟩:=h
 rw[List.all_eq_true] at h1 h2
 have mem:∀{j:Nat} {o:Oper},all[j]?=some o→(o,j)∈all.zipIdx:=fun {j o} hj=>by
  rw[List.mem_zipIdx_iff_getElem?];exact hj
 have key:∀(i j:Nat) o' o,i<j→all[i]?=some o'→all[j]?=some o→(decide (m≤j) || zBT all o' o || (hv.contains i && hv.contains j) || (hv.contains (2000+i) && hv.contains (1000+j)) || (hv.contains (1000+i) && hv.contains (2000+j)))=true→zAa (befs all []) i j=true:=by
  intro i j o' o hij hi hj hc
  have:=h2 (o,j) (mem hj)
  simp only[Bool.and_eq_true,List.all_eq_true] at this
  have:=this.2 (o',i) (mem hi)
  simp only[hij,decide_true,Bool.not_true,Bool.false_or] at this
  rw[hc] at this
  simpa using this
 refine ⟨⟨fun j o hj=>?_,fun j o hj e he hb=>?_,fun i j o' o hij hi hj hc=>?_⟩,fun i j o' o hij hi hj h1 h2=>key i j o' o hij hi hj (by rw[h1,h2];simp),fun i j o' o hij hi hj h1 h2=>key i j o' o hij hi hj (by rw[h1,h2];simp),fun i j o' o hij hi hj h1 h2=>key i j o' o hij hi hj (by rw[h1,h2];simp)⟩
 ·have:=h1 o (List.mem_of_getElem? hj)
  simpa using this
 ·have:=h2 (o,j) (mem hj)
  simp only[Bool.and_eq_true,List.all_eq_true] at this
  have:=this.1 e he
  simp only[hb,Bool.not_true,Bool.false_or,decide_eq_true_eq] at this
  exact this
 ·refine key i j o' o hij hi hj ?_
  rcases hc with hc | hc
  ·simp[hc]
  ·simp[hc]
section go
variable {P:Program} {N L m mm B:Nat} {base:Nat×Nat} {hv:List Nat} {ro:Option Nat} {all:List Oper} {Φ:Exit→Act→World→Prop}
theorem z2E (hA:AnyOk3 N m hv all) {Z0:Nat→Prop} {G0:List (Option OG)} {FP0:Nat→List Nat} {ds:List Nat} {T0:Nat→HV} {H0:Heap} {xs:List HV} {hs:List Heap} {w0:World} (hc0:zF1 P base hv all 0 (all.take m) T0 H0 xs hs) (hml:m≤all.length)
  (hB:∀Z FP w,Evo Z0 FP0 w0 Z FP w→Bo ro B FP w)
  (hend:∀Z G FP a w,St N B Z G FP ds (runM (fun _=>true) 0 (all.take m) xs T0) (zW H0 hs m) a w→GLt L G0 G→Evo Z0 FP0 w0 Z FP w→wpListIn (Wd ro) mm P all.toArray Φ (all.drop m) a w) :
  ∀(fuel:Nat) (listed:Array Bool) (c:Nat) (Z:Nat→Prop) (G:List (Option OG)) (FP:Nat→List Nat) (a:Act) (w:World),listed.size=all.length→left listed≤fuel→zCD all listed→(∀j,m≤j→j<all.length→listed.getD j false=false)→
  c≤m→(∀(j:Nat),j<m→hv.contains j=true→(listed.getD j false=true↔j<c))→
  St N B Z G FP ds (runM (fun k=>listed.getD k false) 0 (all.take m) xs T0) (zW H0 hs c) a w→GLt L G0 G→Evo Z0 FP0 w0 Z FP w→wpAnyIn (Wd ro) mm P .any all.toArray Φ fuel listed a w:=by
 have hlm:(all.take m).length=m:=by rw[List.length_take];omega
 have fin:∀(listed:Array Bool) (c:Nat) (Z:Nat→Prop) (G:List (Option OG)) (FP:Nat→List Nat) (a:Act) (w:World),c≤m→(∀k,k<m→listed.getD k false=true)→(∀(j:Nat),j<m→hv.contains j=true→(listed.getD j false=true↔j<c))→
   St N B Z G FP ds (runM (fun k=>listed.getD k false) 0 (all.take m) xs T0) (zW H0 hs c) a w→GLt L G0 G→Evo Z0 FP0 w0 Z FP w→wpListIn (Wd ro) mm P all.toArray Φ (all.drop m) a w:=by
  intro listed c Z G FP a w hcm hall hcl hs' hG hE
  have hTe:runM (fun k=>listed.getD k false) 0 (all.take m) xs T0=runM (fun _=>true) 0 (all.take m) xs T0:=by
   funext t
   refine zBG _ _ _ _ _ rfl fun j hj=>?_
   obtain ⟨oj,h1,h2,h3⟩:=zB9 hj
   simp only[Nat.zero_add]
   exact hall j h3
  have hHe:zW H0 hs m=zW H0 hs c:=zCa hc0 m c hcm (by omega) fun j h1 h2=>by
   cases hv' : hv.contains j with
   | false=>rfl
   | true=>have:=(hcl j h2 hv').1 (hall j h2);omega
  exact hend Z G FP a w (by rw[←hTe,hHe];exact hs') hG hE
 intro fuel
 induction fuel with
 | zero =>
  intro listed c Z G FP a w hsz hf hc hm hcm hcl hs' hG hE
  have hall:=zBp (Nat.le_zero.1 hf)
  have hml' : all.length≤m:=by
   rcases Nat.lt_or_ge m all.length with h | h
   ·have h1:=hm m (Nat.le_refl _) h
    rw[hall m (by omega)] at h1;cases h1
   ·exact h
  have hno:Region.ready .any all.toArray listed=[]:=by
   rw[List.eq_nil_iff_forall_not_mem]
   intro i hi
   obtain ⟨h1,o,ho,_⟩:=mem_ready.1 hi
   rw[List.getElem?_toArray] at ho
   have hi':=(List.getElem?_eq_some_iff.1 ho).1
   have h2:=hall i (by omega)
   rw[Array.getD_eq_getD_getElem?,zAJ h1] at h2
   simp at h2
  refine ⟨hno,?_⟩
  have:=fin listed c Z G FP a w hcm (fun k hk=>hall k (by omega)) hcl hs' hG hE
  rw[List.drop_eq_nil_of_le hml'] at this
  exact this
 | succ fuel ih =>
  intro listed c Z G FP a w hsz hf hc hm hcm hcl hs' hG hE
  by_cases hall:∀k,k<m→listed.getD k false=true
  ·have h:=fin listed c Z G FP a w hcm hall hcl hs' hG hE
   refine zFl hA.base (all.drop m) m (fuel+1) listed a w rfl (Nat.le_refl _) hml hsz hf hc (fun i hi=>⟨fun hx=>?_,fun hx=>hall i hx⟩) h
   rcases Nat.lt_or_ge i m with h' | h'
   ·exact h'
   ·rw[hm i h' hi] at hx;cases hx
  ·have hex:∃k,k<m∧listed.getD k false=false:=by
    apply Classical.byContradiction
    intro hn
    refine hall fun k h1=>?_
    cases hx:listed.getD k false with
    | true=>rfl
    | false=>exact absurd ⟨k,h1,hx⟩ hn
   obtain ⟨k,⟨hk1,hk3⟩,hkl⟩:=zU (p:=fun k=>k<m∧listed.getD k false=false) hex
   have hkr:k∈Region.ready .any all.toArray listed:=zAh hA.base hsz (by omega) hk3 (fun j hj=>by
    cases hx:listed.getD j false with
    | true=>rfl
    | false=>have:=hkl j ⟨by omega,hx⟩;omega)
   refine ⟨fun h0=>by rw[h0] at hkr;simp at hkr,fun i hi=>?_⟩
   obtain ⟨h1,o,ho,ha⟩:=mem_ready.1 hi
   rw[List.getElem?_toArray] at ho
   have hil:=(List.getElem?_eq_some_iff.1 ho).1
   have hnl:=zAJ h1
   have hnf:listed.getD i false=false:=by rw[Array.getD_eq_getD_getElem?,hnl];rfl
   have him:i<m:=by
    rcases Nat.lt_or_ge i m with h' | h'
    ·exact h'
    ·have:=z6 hA.base hc hi (hA.base.ord k i _ o (by omega) (List.getElem?_eq_getElem (show k<all.length by omega)) ho (.inl h'))
     rw[hk3] at this;cases this
   have hoT:(all.take m)[i]?=some o:=by rw[List.getElem?_take,if_pos him];exact ho
   obtain ⟨x,hx,hcert⟩:=zBv (all.take m) xs hs 0 i T0 H0 o hc0 hoT
   obtain ⟨hok,hnd⟩:=hA.base.ok i o ho
   have hsee:∀t∈zBY all o,runM (fun k=>decide (k<0+i)) 0 (all.take m) xs T0 t=runM (fun k=>listed.getD k false) 0 (all.take m) xs T0 t:=by
    intro t ht
    refine zBG _ _ _ _ _ rfl fun j hj=>?_
    obtain ⟨oj,hoj,hd,hjm⟩:=zB9 hj
    simp only[Nat.zero_add]
    rcases Nat.lt_trichotomy j i with h' | h' | h'
    ·have:=z6 hA.base hc hi (hA.base.ord j i oj o h' hoj ho (.inr (by simp[zBT,hd,ht])))
     rw[this];simp[h']
    ·subst h';rw[hnf];simp
    ·have hjl:=(List.getElem?_eq_some_iff.1 hoj).1
     cases hx:listed.getD j false with
     | false=>simp;omega
     | true =>
      have:=zAL hA.base hc j i oj hoj (hc j oj hoj hx) (hA.base.ord i j o oj h' ho hoj (.inr (by
       unfold zBT
       rw[hd]
       simp[ht])))
      rw[hnf] at this;cases this
   have hcert':=zCi hsee hcert
   rw[Nat.zero_add] at hcert'
   have hdall:all.all (zBR N)=true:=by
    rw[List.all_eq_true]
    intro o' ho'
    obtain ⟨j',hj'⟩:=List.mem_iff_getElem?.1 ho'
    have:=(hA.base.ok j' o' hj').1
    simp only[zH,Bool.and_eq_true] at this
    exact this.1
   have heavyAt:hv.contains i=true→zW H0 hs c=zW H0 hs i∧c≤i:=fun hvi=>by
    have hci:c≤i:=by
     rcases Nat.lt_or_ge i c with h | h
     ·have:=(hcl i him hvi).2 h;rw[hnf] at this;cases this
     ·exact h
    refine ⟨(zCa hc0 i c hci (by omega) fun j h1 h2=>?_).symm,hci⟩
    cases hv' : hv.contains j with
    | false=>rfl
    | true =>
     have:=z6 hA.base hc hi (hA.hv j i _ o h2 (List.getElem?_eq_getElem (show j<all.length by omega)) ho hv' hvi)
     have:=(hcl j (by omega) hv').1 this
     omega
   have hquiet0:SameTo base.1 (zW H0 hs i) (zW H0 hs c):=by
    rcases Nat.lt_or_ge i c with h | h
    ·exact (zCb hc0 c i (by omega) (by omega)).1
    ·intro id hid
     exact ((zCb hc0 i c h (by omega)).1 id hid).symm
   have hquiet:hv.contains i=false→SameTo (bsO hv base i) (zW H0 hs i) (zW H0 hs c):=fun hvi0=>by
    cases hod:hv.contains (1000+i) with
    | false =>
     have:bsO hv base i=base.1:=by unfold bsO;rw[if_neg (by rw[hvi0];simp),if_neg (by rw[hod];simp)]
     rw[this];exact hquiet0
    | true =>
     have:bsO hv base i=base.2:=by unfold bsO;rw[if_neg (by rw[hvi0];simp),if_pos hod]
     rw[this]
     rcases Nat.lt_or_ge i c with h | h
     ·refine (zCA hc0 c i (by omega) (by omega) fun j h1 h2 hv' hw=>?_).1
      have hjl:j<all.length:=by omega
      have hlj:=(hcl j (by omega) hv').2 h2
      rcases Nat.lt_or_ge i j with h3 | h3
      ·have:=zAL hA.base hc j i all[j] (List.getElem?_eq_getElem hjl) (hc j all[j] (List.getElem?_eq_getElem hjl) hlj) (hA.od2 i j o all[j] h3 ho (List.getElem?_eq_getElem hjl) hod hw)
       rw[hnf] at this;cases this
      ·obtain rfl:i=j:=by omega
       rw[hnf] at hlj;cases hlj
     ·intro id hid
      refine ((zCA hc0 i c h (by omega) fun j h1 h2 hv' hw=>?_).1 id hid).symm
      have:=z6 hA.base hc hi (hA.od1 j i _ o h2 (List.getElem?_eq_getElem (show j<all.length by omega)) ho hw hod)
      have:=(hcl j (by omega) hv').1 this
      omega
   have hadd:=zC9 hnl
   have hcl2:=zBD hc (fun o' ho' e he hb=>by rw[ho] at ho';cases ho';exact ha e (by simpa using he) hb)
   have hT:runM (fun k=>(listed.setIfInBounds i true).getD k false) 0 (all.take m) xs T0=updO (runM (fun k=>listed.getD k false) 0 (all.take m) xs T0) o.dst x:=by
    refine zBx (all.take m) xs 0 i T0 o x hoT hx ?_ ?_ ?_ ?_
    ·simp only[Nat.zero_add];exact zAH (by omega)
    ·simp only[Nat.zero_add];exact hnf
    ·intro k hk
     simp only[Nat.zero_add] at hk
     simp only[Array.getD_eq_getD_getElem?,Array.getElem?_setIfInBounds_ne (Ne.symm hk)]
    ·intro k hk hS t ht hdk
     simp only[Nat.zero_add] at hS
     obtain ⟨ok,hok',hd,_⟩:=zB9 hdk
     have:=zAL hA.base hc k i ok hok' (hc k ok hok' hS) (hA.base.ord i k o ok hk ho hok' (.inr (by
      unfold zBT
      rw[ht]
      simp[hd])))
     rw[hnf] at this;cases this
   have hm2:∀j,m≤j→j<all.length→(listed.setIfInBounds i true).getD j false=false:=fun j h1 h2=>by
    cases hx:(listed.setIfInBounds i true).getD j false with
    | false=>rfl
    | true =>
     rcases zT hx with rfl | hx
     ·omega
     ·rw[hm j h1 h2] at hx;cases hx
   cases hvi:hv.contains i with
   | true =>
    rw[hvi] at hcert'
    obtain ⟨hHc,hci⟩:=heavyAt hvi
    refine zE7 (L:=L) (Hn:=zW H0 hs (i+1)) hdall ho hok hnd hcert' hs' (hB Z FP w hE) hG.len (fun h=>by cases h) (fun _=>⟨hHc,rfl⟩) fun Z' G' FP' a' w' hs2 hG' hE'=>?_
    refine ih (listed.setIfInBounds i true) (i+1) Z' G' FP' a' w' (by simpa using hsz) (by omega) hcl2 hm2 (by omega) (fun j hj hv'=>?_) (by rw[hT];exact hs2) (hG.trans hG') (hE.trans hE')
    constructor
    ·intro hxx
     rcases zT hxx with rfl | hxx
     ·omega
     ·have:=(hcl j hj hv').1 hxx;omega
    ·intro hlt
     by_cases e:j=i
     ·subst e;exact zAH (by omega)
     ·refine zAA ?_
      exact z6 hA.base hc hi (hA.hv j i _ o (by omega) (List.getElem?_eq_getElem (show j<all.length by omega)) ho hv' hvi)
   | false =>
    rw[hvi] at hcert'
    refine zE7 (L:=L) (Hn:=zW H0 hs c) hdall ho hok hnd hcert' hs' (hB Z FP w hE) hG.len (fun _=>⟨rfl,hquiet hvi⟩) (fun h=>by cases h) fun Z' G' FP' a' w' hs2 hG' hE'=>?_
    refine ih (listed.setIfInBounds i true) c Z' G' FP' a' w' (by simpa using hsz) (by omega) hcl2 hm2 hcm (fun j hj hv'=>?_) (by rw[hT];exact hs2) (hG.trans hG') (hE.trans hE')
    rw[←hcl j hj hv']
    constructor
    ·intro hxx
     rcases zT hxx with rfl | hxx
     ·rw[hvi] at hv';cases hv'
     ·exact hxx
    ·exact zAA
end go
section
variable {P:Program} {N L base:Nat} {hv:List Nat} {Q:Exit→KS} {H:Heap}
def isTo:Nat→Heap→Heap→Prop
 | 0,_,_=>True
 | m+1,a::t,b::u=>a=b∧isTo m t u
 | _,_,_=>False
theorem zK9:∀{m:Nat} {H H' : Heap},isTo m H H'→SameTo m H H'
 | 0,_,_,_=>fun id h=>absurd h (Nat.not_lt_zero _)
 | m+1,a::t,b::u,h=>by
  obtain ⟨rfl,h⟩:=h
  intro id hid
  cases id with
  | zero=>rfl
  | succ id=>simpa using zK9 h id (by omega)
 | _+1,[],_,h=>by simp[isTo] at h
 | _+1,_::_,[],h=>by simp[isTo] at h
def exRm (k:KS) (base:Nat) (res:Res) (d:Option Nat) (T:Nat→HV) (H:Heap):Prop:=onR res fun x H'=>isTo base H H'∧H.length≤H'.length∧k (updO T d x) H'
def exRn (k:KS) (res:Res) (d:Option Nat) (T:Nat→HV) (H:Heap):Prop:=onR res fun x _=>k (updO T d x) H
def zJV (k:KS) (P:Program) (fid:Nat) (H:Heap) (args:List HV) (d:Option Nat) (T:Nat→HV):Prop :=
 ∃n R args',HFn P fid args' R∧zEc n H args args' R∧k (updO T d (zAO R H).1) (zAO R H).2
def zDn (k:KS) (P:Program) (f:HV) (H:Heap) (args:List HV) (d:Option Nat) (T:Nat→HV):Prop :=
 match f with
 | .fn fid caps=>zJV k P (fnF fid) H (fnA fid .any args caps) d T
 | _=>False
def zFH (k:KS) (P:Program) (f:Option Nat) (H:Heap) (args:List HV) (d:Option Nat) (T:Nat→HV):Prop :=
 match f with
 | some fid=>zJV k P fid H args d T
 | none=>False
def zIB (k:KS) (P:Program) (rv:HV) (name:String) (H:Heap) (args:List HV) (d:Option Nat) (T:Nat→HV):Prop :=
 match rv with
 | .ic t x=>zFH k P (zAe P t name) H (x::args) d T
 | _=>False
def zLZ (k:KS) (P:Program) (fid:Nat) (H:Heap) (args:List HV) (d:Option Nat) (T:Nat→HV):Prop :=
 ∃R,HFn P fid args R∧nmL 0 args=true∧k (updO T d (fzo R)) H
def zDm (k:KS) (P:Program) (f:HV) (H:Heap) (args:List HV) (d:Option Nat) (T:Nat→HV):Prop :=
 match f with
 | .fn fid caps=>zLZ k P (fnF fid) H (fnA fid .any args caps) d T
 | _=>False
def zFG (k:KS) (P:Program) (f:Option Nat) (H:Heap) (args:List HV) (d:Option Nat) (T:Nat→HV):Prop :=
 match f with
 | some fid=>zLZ k P fid H args d T
 | none=>False
def zIA (k:KS) (P:Program) (rv:HV) (name:String) (H:Heap) (args:List HV) (d:Option Nat) (T:Nat→HV):Prop :=
 match rv with
 | .ic t x=>zFG k P (zAe P t name) H (x::args) d T
 | _=>False
def exOm (k:KS) (P:Program) (base:Nat) (d:Option Nat) (op:Op) (T:Nat→HV) (H:Heap):Prop :=
 match op with
 | .call { callee:=.value f,args:=args,argTypes:=_ }=>base≤H.length∧zDn k P (hev T f) H (args.toList.map (hev T)) d T
 | .call { callee:=.invoke rv name,args:=args,argTypes:=_ }=>base≤H.length∧zIB k P (hev T rv) name H (args.toList.map (hev T)) d T
 | op=>exRm k base (rop P T H op) d T H
def exOn (k:KS) (P:Program) (base:Nat) (d:Option Nat) (op:Op) (T:Nat→HV) (H:Heap):Prop :=
 match op with
 | .call { callee:=.value f,args:=args,argTypes:=_ }=>zDm k P (hev T f) H (args.toList.map (hev T)) d T
 | .call { callee:=.invoke rv name,args:=args,argTypes:=_ }=>zIA k P (hev T rv) name H (args.toList.map (hev T)) d T
 | .buildSlice t len parts=>exRn k (zAE P T H t len parts.toList) d T H
 | op=>(zBw op=true∨(op.operands.toList.all fun y=>nm base (hev T y))=true)∧exRn k (ropQ P T H op) d T H
def exOe (k:KS) (P:Program) (base:Nat) (h:Bool) (d:Option Nat) (op:Op) (T:Nat→HV) (H:Heap):Prop :=
 match h with
 | true=>exOm k P base d op T H
 | false=>exOn k P base d op T H
def zDp (k:KS) (P:Program) (base:Nat) (h:Bool) (v:HV) (b:Bool) (d:Option Nat) (op:Op) (T:Nat→HV) (H:Heap):Prop :=
 match v with
 | .v (.bool c)=>(c=b→exOe k P base h d op T H)∧(c=(!b)→k (updO T d (.v undef)) H)
 | .v (.tuple _)=>k (updO T d (.v undef)) H
 | _=>False
def exBm (k:KS) (P:Program) (base:Nat) (h:Bool) (t:Option Nat) (b:Bool) (d:Option Nat) (op:Op) (T:Nat→HV) (H:Heap):Prop :=
 match t with
 | some t=>zDp k P base h (T t) b d op T H
 | none=>False
def exGm (P:Program) (base:Nat) (h:Bool) (all:List Oper) (o:Oper) (k:KS) (T:Nat→HV) (H:Heap):Prop :=
 match o.guard with
 | none=>exOe k P base h o.dst o.op T H
 | some (j,b)=>exBm k P base h (zA8 all j) b o.dst o.op T H
def exM (P:Program) (base:Nat×Nat) (hv:List Nat) (all:List Oper) (k:KS):Nat→List Oper→KS
 | _,[]=>k
 | j,o::l=>fun T H=>exGm P (bsO hv base j) (hv.contains j) all o (exM P base hv all k (j+1) l) T H
theorem zUS {k:KS} {d:Option Nat} {op:Op} {T:Nat→HV} (h:exOm k P base d op T H):∃x H',zVV P base T H op x H'∧k (updO T d x) H':=by
 have named:∀(R:HV),base≤H.length→SameTo base H (zAO R H).2∧H.length≤(zAO R H).2.length:=fun R hb=>by
  obtain ⟨B,hB⟩:=zKZ R H
  rw[hB]
  exact ⟨SameTo.app B hb,by simp⟩
 unfold exOm at h
 split at h
 ·rename_i f args tys
  obtain ⟨hb,h⟩:=h
  unfold zDn at h
  split at h
  ·rename_i fid caps hf
   obtain ⟨n,R,args',h1,h2,h3⟩:=h
   obtain ⟨k1,k2⟩:=named R hb
   exact ⟨_,_,⟨k1,k2,.inl ⟨f,args,tys,fid,caps,n,R,args',rfl,hf,h1,h2,rfl⟩⟩,h3⟩
  ·exact h.elim
 ·rename_i rv name args tys
  obtain ⟨hb,h⟩:=h
  unfold zIB at h
  split at h
  ·rename_i t y hf
   unfold zFH at h
   split at h
   ·rename_i fid hm
    obtain ⟨n,R,args',h1,h2,h3⟩:=h
    obtain ⟨k1,k2⟩:=named R hb
    exact ⟨_,_,⟨k1,k2,.inr (.inl ⟨rv,name,args,tys,t,y,fid,n,R,args',rfl,hf,hm,h1,h2,rfl⟩)⟩,h3⟩
   ·exact h.elim
  ·exact h.elim
 ·unfold exRm at h
  cases hr:rop P T H op with
  | none=>rw[hr] at h;exact h.elim
  | some q =>
   obtain ⟨p,x,H'⟩:=q
   rw[hr] at h
   exact ⟨x,H',⟨zK9 h.2.1,h.2.2.1,.inr (.inr ⟨p,h.1,hr⟩)⟩,h.2.2.2⟩
theorem zUP {k:KS} {d:Option Nat} {op:Op} {T:Nat→HV} (h:exOn k P base d op T H):∃x,zVU P base T H op x∧k (updO T d x) H:=by
 unfold exOn at h
 split at h
 ·rename_i f args tys
  unfold zDm at h
  split at h
  ·rename_i fid caps hf
   obtain ⟨R,h1,h2,h3⟩:=h
   exact ⟨_,.inr (.inl ⟨f,args,tys,fid,caps,R,rfl,hf,h1,h2,rfl⟩),h3⟩
  ·exact h.elim
 ·rename_i rv name args tys
  unfold zIA at h
  split at h
  ·rename_i t y hf
   unfold zFG at h
   split at h
   ·rename_i fid hm
    obtain ⟨R,h1,h2,h3⟩:=h
    exact ⟨_,.inr (.inr (.inl ⟨rv,name,args,tys,t,y,fid,R,rfl,hf,hm,h1,h2,rfl⟩)),h3⟩
   ·exact h.elim
  ·exact h.elim
 ·rename_i t len parts
  unfold exRn at h
  cases hr:zAE P T H t len parts.toList with
  | none=>rw[hr] at h;exact h.elim
  | some q =>
   obtain ⟨p,x,H'⟩:=q
   rw[hr] at h
   exact ⟨x,.inr (.inr (.inr ⟨t,len,parts,p,H',rfl,h.1,hr⟩)),h.2⟩
 ·obtain ⟨hi,h⟩:=h
  unfold exRn at h
  cases hr:ropQ P T H op with
  | none=>rw[hr] at h;exact h.elim
  | some q =>
   obtain ⟨p,x,H'⟩:=q
   rw[hr] at h
   exact ⟨x,.inl ⟨p,H',h.1,hr,hi.imp id fun hi y hy=>List.all_eq_true.1 hi y hy⟩,h.2⟩
theorem zKw {k:KS} {d:Option Nat} {h0:Bool} {op:Op} {T:Nat→HV} (h:exOe k P base h0 d op T H):∃x H',zFP P base h0 T H op x H'∧k (updO T d x) H':=by
 cases h0 with
 | true=>exact zUS h
 | false =>
  obtain ⟨x,h1,h2⟩:=zUP h
  exact ⟨x,H,⟨h1,rfl⟩,h2⟩
theorem zU7 {all:List Oper} {h0:Bool} {o:Oper} {k:KS} {T:Nat→HV} (h:exGm P base h0 all o k T H):∃x H',zEe P base h0 all T H o x H'∧k (updO T o.dst x) H':=by
 unfold exGm at h
 unfold zEe
 split at h
 ·rename_i hg
  try rw[hg]
  exact zKw h
 ·rename_i j b hg
  try rw[hg]
  try simp only
  unfold exBm at h
  split at h
  ·rename_i t ht
   unfold zDp at h
   split at h
   ·rename_i c hv
    by_cases hcb:c=b
    ·obtain ⟨x,H',h1,h2⟩:=zKw (h.1 hcb)
     exact ⟨x,H',⟨t,ht,.inl ⟨c,hv,fun _=>h1,fun hc=>by subst hcb;cases c <;> simp at hc⟩⟩,h2⟩
    ·have hc:c=(!b):=by cases c <;> cases b <;> simp_all
     exact ⟨.v undef,H,⟨t,ht,.inl ⟨c,hv,fun hc'=>absurd hc' hcb,fun _=>⟨rfl,rfl⟩⟩⟩,h.2 hc⟩
   ·rename_i ts hv
    exact ⟨.v undef,H,⟨t,ht,.inr ⟨ts,hv,rfl,rfl⟩⟩,h⟩
   ·exact h.elim
  ·exact h.elim
theorem zJL {base:Nat×Nat} {all:List Oper} {k:KS}:∀(l:List Oper) (i:Nat) (T:Nat→HV) (H:Heap),exM P base hv all k i l T H→∃xs hs,zF1 P base hv all i l T H xs hs∧k (runM (fun _=>true) i l xs T) (zW H hs l.length)
 | [],i,T,H,h=>⟨[],[],⟨rfl,rfl⟩,h⟩
 | o::l,i,T,H,h=>by
  obtain ⟨x,H',h1,h2⟩:=zU7 h
  obtain ⟨xs,hs,h3,h4⟩:=zJL l (i+1) _ H' h2
  exact ⟨x::xs,H'::hs,⟨x,H',xs,hs,rfl,rfl,h1,h3⟩,h4⟩
theorem HW.mixed {id:Nat} {all:List Oper} {T:Nat→HV} (n m:Nat) (base:Nat×Nat) (hv:List Nat) (hm:P.follows .mixedOrders=true) (hB:zYb N m hv all=true) (hml:m≤all.length)
  (h:exM P base hv all (ex P N L Q n [.ops all (all.drop m)]) 0 (all.take m) T H):HW P N L (.region id all.toArray true) Q T H:=by
 obtain ⟨xs,hs,hc,hex⟩:=zJL (all.take m) 0 T H h
 have hlm:(all.take m).length=m:=by rw[List.length_take];omega
 rw[hlm] at hex
 intro ro mm B Z G FP ds a w hB' hL hst
 have hA:=zIJ hB
 have hEv:Evo Z FP w Z FP { w with drawn:=w.drawn+1 }:=⟨rfl,rfl,rfl,Nat.le_refl _,fun _ _ _=>rfl,fun _ h=>h,fun _ h=>.inl h,fun id b hb=>.inr ⟨id,hb⟩⟩
 have hi:HInv Z G FP H { w with drawn:=w.drawn+1 }:=hst.inv.keep (Nat.le_refl _) (fun _ _=>rfl)
 have hs':=hst.evo hi (GLe.refl _) hEv
 have hallok:(all.all fun o=>zH N o && zAD o)=true:=by
  rw[List.all_eq_true]
  intro o ho
  obtain ⟨j,hj⟩:=List.mem_iff_getElem?.1 ho
  have:=hA.base.ok j o hj
  simp[this.1,this.2]
 have hdrop:((all.drop m).all fun o=>zH N o && zAD o)=true:=by
  rw[List.all_eq_true]
  intro o ho
  exact List.all_eq_true.1 hallok o (List.mem_of_mem_drop ho)
 refine wpIn_region_any hm ?_
 refine z2E (m:=m) (B:=B) (L:=L) (Z0:=Z) (G0:=G) (FP0:=FP) (ds:=ds) (w0:=w) hA hc hml (fun Z' FP' w' hE=>hB'.evo hE) ?_ _ _ 0 Z G FP _ _ (by simp) ?_ ?_ (fun j h1 h2=>?_) (Nat.zero_le _) (fun j hj hv=>?_) ?_ (GLt.refl hL) hEv
 ·intro Z1 G1 FP1 a1 w1 hs1 hG1 hE1
  have:=zCV n [.ops all (all.drop m)] _ _ hex (by simp[zAq,hallok,hdrop]) ro mm B Z G FP w Z1 G1 FP1 ds a1 w1 (hB'.evo hE1) hs1 hG1 hE1
  simp only[M] at this
  exact this
 ·have:∀k:Nat,left (Array.replicate k false)=k:=by intro k;simp[left]
  rw[this];simp
 ·intro j o hj hl
  exfalso
  have hjl:=(List.getElem?_eq_some_iff.1 hj).1
  simp[Array.getD_eq_getD_getElem?,hjl] at hl
 ·simp[Array.getD_eq_getD_getElem?,h2]
 ·simp[Array.getD_eq_getD_getElem?,show j<all.length by omega]
 ·have e:runM (fun k=>(Array.replicate all.toArray.size false).getD k false) 0 (all.take m) xs T=T:=by
   funext t
   rw[zB2]
   intro j _
   simp only[Array.getD_eq_getD_getElem?]
   by_cases hlt:0+j<all.toArray.size
   ·have:0+j<all.length:=by simpa using hlt
    rw[Array.getElem?_eq_getElem (by simpa using hlt)]
    simp
   ·rw[Array.getElem?_eq_none (by simpa using hlt)];rfl
  rw[e]
  exact hs'
end
end Go.Proofs.YtoknohandclcbaaGreat
namespace Go.Proofs.YtoknohandclcbaaGreat
open Go.RowKit
section
variable {P:Program} {all l:List Oper} {k:KS} {d:Option Nat} {T:Nat→HV} {H:Heap} {base j:Nat} {bs:Nat×Nat} {hv:List Nat} {h:Bool}
theorem z1l:exM P bs hv all k j [] T H=k T H:=rfl
theorem z49 {op:Op} {ty:TypeId} {pos:String} {af:Array Edge}:exM P bs hv all k j (⟨d,op,ty,pos,af,none⟩::l) T H=exOe (exM P bs hv all k (j+1) l) P (bsO hv bs j) (hv.contains j) d op T H:=rfl
theorem z1k {op:Op} {ty:TypeId} {pos:String} {af:Array Edge} {i:Nat} {b:Bool}:exM P bs hv all k j (⟨d,op,ty,pos,af,some (i,b)⟩::l) T H=exBm (exM P bs hv all k (j+1) l) P (bsO hv bs j) (hv.contains j) (zA8 all i) b d op T H:=rfl
theorem zUU {op:Op}:exOe k P base true d op T H=exOm k P base d op T H:=rfl
theorem zQ7 {op:Op}:exOe k P base false d op T H=exOn k P base d op T H:=rfl
theorem zQ8 {h h' : Bool} {op:Op} (e:h=h'):exOe k P base h d op T H=exOe k P base h' d op T H:=by rw[e]
theorem zUg {t:Nat} {b:Bool} {op:Op}:exBm k P base h (some t) b d op T H=zDp k P base h (T t) b d op T H:=rfl
theorem zYF {op:Op}:zDp k P base h (.v (.bool true)) true d op T H=exOe k P base h d op T H:=by simp[zDp]
theorem zYI {op:Op}:zDp k P base h (.v (.bool false)) false d op T H=exOe k P base h d op T H:=by simp[zDp]
theorem zYG {op:Op}:zDp k P base h (.v (.bool true)) false d op T H=k (updO T d (.v undef)) H:=by simp[zDp]
theorem zYH {op:Op}:zDp k P base h (.v (.bool false)) true d op T H=k (updO T d (.v undef)) H:=by simp[zDp]
theorem zNH {b:Bool} {op:Op}:zDp k P base h (.v undef) b d op T H=k (updO T d (.v undef)) H:=rfl
theorem zQo {c b:Bool} {op:Op}:zDp k P base h (.v (.bool c)) b d op T H=((c=b→exOe k P base h d op T H)∧(c=(!b)→k (updO T d (.v undef)) H)):=rfl
theorem z19 {p:Prop} {x:HV} {H' : Heap}:exRn k (rv H' p x) d T H=(p∧k (updO T d x) H):=rfl
theorem zTw:exRn k none d T H=False:=rfl
theorem zTx {p:Prop} {x:HV} {H' : Heap}:exRm k base (some (p,x,H')) d T H=(p∧isTo base H H'∧H.length≤H'.length∧k (updO T d x) H'):=rfl
theorem z1a {p:Prop} {x:HV} {H' : Heap}:exRm k base (rv H' p x) d T H=(p∧isTo base H H'∧H.length≤H'.length∧k (updO T d x) H'):=rfl
theorem zTy:exRm k base none d T H=False:=rfl
theorem zQU {x x' : Res} (e:x=x'):exRn k x d T H=exRn k x' d T H:=by rw[e]
theorem zQV {x x' : Res} (e:x=x'):exRm k base x d T H=exRm k base x' d T H:=by rw[e]
theorem zQn {t t' : Option Nat} {b:Bool} {op:Op} {h h' : Bool} (e:t=t') (e2:h=h'):exBm k P base h t b d op T H=exBm k P base h' t' b d op T H:=by rw[e,e2]
theorem zNI {v v' : HV} {b:Bool} {op:Op} (e:v=v'):zDp k P base h v b d op T H=zDp k P base h v' b d op T H:=by rw[e]
theorem zQj {fid:Nat} {caps args:List HV} (h:fid<4294967296):zDn k P (.fn fid caps) H args d T=zJV k P fid H (args++caps) d T:=by
 show zJV k P (fnF fid) H (fnA fid .any args caps) d T=_
 rw[zGb h,zFV h]
theorem zLL {fid:Nat} {x:HV} {caps args:List HV} (h:¬fid<4294967296):zDn k P (.fn fid (x::caps)) H args d T=zJV k P (fnF fid) H (x::(args++caps)) d T:=by
 show zJV k P (fnF fid) H (fnA fid .any args (x::caps)) d T=_
 rw[zGc h];rfl
theorem zJS {f f' : HV} {args args' : List HV} (hf:f=f') (ha:args=args'):zDn k P f H args d T=zDn k P f' H args' d T:=by rw[hf,ha]
theorem zU4 {t:TypeId} {x:HV} {name:String} {args:List HV}:zIB k P (.ic t x) name H args d T=zFH k P (zAe P t name) H (x::args) d T:=rfl
theorem zLF {fid:Nat} {args:List HV}:zFH k P (some fid) H args d T=zJV k P fid H args d T:=rfl
theorem zLE {f f' : HV} {name:String} {args args' : List HV} (hf:f=f') (ha:args=args'):zIB k P f name H args d T=zIB k P f' name H args' d T:=by rw[hf,ha]
theorem zJO {f f' : Option Nat} {args args' : List HV} (hf:f=f') (ha:args=args'):zFH k P f H args d T=zFH k P f' H args' d T:=by rw[hf,ha]
theorem zQi {fid:Nat} {caps args:List HV} (h:fid<4294967296):zDm k P (.fn fid caps) H args d T=zLZ k P fid H (args++caps) d T:=by
 show zLZ k P (fnF fid) H (fnA fid .any args caps) d T=_
 rw[zGb h,zFV h]
theorem zLK {fid:Nat} {x:HV} {caps args:List HV} (h:¬fid<4294967296):zDm k P (.fn fid (x::caps)) H args d T=zLZ k P (fnF fid) H (x::(args++caps)) d T:=by
 show zLZ k P (fnF fid) H (fnA fid .any args (x::caps)) d T=_
 rw[zGc h];rfl
theorem zJR {f f' : HV} {args args' : List HV} (hf:f=f') (ha:args=args'):zDm k P f H args d T=zDm k P f' H args' d T:=by rw[hf,ha]
theorem zU3 {t:TypeId} {x:HV} {name:String} {args:List HV}:zIA k P (.ic t x) name H args d T=zFG k P (zAe P t name) H (x::args) d T:=rfl
theorem zLD {fid:Nat} {args:List HV}:zFG k P (some fid) H args d T=zLZ k P fid H args d T:=rfl
theorem zLC {f f' : HV} {name:String} {args args' : List HV} (hf:f=f') (ha:args=args'):zIA k P f name H args d T=zIA k P f' name H args' d T:=by rw[hf,ha]
theorem zJN {f f' : Option Nat} {args args' : List HV} (hf:f=f') (ha:args=args'):zFG k P f H args d T=zFG k P f' H args' d T:=by rw[hf,ha]
theorem zUT {f:Operand} {args:List Operand} {tys:Array TypeId}:exOm k P base d (.call { callee:=.value f,args:=List.toArray args,argTypes:=tys }) T H=(base≤H.length∧zDn k P (hev T f) H (args.map (hev T)) d T):=rfl
theorem zMy {rv:Operand} {name:String} {args:List Operand} {tys:Array TypeId}:exOm k P base d (.call { callee:=.invoke rv name,args:=List.toArray args,argTypes:=tys }) T H=(base≤H.length∧zIB k P (hev T rv) name H (args.map (hev T)) d T):=rfl
theorem zUQ {f:Operand} {args:List Operand} {tys:Array TypeId}:exOn k P base d (.call { callee:=.value f,args:=List.toArray args,argTypes:=tys }) T H=zDm k P (hev T f) H (args.map (hev T)) d T:=rfl
theorem zMw {rv:Operand} {name:String} {args:List Operand} {tys:Array TypeId}:exOn k P base d (.call { callee:=.invoke rv name,args:=List.toArray args,argTypes:=tys }) T H=zIA k P (hev T rv) name H (args.map (hev T)) d T:=rfl
theorem zGi {t:TypeId} {len:Nat} {ps:List (Nat×Operand)}:exOn k P base d (.buildSlice t len (List.toArray ps)) T H=exRn k (zAE P T H t len ps) d T H:=rfl
theorem zKC {op:Op} {q:Prop} {b:Bool} (hi:zBw op=false) (hb:(op.operands.toList.all fun y=>nm base (hev T y))=b):((zBw op=true∨(op.operands.toList.all fun y=>nm base (hev T y))=true)∧q)=(b=true∧q):=by
 rw[hi,hb];simp
theorem zCj {op:Op} {q:Prop} {r:Prop} (hi:zBw op=true):((zBw op=true∨r)∧q)=q:=by
 rw[hi];simp
theorem zUK {x:Operand}:exOn k P base d (.move x) T H=exRn k (ropQ P T H (.move x)) d T H:=zCj rfl
theorem zMx {x:Operand}:exOn k P base d (.assign x) T H=exRn k (ropQ P T H (.assign x)) d T H:=zCj rfl
theorem zUJ {c x y:Operand}:exOn k P base d (.pick c x y) T H=exRn k (ropQ P T H (.pick c x y)) d T H:=zCj rfl
theorem zQ4 {t:TypeId} {ps:Array (Nat×Operand)}:exOn k P base d (.build t ps) T H=exRn k (ropQ P T H (.build t ps)) d T H:=zCj rfl
theorem zXp {op:BinOp} {t t' : TypeId} {x y:Operand}:exOn k P base d (.binOp op t x y t') T H=exRn k (ropQ P T H (.binOp op t x y t')) d T H:=zCj rfl
theorem z1e {op:UnOp} {t:TypeId} {x:Operand}:exOn k P base d (.unOp op t x) T H=exRn k (ropQ P T H (.unOp op t x)) d T H:=zCj rfl
theorem zQ2 {t:TypeId} {x:Operand}:exOn k P base d (.makeInterface t x) T H=exRn k (ropQ P T H (.makeInterface t x)) d T H:=zCj rfl
theorem zUL {f:Nat} {x:Operand} {cs:List Operand}:exOn k P base d (.makeFunc (.func f) (List.toArray [x]) (List.toArray cs)) T H=exRn k (ropQ P T H (.makeFunc (.func f) (List.toArray [x]) (List.toArray cs))) d T H:=zCj rfl
theorem zUN {f:Nat} {cs:List Operand}:exOn k P base d (.makeFunc (.func f) #[] (List.toArray cs)) T H=exRn k (ropQ P T H (.makeFunc (.func f) #[] (List.toArray cs))) d T H:=zCj rfl
theorem zQ3 {t:TypeId} {x:Operand} {i:Nat}:exOn k P base d (.field t x i) T H=exRn k (ropQ P T H (.field t x i)) d T H:=zCj rfl
theorem zQ1 {t:TypeId} {x i:Operand}:exOn k P base d (.index t x i) T H=exRn k (ropQ P T H (.index t x i)) d T H:=zCj rfl
theorem zKv {x:Operand} {i:Nat}:exOn k P base d (.extract x i) T H=exRn k (ropQ P T H (.extract x i)) d T H:=zCj rfl
theorem zUM {t:TypeId} {a:Operand}:exOn k P base d (.load t a) T H=(nm base (hev T a)=true∧exRn k (ropQ P T H (.load t a)) d T H):=zKC rfl (by simp[Op.operands,Call.operands])
theorem zJG {x:Operand}:exOn k P base d (.nilCheck x) T H=(nm base (hev T x)=true∧exRn k (ropQ P T H (.nilCheck x)) d T H):=zKC rfl (by simp[Op.operands,Call.operands])
theorem zUO {s t:TypeId} {x:Operand}:exOn k P base d (.convert s t x) T H=(nm base (hev T x)=true∧exRn k (ropQ P T H (.convert s t x)) d T H):=zKC rfl (by simp[Op.operands,Call.operands])
theorem zHX {t:TypeId} {x:Operand} {i:Nat}:exOn k P base d (.fieldAddr t x i) T H=(nm base (hev T x)=true∧exRn k (ropQ P T H (.fieldAddr t x i)) d T H):=zKC rfl (by simp[Op.operands,Call.operands])
theorem zHW {t:TypeId} {x i:Operand}:exOn k P base d (.indexAddr t x i) T H=((nm base (hev T x) && nm base (hev T i))=true∧exRn k (ropQ P T H (.indexAddr t x i)) d T H):=zKC rfl (by simp[Op.operands,Call.operands])
theorem zXo {x:Operand} {t:TypeId}:exOn k P base d (.call { callee:=.builtin .len,args:=#[x],argTypes:=#[t] }) T H=(nm base (hev T x)=true∧exRn k (ropQ P T H (.call { callee:=.builtin .len,args:=#[x],argTypes:=#[t] })) d T H):=zKC rfl (by simp[Op.operands,Call.operands])
theorem zXn {x y:Operand} {t u:TypeId}:exOn k P base d (.call { callee:=.builtin .max,args:=#[x,y],argTypes:=#[t,u] }) T H=((nm base (hev T x) && nm base (hev T y))=true∧exRn k (ropQ P T H (.call { callee:=.builtin .max,args:=#[x,y],argTypes:=#[t,u] })) d T H):=zKC rfl (by simp[Op.operands,Call.operands])
theorem zXm {x y:Operand} {t u:TypeId}:exOn k P base d (.call { callee:=.builtin .min,args:=#[x,y],argTypes:=#[t,u] }) T H=((nm base (hev T x) && nm base (hev T y))=true∧exRn k (ropQ P T H (.call { callee:=.builtin .min,args:=#[x,y],argTypes:=#[t,u] })) d T H):=zKC rfl (by simp[Op.operands,Call.operands])
theorem zQ6 {t:TypeId}:exOm k P base d (.alloc t) T H=exRm k base (zHi P H t) d T H:=rfl
theorem zXq {t:TypeId} {x:Operand}:exOm k P base d (.box t x) T H=exRm k base (rbox P H t (hev T x)) d T H:=rfl
theorem zGj {t:TypeId} {len:Nat} {ps:List (Nat×Operand)}:exOm k P base d (.buildSlice t len (List.toArray ps)) T H=exRm k base (zAx P T H t len ps) d T H:=rfl
theorem zHY {t:TypeId} {x y:Operand}:exOm k P base d (.makeSlice t x y) T H=exRm k base (zCP P H t (hev T x) (hev T y)) d T H:=rfl
theorem zUR {t:TypeId} {a:Operand}:exOm k P base d (.load t a) T H=exRm k base (zKO P H t (hev T a)) d T H:=rfl
theorem zQ5 {t:TypeId} {a x:Operand}:exOm k P base d (.store t a x) T H=exRm k base (zKH P H t (hev T a) (hev T x)) d T H:=rfl
theorem zMz {s x:Operand} {t:TypeId}:exOm k P base d (.call { callee:=.builtin .append,args:=#[s,x],argTypes:=#[t,t] }) T H=exRm k base (zCv P H t (hev T s) (hev T x)) d T H:=by
 show exRm k base (if t=t then zCv P H t (hev T s) (hev T x) else none) d T H=_
 rw[if_pos rfl]
theorem zY2 {fid:Nat} {args args' : List HV} {R:HV} (n:Nat) (spec:HFn P fid args' R) (hargs:args.map (fz n H)=args') (hnz:nz R=true) (h:k (updO T d (zAO R H).1) (zAO R H).2):zJV k P fid H args d T :=
 ⟨n,R,_,spec,.inl ⟨hargs,hnz⟩,h⟩
theorem zBc {fid:Nat} {args args' : List HV} {R:HV} (spec:HFn P fid args' R) (hargs:args=args') (hnm:nmL 0 args=true) (h:k (updO T d (zAO R H).1) (zAO R H).2):zJV k P fid H args d T :=
 ⟨0,R,_,spec,.inr ⟨hargs,hnm⟩,h⟩
theorem zCg {fid:Nat} {args args' : List HV} {R:HV} (spec:HFn P fid args' R) (hargs:args=args') (hnm:nmL 0 args=true) (h:k (updO T d (fzo R)) H):zLZ k P fid H args d T:=by
 subst hargs
 exact ⟨R,spec,hnm,h⟩
theorem zTL {H H' : Heap}:isTo 0 H H'=True:=by cases H <;> cases H' <;> rfl
theorem zTM {m:Nat} {a:Option HObj} {t u:Heap}:isTo (m+1) (a::t) (a::u)=isTo m t u:=by simp[isTo]
end
attribute [congr] zQU zQV zQn zNI zJS zLE zJO zJR zLC zJN zQ8
attribute [go_sem high] zYF zYI zYG zYH zNH zUU zQ7
attribute [go_sem] bsO z19 zTw zTx z1a zTy zUg zQo zQj zLL zLK zU4 zLF zQi zU3 zLD zTL zTM List.contains_cons List.contains_nil
attribute [go_sem ↓] z1l z49 z1k zUT zMy zUQ zMw zGi zMz zUK zMx zUJ zQ4 zXp z1e zQ2 zUN zUL zQ3 zQ1 zKv zUM zJG zUO zHX zHW zXo zXn zXm zQ6 zXq zGj zHY zUR zQ5
end Go.Proofs.YtoknohandclcbaaGreat
