/- Parts of the proof: HiDc, HiDd, HiDe. -/
import Derived.Test.YtoknohandclcbaaGreatZt06
set_option linter.unusedSectionVars false
set_option linter.unusedVariables false
set_option linter.unusedSimpArgs false
namespace Go.Proofs.YtoknohandclcbaaGreat
open Go.RowKit
def RRel (r r' : Res):Prop:=∀p x H0,p→r=some (p,x,H0)→∃(p' : Prop) (H0' : Heap),p'∧r'=some (p',x,H0')
theorem zAA {r:Res}:RRel none r:=fun _ _ _ _ h=>by cases h
theorem zP {H H' : Heap} {p p' : Prop} {x:HV} (h:p→p'):RRel (rv H p x) (rv H' p' x):=fun q y H0 hq e=>by
 cases e;exact ⟨p',H',h hq,rfl⟩
theorem zM {α:Type} {o o' : Option α} {f f' : α→Res} (h:∀a,o=some a→o'=some a∧RRel (f a) (f' a)):RRel (zF o f) (zF o' f'):=by
 cases o with
 | none=>exact zAA
 | some a =>
  obtain ⟨h1,h2⟩:=h a rfl
  rw[h1];exact h2
def nmed (id:Nat):HV→Prop
 | .hd i _ _=>i=id
 | .pt i _ _ _=>i=id
 | _=>False
def Agr (H H' : Heap) (x:HV):Prop:=∀id,nmed id x→∀ob,getO H id=some ob→getO H' id=some ob
theorem zDJ {H:Heap} {id:Nat} {ob:HObj}:getO H id=some ob↔H[id]?=some (some ob):=by
 constructor
 ·exact z6
 ·intro h;unfold getO;rw[h]
section
variable {P:Program} {T:Nat→HV} {H H' : Heap}
theorem zEp {x:HV} (h:Agr H H' x) (hl:zB7 H x=true):zB7 H' x=true:=by
 unfold zB7 at hl⊢
 split at hl
 ·rename_i id n r o
  split at hl
  ·rename_i ob ho
   have:=zDJ.1 (h id rfl ob (zDJ.2 ho))
   rw[this];exact hl
  ·cases hl
 ·rfl
 ·cases hl
theorem zLn {x:HV} (h:Agr H H' x) {rows:List (List HV)} (hs:zAX H x=some rows):zAX H' x=some rows:=by
 unfold zAX at hs⊢
 split at hs
 ·exact hs
 ·exact hs
 ·exact hs
 ·rename_i id off len
  split at hs
  ·rename_i ob ho
   have:=zDJ.1 (h id rfl ob (zDJ.2 ho))
   rw[this];exact hs
  ·cases hs
 ·cases hs
theorem zN8 {op:Op} (hag:∀y∈op.operands.toList,Agr H H' (hev T y)):RRel (ropQ P T H op) (ropQ P T H' op):=by
 have h1:∀y,y∈op.operands→Agr H H' (hev T y):=fun y hy=>hag y (by simpa using hy)
 clear hag
 unfold ropQ
 split <;> simp only[Op.operands,Call.operands] at h1
 ·exact zP id
 ·exact zP id
 ·unfold zHE;split <;> first | exact zP id | exact zAA
 ·unfold zGE
  exact zM fun a ha=>⟨ha,zM fun b hb=>⟨hb,zM fun c hc=>⟨hc,zP id⟩⟩⟩
 ·rename_i t a
  refine zM fun x hx=>⟨hx,?_⟩
  have ha:=h1 a (by simp)
  unfold zGA
  split
  ·rename_i id n r o e
   rw[e] at ha
   exact zM fun ob ho=>⟨ha _ rfl ob ho,zM fun row hr=>⟨hr,zP fun h=>h⟩⟩
  ·exact zM fun row hr=>⟨hr,zP fun h=>h⟩
  ·exact zAA
 ·rename_i x
  have ha:=h1 x (by simp)
  unfold zFx
  split
  ·exact zP id
  ·rename_i e;rw[e] at ha;exact zP (zEp ha)
  ·exact zP id
  ·exact zP id
  ·exact zAA
 ·unfold rbin;exact zM fun v hv=>⟨hv,zP id⟩
 ·unfold run1;split <;> first | exact zP id | exact zAA
 ·rename_i src dst x
  have ha:=h1 x (by simp)
  unfold zCn
  split
  ·exact zM fun a ha=>⟨ha,zM fun b hb=>⟨hb,zP id⟩⟩
  ·exact zP id
  ·exact zM fun e he=>⟨he,zM fun rows hr=>⟨zLn ha hr,zM fun l hl=>⟨hl,zP id⟩⟩⟩
 ·unfold zGC;exact zM fun y hy=>⟨hy,zP id⟩
 ·split <;> first | exact zP id | exact zAA
 ·rename_i t x lo hi
  have ha:=h1 x (by simp)
  unfold rcut
  split
  ·exact zM fun l hl=>⟨hl,zM fun h hh=>⟨hh,zP id⟩⟩
  ·exact zM fun e he=>⟨he,zM fun l hl=>⟨hl,zM fun h hh=>⟨hh,zP id⟩⟩⟩
  ·rename_i e;rw[e] at ha
   exact zM fun e he=>⟨he,zM fun l hl=>⟨hl,zM fun h hh=>⟨hh,zM fun ob ho=>⟨ha _ rfl ob ho,zP id⟩⟩⟩⟩
  ·exact zAA
 ·rename_i s a i
  have ha:=h1 a (by simp)
  unfold zBg
  exact zM fun f hf=>⟨hf,zP fun h=>⟨h.1,zEp ha h.2⟩⟩
 ·unfold zEB;split
  ·exact zM fun f hf=>⟨hf,zP id⟩
  ·exact zAA
 ·rename_i t a i
  have ha:=h1 a (by simp)
  unfold zA6
  split
  ·exact zM fun e he=>⟨he,zP id⟩
  ·rename_i e _;rw[e] at ha
   exact zM fun e he=>⟨he,zM fun ob ho=>⟨ha _ rfl ob ho,zP id⟩⟩
  ·rename_i e _;rw[e] at ha
   exact zM fun e he=>⟨he,zP fun h=>⟨zEp ha h.1,h.2⟩⟩
  ·exact zM fun e he=>⟨he,zP id⟩
  ·exact zAA
 ·unfold zDW;split
  ·exact zM fun b hb=>⟨hb,zP id⟩
  ·exact zM fun e he=>⟨he,zP id⟩
  ·exact zAA
 ·unfold zBb;split
  ·exact zM fun v hv=>⟨hv,zP id⟩
  ·exact zAA
 ·rename_i x t
  have ha:=h1 x (by simp)
  unfold rlen
  split
  ·exact zP id
  ·exact zP id
  ·exact zP id
  ·rename_i e;rw[e] at ha
   exact zM fun ob ho=>⟨ha _ rfl ob ho,zP id⟩
  ·exact zAA
 ·unfold rmm;split <;> first | exact zP id | exact zAA
 ·unfold rmm;split <;> first | exact zP id | exact zAA
 ·exact zAA
end
mutual
theorem zKI:∀(h:HV) (H:Heap),∃B,(zAN h H).2=H++B
 | .ow ..,H=>⟨_,rfl⟩
 | .bx ..,H=>⟨_,rfl⟩
 | .om ..,H=>⟨_,rfl⟩
 | .ag cs,H=>by simpa only[zAN] using zEG cs H
 | .tu cs,H=>by simpa only[zAN] using zEG cs H
 | .fn _ cs,H=>by simpa only[zAN] using zEG cs H
 | .any,H=>⟨[],by simp[zAN]⟩
 | .v _,H=>⟨[],by simp[zAN]⟩
 | .sl _,H=>⟨[],by simp[zAN]⟩
 | .hd ..,H=>⟨[],by simp[zAN]⟩
 | .pt ..,H=>⟨[],by simp[zAN]⟩
 | .fp ..,H=>⟨[],by simp[zAN]⟩
 | .ic ..,H=>⟨[],by simp[zAN]⟩
 | .ob _,H=>⟨[],by simp[zAN]⟩
 | .mp _,H=>⟨[],by simp[zAN]⟩
 | .yl _,H=>⟨[],by simp[zAN]⟩
 | .gv _,H=>⟨[],by simp[zAN]⟩
theorem zEG:∀(l:List HV) (H:Heap),∃B,(zDS l H).2=H++B
 | [],H=>⟨[],by simp[zDS]⟩
 | h::t,H=>by
  obtain ⟨B,h1⟩:=zKI h H
  obtain ⟨B',h2⟩:=zEG t (zAN h H).2
  exact ⟨B++B',by simp only[zDS];rw[h2,h1,List.append_assoc]⟩
end
def zBy:Op→Bool
 | .move _=>true
 | .assign _=>true
 | .pick ..=>true
 | .build ..=>true
 | .binOp ..=>true
 | .unOp ..=>true
 | .makeInterface ..=>true
 | .makeFunc ..=>true
 | .field ..=>true
 | .index ..=>true
 | .extract ..=>true
 | _=>false
theorem zH8 {P:Program} {T:Nat→HV} {H H' : Heap} {op:Op} (h:zBy op=true):RRel (ropQ P T H op) (ropQ P T H' op):=by
 cases op <;> simp only[zBy,Bool.false_eq_true] at h
 case move=>exact zP id
 case assign=>exact zP id
 case pick=>unfold ropQ zHE;dsimp only;split <;> first | exact zP id | exact zAA
 case build=>unfold ropQ zGE;exact zM fun a ha=>⟨ha,zM fun b hb=>⟨hb,zM fun c hc=>⟨hc,zP id⟩⟩⟩
 case binOp=>unfold ropQ rbin;exact zM fun v hv=>⟨hv,zP id⟩
 case unOp=>unfold ropQ run1;dsimp only;split <;> first | exact zP id | exact zAA
 case makeInterface=>unfold ropQ zGC;exact zM fun y hy=>⟨hy,zP id⟩
 case makeFunc f first cs =>
  cases f <;> unfold ropQ <;> dsimp only <;> first | exact zAA | (split <;> first | exact zP id | exact zAA)
 case field=>unfold ropQ zEB;dsimp only;split <;> first | exact zM fun f hf=>⟨hf,zP id⟩ | exact zAA
 case index =>
  unfold ropQ zDW;dsimp only;split
  ·exact zM fun b hb=>⟨hb,zP id⟩
  ·exact zM fun e he=>⟨he,zP id⟩
  ·exact zAA
 case extract=>unfold ropQ zBb;dsimp only;split <;> first | exact zM fun v hv=>⟨hv,zP id⟩ | exact zAA
def SameTo (m:Nat) (H H' : Heap):Prop:=∀id:Nat,id<m→H'[id]?=H[id]?
theorem SameTo.app {m:Nat} {H:Heap} (B:Heap) (h:m≤H.length):SameTo m H (H++B):=fun id hid=>List.getElem?_append_left (by omega)
theorem SameTo.agr {m:Nat} {H H' : Heap} {x:HV} (h:SameTo m H H') (hn:nm m x=true):Agr H H' x:=fun id hid ob ho=>by
 have hlt:id<m:=by
  cases x <;> simp only[nmed] at hid
  ·subst hid;simpa [nm] using hn
  ·subst hid;simpa [nm] using hn
 exact zDJ.2 ((h id hlt).trans (zDJ.1 ho))
def zUr (P:Program) (base:Nat) (T:Nat→HV) (H:Heap) (op:Op) (x:HV):Prop :=
 (∃(p:Prop) (H0:Heap),p∧ropQ P T H op=some (p,x,H0)∧(zBy op=true∨∀y∈op.operands.toList,nm base (hev T y)=true))∨
 (∃f args tys fid caps R,op=.call { callee:=.value f,args:=args,argTypes:=tys }∧hev T f=.fn fid caps∧HFn P (fnF fid) (fnA fid .any (args.toList.map (hev T)) caps) R∧nmL 0 (fnA fid .any (args.toList.map (hev T)) caps)=true∧x=fzo R)∨
 (∃rv name args tys t y fid R,op=.call { callee:=.invoke rv name,args:=args,argTypes:=tys }∧hev T rv=.ic t y∧zAd P t name=some fid∧HFn P fid (y::args.toList.map (hev T)) R∧nmL 0 (y::args.toList.map (hev T))=true∧x=fzo R)∨
 (∃t len parts p H0,op=.buildSlice t len parts∧p∧zAE P T H t len parts.toList=some (p,x,H0))
def zUs (P:Program) (base:Nat) (T:Nat→HV) (H:Heap) (op:Op) (x:HV) (H' : Heap):Prop :=
 SameTo base H H'∧H.length≤H'.length∧(
  (∃f args tys fid caps n R args',op=.call { callee:=.value f,args:=args,argTypes:=tys }∧hev T f=.fn fid caps∧HFn P (fnF fid) args' R∧zE5 n H (fnA fid .any (args.toList.map (hev T)) caps) args' R∧zAN R H=(x,H'))∨
  (∃rv name args tys t y fid n R args',op=.call { callee:=.invoke rv name,args:=args,argTypes:=tys }∧hev T rv=.ic t y∧zAd P t name=some fid∧HFn P fid args' R∧zE5 n H (y::args.toList.map (hev T)) args' R∧zAN R H=(x,H'))∨
  (∃p:Prop,p∧rop P T H op=some (p,x,H')))
def zFI (P:Program) (base:Nat) (h:Bool) (T:Nat→HV) (H:Heap) (op:Op) (x:HV) (H' : Heap):Prop :=
 if h=true then zUs P base T H op x H' else zUr P base T H op x∧H'=H
def zE7 (P:Program) (base:Nat) (h:Bool) (all:List Oper) (T:Nat→HV) (H:Heap) (o:Oper) (x:HV) (H' : Heap):Prop :=
 match o.guard with
 | none=>zFI P base h T H o.op x H'
 | some (j,b)=>∃t,zA7 all j=some t∧((∃c,T t=.v (.bool c)∧(c=b→zFI P base h T H o.op x H')∧(c=(!b)→x=.v undef∧H'=H))∨∃ts,T t=.v (.tuple ts)∧x=.v undef∧H'=H)
def bsO (hv:List Nat) (base:Nat×Nat) (j:Nat):Nat :=
 if hv.contains j=true then (if hv.contains (2000+j)=true then base.1 else if base.1<base.2 then base.2 else base.1)
 else if hv.contains (1000+j)=true then base.2 else base.1
theorem z4N {hv:List Nat} {base:Nat×Nat} {j:Nat} (h:hv.contains j=true):base.1≤bsO hv base j:=by
 unfold bsO
 rw[if_pos h]
 split
 ·exact Nat.le_refl _
 ·split <;> omega
theorem z19 {hv:List Nat} {base:Nat×Nat} {j:Nat} (h:hv.contains j=true) (h2:¬hv.contains (2000+j)=true):base.2≤bsO hv base j:=by
 unfold bsO
 rw[if_pos h,if_neg h2]
 split <;> omega
theorem SameTo.le {m m' : Nat} {H H' : Heap} (h:SameTo m H H') (hm:m'≤m):SameTo m' H H':=fun id hid=>h id (by omega)
def zFV (P:Program) (base:Nat×Nat) (hv:List Nat) (all:List Oper):Nat→List Oper→(Nat→HV)→Heap→List HV→List Heap→Prop
 | _,[],_,_,xs,hs=>xs=[]∧hs=[]
 | j,o::l,T,H,xs,hs=>∃x H' xs' hs',xs=x::xs'∧hs=H'::hs'∧zE7 P (bsO hv base j) (hv.contains j) all T H o x H'∧zFV P base hv all (j+1) l (updO T o.dst x) H' xs' hs'
def zU (H0:Heap) (hs:List Heap) (j:Nat):Heap:=((H0::hs)[j]?).getD []
section
variable {P:Program} {all:List Oper} {base:Nat} {hv:List Nat}
theorem zHi {fid:Nat} {n:Nat} {H:Heap} {args args' : List HV} {R:HV} (h:HFn P fid args' R) (hL:zE5 n H args args' R):HCalls P fid H args (fun r H'=>r=R∧H'=H):=by
 rcases hL with ⟨rfl,hnz⟩ | ⟨rfl,hnm⟩
 ·exact HCalls.lend n h (fun r hr=>by rw[hr];exact hnz)
 ·exact HCalls.plain h hnm
theorem zBG {T T' : Nat→HV} {H H' : Heap} {t:TypeId} {len:Nat} {parts:List (Nat×Operand)} (h:∀p∈parts,hev T p.2=hev T' p.2) {p:Prop} {x:HV} {H0:Heap} (hr:zAE P T H t len parts=some (p,x,H0)):zAE P T' H' t len parts=some (p,x,H'):=by
 have e1:∀n (l:List (Nat×Operand)),(∀p∈l,hev T p.2=hev T' p.2)→zAy T n l=zAy T' n l:=by
  intro n l
  induction l with
  | nil=>intro _;rfl
  | cons p l ih =>
   intro hp
   simp only[zAy]
   rw[hp p (by simp),ih (fun q hq=>hp q (by simp[hq]))]
 have e2:parts.map (fun p=>fzoL (zW (hev T p.2)))=parts.map (fun p=>fzoL (zW (hev T' p.2))):=by
  apply List.map_congr_left
  intro p hq
  rw[h p hq]
 unfold zAE at hr⊢
 cases he:zN P t 3 with
 | none=>rw[he] at hr;cases hr
 | some e =>
  rw[he] at hr
  simp only[zDM,rv] at hr⊢
  cases hr
  rw[e1 _ _ h,e2]
theorem zNP {T T' : Nat→HV} {H:Heap} {op:Op} {x:HV} (h:∀y∈op.operands.toList,hev T y=hev T' y) (hc:zUr P base T H op x):zUr P base T' H op x:=by
 rcases hc with ⟨p,H0,hp,hr,hi⟩ | ⟨f,args,tys,fid,caps,R,rfl,hf,h1,h2,h3⟩ | ⟨rv,name,args,tys,t,y,fid,R,rfl,hf,hm,h1,h2,h3⟩ | ⟨t,len,parts,p,H0,rfl,hp,hr⟩
 ·exact .inl ⟨p,H0,hp,by rw[←zH9 h];exact hr,hi.imp id fun hi y hy=>by rw[←h y hy];exact hi y hy⟩
 ·have e1:=h f (by simp[Op.operands,Call.operands])
  have e2:args.toList.map (hev T)=args.toList.map (hev T'):=zAM fun x hx=>h x (by simp[Op.operands,Call.operands];exact .inr (by simpa using hx))
  exact .inr (.inl ⟨f,args,tys,fid,caps,R,rfl,e1▸hf,e2▸h1,e2▸h2,h3⟩)
 ·have e1:=h rv (by simp[Op.operands,Call.operands])
  have e2:args.toList.map (hev T)=args.toList.map (hev T'):=zAM fun x hx=>h x (by simp[Op.operands,Call.operands];exact .inr (by simpa using hx))
  exact .inr (.inr (.inl ⟨rv,name,args,tys,t,y,fid,R,rfl,e1▸hf,hm,e2▸h1,e2▸h2,h3⟩))
 ·have hp1:∀p∈parts.toList,hev T p.2=hev T' p.2:=fun p hp=>h p.2 (by simp[Op.operands];exact ⟨p.1,by simpa using hp⟩)
  exact .inr (.inr (.inr ⟨t,len,parts,p,H,rfl,hp,zBG hp1 hr⟩))
theorem zNQ {T:Nat→HV} {H Hc:Heap} {op:Op} {x:HV} (hs:SameTo base H Hc) (hc:zUr P base T H op x):zJS P T Hc op x:=by
 rcases hc with ⟨p,H0,hp,hr,hi⟩ | ⟨f,args,tys,fid,caps,R,rfl,hf,h1,h2,h3⟩ | ⟨rv,name,args,tys,t,y,fid,R,rfl,hf,hm,h1,h2,h3⟩ | ⟨t,len,parts,p,H0,rfl,hp,hr⟩
 ·have hR:RRel (ropQ P T H op) (ropQ P T Hc op):=by
   rcases hi with hi | hi
   ·exact zH8 hi
   ·exact zN8 fun y hy=>hs.agr (hi y hy)
  obtain ⟨p',H0',hp',hr'⟩:=hR p x H0 hp hr
  exact .inl ⟨p',H0',hp',hr'⟩
 ·exact .inr (.inl ⟨f,args,tys,fid,caps,0,R,_,rfl,hf,h1,.inr ⟨rfl,h2⟩,h3⟩)
 ·exact .inr (.inr (.inl ⟨rv,name,args,tys,t,y,fid,0,R,_,rfl,hf,hm,h1,.inr ⟨rfl,h2⟩,h3⟩))
 ·exact .inr (.inr (.inr ⟨t,len,parts,p,Hc,rfl,hp,zBG (fun _ _=>rfl) hr⟩))
theorem zNR {T T' : Nat→HV} {H H' : Heap} {op:Op} {x:HV} (h:∀y∈op.operands.toList,hev T y=hev T' y) (hc:zUs P base T H op x H'):zUs P base T' H op x H':=by
 obtain ⟨k1,k2,hc⟩:=hc
 refine ⟨k1,k2,?_⟩
 rcases hc with ⟨f,args,tys,fid,caps,n,R,args',rfl,hf,h1,h2,h3⟩ | ⟨rv,name,args,tys,t,y,fid,n,R,args',rfl,hf,hm,h1,h2,h3⟩ | ⟨p,hp,hr⟩
 ·have e1:=h f (by simp[Op.operands,Call.operands])
  have e2:args.toList.map (hev T)=args.toList.map (hev T'):=zAM fun x hx=>h x (by simp[Op.operands,Call.operands];exact .inr (by simpa using hx))
  exact .inl ⟨f,args,tys,fid,caps,n,R,args',rfl,e1▸hf,h1,e2▸h2,h3⟩
 ·have e1:=h rv (by simp[Op.operands,Call.operands])
  have e2:args.toList.map (hev T)=args.toList.map (hev T'):=zAM fun x hx=>h x (by simp[Op.operands,Call.operands];exact .inr (by simpa using hx))
  exact .inr (.inl ⟨rv,name,args,tys,t,y,fid,n,R,args',rfl,e1▸hf,hm,h1,e2▸h2,h3⟩)
 ·exact .inr (.inr ⟨p,hp,by rw[←zFz h];exact hr⟩)
theorem zHB {h0:Bool} {T T' : Nat→HV} {H H' : Heap} {op:Op} {x:HV} (h:∀y∈op.operands.toList,hev T y=hev T' y) (hc:zFI P base h0 T H op x H'):zFI P base h0 T' H op x H':=by
 cases h0 with
 | true=>exact zNR h hc
 | false=>exact ⟨zNP h hc.1,hc.2⟩
theorem zIE {h0:Bool} {T:Nat→HV} {H H' : Heap} {op:Op} {x:HV} (hc:zFI P base h0 T H op x H'):SameTo base H H'∧H.length≤H'.length:=by
 unfold zFI at hc
 split at hc
 ·exact ⟨hc.1,hc.2.1⟩
 ·rw[hc.2];exact ⟨fun _ _=>rfl,Nat.le_refl _⟩
theorem zCd {h0:Bool} {o:Oper} {T T' : Nat→HV} {H H' : Heap} {x:HV} (h:∀t∈zBZ all o,T t=T' t) (hc:zE7 P base h0 all T H o x H'):zE7 P base h0 all T' H o x H':=by
 have hv:=zDy h
 unfold zE7 at hc⊢
 split at hc
 ·exact zHB hv hc
 ·rename_i j b hg
  obtain ⟨t,ht,hc⟩:=hc
  have e:T t=T' t:=h t (by unfold zBZ;rw[hg];simp[ht])
  refine ⟨t,ht,?_⟩
  rw[←e]
  rcases hc with ⟨c,h1,h2,h3⟩ | hc
  ·exact .inl ⟨c,h1,fun hcb=>zHB hv (h2 hcb),h3⟩
  ·exact .inr hc
theorem zDP {h0:Bool} {o:Oper} {T:Nat→HV} {H H' : Heap} {x:HV} (hc:zE7 P base h0 all T H o x H'):SameTo base H H'∧H.length≤H'.length:=by
 unfold zE7 at hc
 split at hc
 ·exact zIE hc
 ·rename_i j b hg
  obtain ⟨t,ht,⟨c,h1,h2,h3⟩ | ⟨ts,_,_,h⟩⟩:=hc
  ·by_cases hcb:c=b
   ·exact zIE (h2 hcb)
   ·have hc:c=(!b):=by cases c <;> cases b <;> simp_all
    rw[(h3 hc).2];exact ⟨fun _ _=>rfl,Nat.le_refl _⟩
  ·rw[h];exact ⟨fun _ _=>rfl,Nat.le_refl _⟩
theorem zDm {o:Oper} {T:Nat→HV} {H H' : Heap} {x:HV} (hc:zE7 P base false all T H o x H'):H'=H:=by
 have hM:zFI P base false T H o.op x H'→H'=H:=fun h=>by
  unfold zFI at h
  simp only[Bool.false_eq_true,if_false] at h
  exact h.2
 unfold zE7 at hc
 split at hc
 ·exact hM hc
 ·obtain ⟨t,ht,⟨c,h1,h2,h3⟩ | ⟨ts,_,_,h⟩⟩:=hc
  ·rename_i j b _
   by_cases hcb:c=b
   ·exact hM (h2 hcb)
   ·have hc:c=(!b):=by cases c <;> cases b <;> simp_all
    exact (h3 hc).2
  ·exact h
theorem zG0 {H0:Heap} {hs:List Heap}:zU H0 hs 0=H0:=rfl
theorem zDa {H0 H1:Heap} {hs:List Heap} {j:Nat}:zU H0 (H1::hs) (j+1)=zU H1 hs j:=rfl
theorem zBx {base:Nat×Nat}:∀(l:List Oper) (xs:List HV) (hs:List Heap) (i j:Nat) (T:Nat→HV) (H0:Heap) (o:Oper),zFV P base hv all i l T H0 xs hs→l[j]?=some o→
  ∃x,xs[j]?=some x∧zE7 P (bsO hv base (i+j)) (hv.contains (i+j)) all (runM (fun k=>decide (k<i+j)) i l xs T) (zU H0 hs j) o x (zU H0 hs (j+1))
 | [],xs,hs,i,j,T,H0,o,_,h=>by simp at h
 | o0::l,xs,hs,i,0,T,H0,o,hc,h=>by
  obtain ⟨x,H',xs',hs',rfl,rfl,h1,_⟩:=hc
  simp only[List.getElem?_cons_zero,Option.some.injEq] at h
  subst h
  refine ⟨x,rfl,?_⟩
  rw[zG0,zDa,zG0]
  refine zCd (fun t _=>?_) h1
  rw[zB2]
  intro j' _
  simp
 | o0::l,xs,hs,i,j+1,T,H0,o,hc,h=>by
  obtain ⟨x,H',xs',hs',rfl,rfl,_,h2⟩:=hc
  simp only[List.getElem?_cons_succ] at h
  obtain ⟨y,h3,h4⟩:=zBx l xs' hs' (i+1) j _ H' o h2 h
  refine ⟨y,by simpa using h3,?_⟩
  rw[zDa,zDa]
  rw[show i+1+j=i+(j+1) by omega] at h4
  refine zCd (fun t _=>?_) h4
  simp only[runM]
  rw[if_pos (by simp)]
theorem zC8 {base:Nat×Nat} {l:List Oper} {xs:List HV} {hs:List Heap} {T:Nat→HV} {H0:Heap} (hc:zFV P base hv all 0 l T H0 xs hs):∀(b a:Nat),a≤b→b≤l.length→SameTo base.1 (zU H0 hs a) (zU H0 hs b)∧(zU H0 hs a).length≤(zU H0 hs b).length:=by
 intro b
 induction b with
 | zero=>intro a ha _;obtain rfl:a=0:=(by omega);exact ⟨fun _ _=>rfl,Nat.le_refl _⟩
 | succ b ih =>
  intro a ha hb
  rcases Nat.lt_or_ge a (b+1) with h | h
  ·obtain ⟨h1,h2⟩:=ih a (by omega) (by omega)
   obtain ⟨x,_,hN⟩:=zBx l xs hs 0 b T H0 _ hc (List.getElem?_eq_getElem (show b<l.length by omega))
   have h34:SameTo base.1 (zU H0 hs b) (zU H0 hs (b+1))∧(zU H0 hs b).length≤(zU H0 hs (b+1)).length:=by
    rw[Nat.zero_add] at hN
    cases hvb:hv.contains b with
    | true =>
     exact ⟨(zDP hN).1.le (z4N hvb),(zDP hN).2⟩
    | false =>
     rw[hvb] at hN
     rw[zDm hN]
     exact ⟨fun _ _=>rfl,Nat.le_refl _⟩
   obtain ⟨h3,h4⟩:=h34
   exact ⟨fun id hid=>(h3 id hid).trans (h1 id hid),by omega⟩
  ·obtain rfl:a=b+1:=by omega
   exact ⟨fun _ _=>rfl,Nat.le_refl _⟩
theorem zCB {base:Nat×Nat} {l:List Oper} {xs:List HV} {hs:List Heap} {T:Nat→HV} {H0:Heap} (hc:zFV P base hv all 0 l T H0 xs hs):∀(b a:Nat),a≤b→b≤l.length→(∀(j:Nat),a≤j→j<b→hv.contains j=true→hv.contains (2000+j)=true→False)→SameTo base.2 (zU H0 hs a) (zU H0 hs b)∧(zU H0 hs a).length≤(zU H0 hs b).length:=by
 intro b
 induction b with
 | zero=>intro a ha _ _;obtain rfl:a=0:=(by omega);exact ⟨fun _ _=>rfl,Nat.le_refl _⟩
 | succ b ih =>
  intro a ha hb hq
  rcases Nat.lt_or_ge a (b+1) with h | h
  ·obtain ⟨h1,h2⟩:=ih a (by omega) (by omega) (fun j h1 h2=>hq j h1 (by omega))
   obtain ⟨x,_,hN⟩:=zBx l xs hs 0 b T H0 _ hc (List.getElem?_eq_getElem (show b<l.length by omega))
   have h34:SameTo base.2 (zU H0 hs b) (zU H0 hs (b+1))∧(zU H0 hs b).length≤(zU H0 hs (b+1)).length:=by
    rw[Nat.zero_add] at hN
    cases hvb:hv.contains b with
    | true =>
     exact ⟨(zDP hN).1.le (z19 hvb (fun hw=>hq b (by omega) (by omega) hvb hw)),(zDP hN).2⟩
    | false =>
     rw[hvb] at hN
     rw[zDm hN]
     exact ⟨fun _ _=>rfl,Nat.le_refl _⟩
   obtain ⟨h3,h4⟩:=h34
   exact ⟨fun id hid=>(h3 id hid).trans (h1 id hid),by omega⟩
  ·obtain rfl:a=b+1:=by omega
   exact ⟨fun _ _=>rfl,Nat.le_refl _⟩
theorem zC7 {base:Nat×Nat} {l:List Oper} {xs:List HV} {hs:List Heap} {T:Nat→HV} {H0:Heap} (hc:zFV P base hv all 0 l T H0 xs hs):∀(b a:Nat),a≤b→b≤l.length→(∀(j:Nat),a≤j→j<b→hv.contains j=false)→zU H0 hs b=zU H0 hs a:=by
 intro b
 induction b with
 | zero=>intro a ha _ _;obtain rfl:a=0:=(by omega);rfl
 | succ b ih =>
  intro a ha hb hq
  rcases Nat.lt_or_ge a (b+1) with h | h
  ·have h1:=ih a (by omega) (by omega) fun j h1 h2=>hq j h1 (by omega)
   have ho:l[b]?=some l[b]:=List.getElem?_eq_getElem (show b<l.length by omega)
   obtain ⟨x,_,hN⟩:=zBx l xs hs 0 b T H0 _ hc ho
   rw[Nat.zero_add,hq b (by omega) (by omega)] at hN
   rw[zDm hN,h1]
  ·obtain rfl:a=b+1:=by omega
   rfl
end
section
variable {P:Program} {N L B base:Nat} {Z:Nat→Prop} {G:List (Option OG)} {FP:Nat→List Nat} {ds:List Nat} {T:Nat→HV} {H H' : Heap} {a:Act} {w:World} {ro:Option Nat} {mm:Nat}
theorem zMx {o:Oper} {x:HV} (hok:zI N o=true) (hn:zAC o=true) (hc:zUs P base T H o.op x H'):HO P N L o T H (fun T' H''=>T'=updO T o.dst x∧H''=H'):=by
 have hnd:=zBB hn
 have hdst:∀i,o.dst=some i→i<N:=fun i hi=>by
  have:=hok;simp only[zI,zBT,hi,Bool.and_eq_true,decide_eq_true_eq] at this;exact this.1
 rcases hc.2.2 with ⟨f,args,tys,fid,caps,n,R,args',hop,hf,h1,h2,h3⟩ | ⟨rv,name,args,tys,t,y,fid,n,R,args',hop,hf,hm,h1,h2,h3⟩ | ⟨p,hp,hr⟩
 ·exact zJR hop hok hf (zHi h1 h2) (fun r H2 hq _=>by
   obtain ⟨rfl,rfl⟩:=hq
   rw[h3];exact ⟨rfl,rfl⟩)
 ·exact zE6 hop hok hf hm (zHi h1 h2) (fun r H2 hq _=>by
   obtain ⟨rfl,rfl⟩:=hq
   rw[h3];exact ⟨rfl,rfl⟩)
 ·exact zDO hnd hdst (zLY hok (by rw[hr];exact ⟨hp,rfl,rfl⟩))
def yB5 (P:Program) (N L B:Nat) (ds:List Nat) (G:List (Option OG)) (Z:Nat→Prop) (FP:Nat→List Nat) (w:World) (T:Nat→HV) (H:Heap) (K:Act→World→Prop):Prop :=
 ∀Z' G' FP' a' w',St N B Z' G' FP' ds T H a' w'→GLt L G G'→Evo Z FP w Z' FP' w'→K a' w'
theorem zEZ {all:List Oper} {j:Nat} {o:Oper} {x:HV} {K:Act→World→Prop} {Q' : Exit→Act→World→Prop} {Hc Hn:Heap} {h0:Bool} (hall:all.all (zBT N)=true) (hj:all[j]?=some o) (hok:zI N o=true) (hn:zAC o=true) (hc:zE7 P base h0 all T H o x H')
  (hs:St N B Z G FP ds T Hc a w) (hB:Bo ro B FP w) (hL:L≤G.length)
  (hq:h0=false→Hn=Hc∧SameTo base H Hc) (hh:h0=true→Hc=H∧Hn=H')
  (hK:yB5 P N L B ds G Z FP w (updO T o.dst x) Hn K):wpOpIn (Wd ro) mm P all.toArray Q' j K a w:=by
 have hdst:∀i,o.dst=some i→i<N:=fun i hi=>by
  have:=hok;simp only[zI,zBT,hi,Bool.and_eq_true,decide_eq_true_eq] at this;exact this.1
 have run:zFI P base h0 T H o.op x H'→o.wpIn (Wd ro) mm P a w K Q':=fun hM=>by
  cases h0 with
  | true =>
   obtain ⟨rfl,rfl⟩:=hh rfl
   unfold zFI at hM
   rw[if_pos rfl] at hM
   refine zMx (L:=L) hok hn hM ro mm B Z G FP ds a w hB hL hs K Q' ?_
   rintro a' w' ⟨T2,H2,Z',G',FP',⟨rfl,rfl⟩,hs',hG',hE'⟩
   exact hK Z' G' FP' a' w' hs' hG' hE'
  | false =>
   obtain ⟨rfl,hR⟩:=hq rfl
   unfold zFI at hM
   simp only[Bool.false_eq_true,if_false] at hM
   exact zGn hok hn (zNQ hR hM.1) hs (fun Z' G' FP' a' w' h1 h2 h3=>hK Z' G' FP' a' w' h1 (GLt.of hL h2) h3)
 have noRun:x=.v undef→H'=H→K (a.put o.dst undef) w:=fun hx hHH=>by
  have e:Hn=Hc:=by
   cases h0 with
   | true=>obtain ⟨rfl,rfl⟩:=hh rfl;exact hHH
   | false=>exact (hq rfl).1
  subst hx
  rw[e] at hK
  exact hK _ _ _ _ _ (hs.drop o.dst hdst) (GLt.refl hL) (Evo.refl _ _ _)
 unfold wpOpIn
 rw[List.getElem?_toArray,hj]
 dsimp only
 unfold zE7 at hc
 split at hc
 ·rename_i hg
  simp only[Region.wanted,hg,if_true]
  exact run hc
 ·rename_i k b hg
  obtain ⟨t,ht,hc⟩:=hc
  rcases hc with ⟨c,h1,h2,h3⟩ | ⟨ts,h1,h4,h5⟩
  ·have hy:yielded all.toArray a.tmps k=some c:=hs.yields hall (by rw[zAc ht];exact h1)
   have hw:Region.wanted o (yielded all.toArray a.tmps)=(c == b):=by
    simp only[Region.wanted,hg,hy]
    cases c <;> cases b <;> rfl
   rw[hw]
   by_cases hcb:c=b
   ·rw[if_pos (by simp[hcb])]
    exact run (h2 hcb)
   ·have hc:c=(!b):=by cases c <;> cases b <;> simp_all
    rw[if_neg (by simp[hcb])]
    exact ⟨fun _ _=>trivial,noRun (h3 hc).1 (h3 hc).2⟩
  ·have hy:yielded all.toArray a.tmps k=none:=hs.yieldsNo hall (by rw[zAc ht];exact h1)
   have hw:Region.wanted o (yielded all.toArray a.tmps)=false:=by
    simp only[Region.wanted,hg,hy]
    cases b <;> rfl
   rw[hw,if_neg (by simp)]
   exact ⟨fun _ _=>trivial,noRun h4 h5⟩
end
end Go.Proofs.YtoknohandclcbaaGreat
namespace Go.Proofs.YtoknohandclcbaaGreat
open Go.RowKit
def zYH (N m:Nat) (hv:List Nat) (all:List Oper):Bool :=
 let bs:=befs all []
 (all.all fun o=>zI N o && zAC o) &&
 (all.zipIdx.all fun (o,j)=>(o.after.toList.all fun e=>!Region.binds .any e || decide (e.on<j)) &&
  (all.zipIdx.all fun (o',i)=>!decide (i<j) || (!(decide (m≤j) || zBV all o' o || (hv.contains i && hv.contains j) || (hv.contains (2000+i) && hv.contains (1000+j)) || (hv.contains (1000+i) && hv.contains (2000+j)))) || zA9 bs i j))
structure AnyOk3 (N m:Nat) (hv:List Nat) (all:List Oper):Prop where
 base:AnyOk N m all
 od1:∀(i j:Nat) o' o,i<j→all[i]?=some o'→all[j]?=some o→hv.contains (2000+i)=true→hv.contains (1000+j)=true→zA9 (befs all []) i j=true
 od2:∀(i j:Nat) o' o,i<j→all[i]?=some o'→all[j]?=some o→hv.contains (1000+i)=true→hv.contains (2000+j)=true→zA9 (befs all []) i j=true
 hv:∀(i j:Nat) o' o,i<j→all[i]?=some o'→all[j]?=some o→hv.contains i=true→hv.contains j=true→zA9 (befs all []) i j=true
theorem zHx {N m:Nat} {hv:List Nat} {all:List Oper} (h:zYH N m hv all=true):AnyOk3 N m hv all:=by
 simp only[zYH,Bool.and_eq_true] at h
 obtain ⟨h1,h2⟩:=h
 rw[List.all_eq_true] at h1 h2
 have mem:∀{j:Nat} {o:Oper},all[j]?=some o→(o,j)∈all.zipIdx:=fun {j o} hj=>by
  rw[List.mem_zipIdx_iff_getElem?];exact hj
 have key:∀(i j:Nat) o' o,i<j→all[i]?=some o'→all[j]?=some o→(decide (m≤j) || zBV all o' o || (hv.contains i && hv.contains j) || (hv.contains (2000+i) && hv.contains (1000+j)) || (hv.contains (1000+i) && hv.contains (2000+j)))=true→zA9 (befs all []) i j=true:=by
  intro i j o' o hij hi hj hc
  have:=h2 (o,j) (mem hj)
  simp only[Bool.and_eq_true,List.all_eq_true] at this
  have:=this.2 (o',i) (mem hi)
  simp only[hij,decide_true,Bool.not_true,Bool.false_or] at this
  rw[hc] at this
  simpa using this
 refine ⟨⟨fun j o hj=>?_,fun j o hj e he hb=>?_,fun i j o' o hij hi hj hc=>?_⟩,fun i j o' o hij hi hj h1 h2=>key i j o' o hij hi hj (by rw[h1,h2];simp),fun i j o' o hij hi hj h1 h2=>key i j o' o hij hi hj (by rw[h1,h2];simp),fun i j o' o hij hi hj h1 h2=>key i j o' o hij hi hj (by rw[h1,h2];simp)⟩
 ·have:=h1 o (List.mem_of_getElem? hj)
  simpa using this
 ·have:=h2 (o,j) (mem hj)
  simp only[Bool.and_eq_true,List.all_eq_true] at this
  have:=this.1 e he
  simp only[hb,Bool.not_true,Bool.false_or,decide_eq_true_eq] at this
  exact this
 ·refine key i j o' o hij hi hj ?_
  rcases hc with hc | hc
  ·simp[hc]
  ·simp[hc]
section go
variable {P:Program} {N L m mm B:Nat} {base:Nat×Nat} {hv:List Nat} {ro:Option Nat} {all:List Oper} {Φ:Exit→Act→World→Prop}
theorem z1a (hA:AnyOk3 N m hv all) {Z0:Nat→Prop} {G0:List (Option OG)} {FP0:Nat→List Nat} {ds:List Nat} {T0:Nat→HV} {H0:Heap} {xs:List HV} {hs:List Heap} {w0:World} (hc0:zFV P base hv all 0 (all.take m) T0 H0 xs hs) (hml:m≤all.length)
  (hB:∀Z FP w,Evo Z0 FP0 w0 Z FP w→Bo ro B FP w)
  (hend:∀Z G FP a w,St N B Z G FP ds (runM (fun _=>true) 0 (all.take m) xs T0) (zU H0 hs m) a w→GLt L G0 G→Evo Z0 FP0 w0 Z FP w→wpListIn (Wd ro) mm P all.toArray Φ (all.drop m) a w) :
  ∀(fuel:Nat) (listed:Array Bool) (c:Nat) (Z:Nat→Prop) (G:List (Option OG)) (FP:Nat→List Nat) (a:Act) (w:World),listed.size=all.length→left listed≤fuel→zCE all listed→(∀j,m≤j→j<all.length→listed.getD j false=false)→
  c≤m→(∀(j:Nat),j<m→hv.contains j=true→(listed.getD j false=true↔j<c))→
  St N B Z G FP ds (runM (fun k=>listed.getD k false) 0 (all.take m) xs T0) (zU H0 hs c) a w→GLt L G0 G→Evo Z0 FP0 w0 Z FP w→wpAnyIn (Wd ro) mm P .any all.toArray Φ fuel listed a w:=by
 have hlm:(all.take m).length=m:=by rw[List.length_take];omega
 have fin:∀(listed:Array Bool) (c:Nat) (Z:Nat→Prop) (G:List (Option OG)) (FP:Nat→List Nat) (a:Act) (w:World),c≤m→(∀k,k<m→listed.getD k false=true)→(∀(j:Nat),j<m→hv.contains j=true→(listed.getD j false=true↔j<c))→
   St N B Z G FP ds (runM (fun k=>listed.getD k false) 0 (all.take m) xs T0) (zU H0 hs c) a w→GLt L G0 G→Evo Z0 FP0 w0 Z FP w→wpListIn (Wd ro) mm P all.toArray Φ (all.drop m) a w:=by
  intro listed c Z G FP a w hcm hall hcl hs' hG hE
  have hTe:runM (fun k=>listed.getD k false) 0 (all.take m) xs T0=runM (fun _=>true) 0 (all.take m) xs T0:=by
   funext t
   refine zBF _ _ _ _ _ rfl fun j hj=>?_
   obtain ⟨oj,h1,h2,h3⟩:=zBa hj
   simp only[Nat.zero_add]
   exact hall j h3
  have hHe:zU H0 hs m=zU H0 hs c:=zC7 hc0 m c hcm (by omega) fun j h1 h2=>by
   cases hv' : hv.contains j with
   | false=>rfl
   | true=>have:=(hcl j h2 hv').1 (hall j h2);omega
  exact hend Z G FP a w (by rw[←hTe,hHe];exact hs') hG hE
 intro fuel
 induction fuel with
 | zero =>
  intro listed c Z G FP a w hsz hf hc hm hcm hcl hs' hG hE
  have hall:=zBq (Nat.le_zero.1 hf)
  have hml' : all.length≤m:=by
   rcases Nat.lt_or_ge m all.length with h | h
   ·have h1:=hm m (Nat.le_refl _) h
    rw[hall m (by omega)] at h1;cases h1
   ·exact h
  have hno:Region.ready .any all.toArray listed=[]:=by
   rw[List.eq_nil_iff_forall_not_mem]
   intro i hi
   obtain ⟨h1,o,ho,_⟩:=mem_ready.1 hi
   rw[List.getElem?_toArray] at ho
   have hi':=(List.getElem?_eq_some_iff.1 ho).1
   have h2:=hall i (by omega)
   rw[Array.getD_eq_getD_getElem?,zAJ h1] at h2
   simp at h2
  refine ⟨hno,?_⟩
  have:=fin listed c Z G FP a w hcm (fun k hk=>hall k (by omega)) hcl hs' hG hE
  rw[List.drop_eq_nil_of_le hml'] at this
  exact this
 | succ fuel ih =>
  intro listed c Z G FP a w hsz hf hc hm hcm hcl hs' hG hE
  by_cases hall:∀k,k<m→listed.getD k false=true
  ·have h:=fin listed c Z G FP a w hcm hall hcl hs' hG hE
   refine zFe hA.base (all.drop m) m (fuel+1) listed a w rfl (Nat.le_refl _) hml hsz hf hc (fun i hi=>⟨fun hx=>?_,fun hx=>hall i hx⟩) h
   rcases Nat.lt_or_ge i m with h' | h'
   ·exact h'
   ·rw[hm i h' hi] at hx;cases hx
  ·have hex:∃k,k<m∧listed.getD k false=false:=by
    apply Classical.byContradiction
    intro hn
    refine hall fun k h1=>?_
    cases hx:listed.getD k false with
    | true=>rfl
    | false=>exact absurd ⟨k,h1,hx⟩ hn
   obtain ⟨k,⟨hk1,hk3⟩,hkl⟩:=zR (p:=fun k=>k<m∧listed.getD k false=false) hex
   have hkr:k∈Region.ready .any all.toArray listed:=zAh hA.base hsz (by omega) hk3 (fun j hj=>by
    cases hx:listed.getD j false with
    | true=>rfl
    | false=>have:=hkl j ⟨by omega,hx⟩;omega)
   refine ⟨fun h0=>by rw[h0] at hkr;simp at hkr,fun i hi=>?_⟩
   obtain ⟨h1,o,ho,ha⟩:=mem_ready.1 hi
   rw[List.getElem?_toArray] at ho
   have hil:=(List.getElem?_eq_some_iff.1 ho).1
   have hnl:=zAJ h1
   have hnf:listed.getD i false=false:=by rw[Array.getD_eq_getD_getElem?,hnl];rfl
   have him:i<m:=by
    rcases Nat.lt_or_ge i m with h' | h'
    ·exact h'
    ·have:=z2 hA.base hc hi (hA.base.ord k i _ o (by omega) (List.getElem?_eq_getElem (show k<all.length by omega)) ho (.inl h'))
     rw[hk3] at this;cases this
   have hoT:(all.take m)[i]?=some o:=by rw[List.getElem?_take,if_pos him];exact ho
   obtain ⟨x,hx,hcert⟩:=zBx (all.take m) xs hs 0 i T0 H0 o hc0 hoT
   obtain ⟨hok,hnd⟩:=hA.base.ok i o ho
   have hsee:∀t∈zBZ all o,runM (fun k=>decide (k<0+i)) 0 (all.take m) xs T0 t=runM (fun k=>listed.getD k false) 0 (all.take m) xs T0 t:=by
    intro t ht
    refine zBF _ _ _ _ _ rfl fun j hj=>?_
    obtain ⟨oj,hoj,hd,hjm⟩:=zBa hj
    simp only[Nat.zero_add]
    rcases Nat.lt_trichotomy j i with h' | h' | h'
    ·have:=z2 hA.base hc hi (hA.base.ord j i oj o h' hoj ho (.inr (by simp[zBV,hd,ht])))
     rw[this];simp[h']
    ·subst h';rw[hnf];simp
    ·have hjl:=(List.getElem?_eq_some_iff.1 hoj).1
     cases hx:listed.getD j false with
     | false=>simp;omega
     | true =>
      have:=zAL hA.base hc j i oj hoj (hc j oj hoj hx) (hA.base.ord i j o oj h' ho hoj (.inr (by
       unfold zBV
       rw[hd]
       simp[ht])))
      rw[hnf] at this;cases this
   have hcert':=zCd hsee hcert
   rw[Nat.zero_add] at hcert'
   have hdall:all.all (zBT N)=true:=by
    rw[List.all_eq_true]
    intro o' ho'
    obtain ⟨j',hj'⟩:=List.mem_iff_getElem?.1 ho'
    have:=(hA.base.ok j' o' hj').1
    simp only[zI,Bool.and_eq_true] at this
    exact this.1
   have heavyAt:hv.contains i=true→zU H0 hs c=zU H0 hs i∧c≤i:=fun hvi=>by
    have hci:c≤i:=by
     rcases Nat.lt_or_ge i c with h | h
     ·have:=(hcl i him hvi).2 h;rw[hnf] at this;cases this
     ·exact h
    refine ⟨(zC7 hc0 i c hci (by omega) fun j h1 h2=>?_).symm,hci⟩
    cases hv' : hv.contains j with
    | false=>rfl
    | true =>
     have:=z2 hA.base hc hi (hA.hv j i _ o h2 (List.getElem?_eq_getElem (show j<all.length by omega)) ho hv' hvi)
     have:=(hcl j (by omega) hv').1 this
     omega
   have hquiet0:SameTo base.1 (zU H0 hs i) (zU H0 hs c):=by
    rcases Nat.lt_or_ge i c with h | h
    ·exact (zC8 hc0 c i (by omega) (by omega)).1
    ·intro id hid
     exact ((zC8 hc0 i c h (by omega)).1 id hid).symm
   have hquiet:hv.contains i=false→SameTo (bsO hv base i) (zU H0 hs i) (zU H0 hs c):=fun hvi0=>by
    cases hod:hv.contains (1000+i) with
    | false =>
     have:bsO hv base i=base.1:=by unfold bsO;rw[if_neg (by rw[hvi0];simp),if_neg (by rw[hod];simp)]
     rw[this];exact hquiet0
    | true =>
     have:bsO hv base i=base.2:=by unfold bsO;rw[if_neg (by rw[hvi0];simp),if_pos hod]
     rw[this]
     rcases Nat.lt_or_ge i c with h | h
     ·refine (zCB hc0 c i (by omega) (by omega) fun j h1 h2 hv' hw=>?_).1
      have hjl:j<all.length:=by omega
      have hlj:=(hcl j (by omega) hv').2 h2
      rcases Nat.lt_or_ge i j with h3 | h3
      ·have:=zAL hA.base hc j i all[j] (List.getElem?_eq_getElem hjl) (hc j all[j] (List.getElem?_eq_getElem hjl) hlj) (hA.od2 i j o all[j] h3 ho (List.getElem?_eq_getElem hjl) hod hw)
       rw[hnf] at this;cases this
      ·obtain rfl:i=j:=by omega
       rw[hnf] at hlj;cases hlj
     ·intro id hid
      refine ((zCB hc0 i c h (by omega) fun j h1 h2 hv' hw=>?_).1 id hid).symm
      have:=z2 hA.base hc hi (hA.od1 j i _ o h2 (List.getElem?_eq_getElem (show j<all.length by omega)) ho hw hod)
      have:=(hcl j (by omega) hv').1 this
      omega
   have hadd:=zC6 hnl
   have hcl2:=zBD hc (fun o' ho' e he hb=>by rw[ho] at ho';cases ho';exact ha e (by simpa using he) hb)
   have hT:runM (fun k=>(listed.setIfInBounds i true).getD k false) 0 (all.take m) xs T0=updO (runM (fun k=>listed.getD k false) 0 (all.take m) xs T0) o.dst x:=by
    refine zBz (all.take m) xs 0 i T0 o x hoT hx ?_ ?_ ?_ ?_
    ·simp only[Nat.zero_add];exact zAH (by omega)
    ·simp only[Nat.zero_add];exact hnf
    ·intro k hk
     simp only[Nat.zero_add] at hk
     simp only[Array.getD_eq_getD_getElem?,Array.getElem?_setIfInBounds_ne (Ne.symm hk)]
    ·intro k hk hS t ht hdk
     simp only[Nat.zero_add] at hS
     obtain ⟨ok,hok',hd,_⟩:=zBa hdk
     have:=zAL hA.base hc k i ok hok' (hc k ok hok' hS) (hA.base.ord i k o ok hk ho hok' (.inr (by
      unfold zBV
      rw[ht]
      simp[hd])))
     rw[hnf] at this;cases this
   have hm2:∀j,m≤j→j<all.length→(listed.setIfInBounds i true).getD j false=false:=fun j h1 h2=>by
    cases hx:(listed.setIfInBounds i true).getD j false with
    | false=>rfl
    | true =>
     rcases zQ hx with rfl | hx
     ·omega
     ·rw[hm j h1 h2] at hx;cases hx
   cases hvi:hv.contains i with
   | true =>
    rw[hvi] at hcert'
    obtain ⟨hHc,hci⟩:=heavyAt hvi
    refine zEZ (L:=L) (Hn:=zU H0 hs (i+1)) hdall ho hok hnd hcert' hs' (hB Z FP w hE) hG.len (fun h=>by cases h) (fun _=>⟨hHc,rfl⟩) fun Z' G' FP' a' w' hs2 hG' hE'=>?_
    refine ih (listed.setIfInBounds i true) (i+1) Z' G' FP' a' w' (by simpa using hsz) (by omega) hcl2 hm2 (by omega) (fun j hj hv'=>?_) (by rw[hT];exact hs2) (hG.trans hG') (hE.trans hE')
    constructor
    ·intro hxx
     rcases zQ hxx with rfl | hxx
     ·omega
     ·have:=(hcl j hj hv').1 hxx;omega
    ·intro hlt
     by_cases e:j=i
     ·subst e;exact zAH (by omega)
     ·refine z8 ?_
      exact z2 hA.base hc hi (hA.hv j i _ o (by omega) (List.getElem?_eq_getElem (show j<all.length by omega)) ho hv' hvi)
   | false =>
    rw[hvi] at hcert'
    refine zEZ (L:=L) (Hn:=zU H0 hs c) hdall ho hok hnd hcert' hs' (hB Z FP w hE) hG.len (fun _=>⟨rfl,hquiet hvi⟩) (fun h=>by cases h) fun Z' G' FP' a' w' hs2 hG' hE'=>?_
    refine ih (listed.setIfInBounds i true) c Z' G' FP' a' w' (by simpa using hsz) (by omega) hcl2 hm2 hcm (fun j hj hv'=>?_) (by rw[hT];exact hs2) (hG.trans hG') (hE.trans hE')
    rw[←hcl j hj hv']
    constructor
    ·intro hxx
     rcases zQ hxx with rfl | hxx
     ·rw[hvi] at hv';cases hv'
     ·exact hxx
    ·exact z8
end go
section
variable {P:Program} {N L base:Nat} {hv:List Nat} {Q:Exit→KS} {H:Heap}
def isTo:Nat→Heap→Heap→Prop
 | 0,_,_=>True
 | m+1,a::t,b::u=>a=b∧isTo m t u
 | _,_,_=>False
theorem zKQ:∀{m:Nat} {H H' : Heap},isTo m H H'→SameTo m H H'
 | 0,_,_,_=>fun id h=>absurd h (Nat.not_lt_zero _)
 | m+1,a::t,b::u,h=>by
  obtain ⟨rfl,h⟩:=h
  intro id hid
  cases id with
  | zero=>rfl
  | succ id=>simpa using zKQ h id (by omega)
 | _+1,[],_,h=>by simp[isTo] at h
 | _+1,_::_,[],h=>by simp[isTo] at h
def exRm (k:KS) (base:Nat) (res:Res) (d:Option Nat) (T:Nat→HV) (H:Heap):Prop:=onR res fun x H'=>isTo base H H'∧H.length≤H'.length∧k (updO T d x) H'
def exRn (k:KS) (res:Res) (d:Option Nat) (T:Nat→HV) (H:Heap):Prop:=onR res fun x _=>k (updO T d x) H
def zJD (k:KS) (P:Program) (fid:Nat) (H:Heap) (args:List HV) (d:Option Nat) (T:Nat→HV):Prop :=
 ∃n R args',HFn P fid args' R∧zE5 n H args args' R∧k (updO T d (zAN R H).1) (zAN R H).2
def zDf (k:KS) (P:Program) (f:HV) (H:Heap) (args:List HV) (d:Option Nat) (T:Nat→HV):Prop :=
 match f with
 | .fn fid caps=>zJD k P (fnF fid) H (fnA fid .any args caps) d T
 | _=>False
def zFA (k:KS) (P:Program) (f:Option Nat) (H:Heap) (args:List HV) (d:Option Nat) (T:Nat→HV):Prop :=
 match f with
 | some fid=>zJD k P fid H args d T
 | none=>False
def zHr (k:KS) (P:Program) (rv:HV) (name:String) (H:Heap) (args:List HV) (d:Option Nat) (T:Nat→HV):Prop :=
 match rv with
 | .ic t x=>zFA k P (zAd P t name) H (x::args) d T
 | _=>False
def zLE (k:KS) (P:Program) (fid:Nat) (H:Heap) (args:List HV) (d:Option Nat) (T:Nat→HV):Prop :=
 ∃R,HFn P fid args R∧nmL 0 args=true∧k (updO T d (fzo R)) H
def zDe (k:KS) (P:Program) (f:HV) (H:Heap) (args:List HV) (d:Option Nat) (T:Nat→HV):Prop :=
 match f with
 | .fn fid caps=>zLE k P (fnF fid) H (fnA fid .any args caps) d T
 | _=>False
def zEz (k:KS) (P:Program) (f:Option Nat) (H:Heap) (args:List HV) (d:Option Nat) (T:Nat→HV):Prop :=
 match f with
 | some fid=>zLE k P fid H args d T
 | none=>False
def zHq (k:KS) (P:Program) (rv:HV) (name:String) (H:Heap) (args:List HV) (d:Option Nat) (T:Nat→HV):Prop :=
 match rv with
 | .ic t x=>zEz k P (zAd P t name) H (x::args) d T
 | _=>False
def exOm (k:KS) (P:Program) (base:Nat) (d:Option Nat) (op:Op) (T:Nat→HV) (H:Heap):Prop :=
 match op with
 | .call { callee:=.value f,args:=args,argTypes:=_ }=>base≤H.length∧zDf k P (hev T f) H (args.toList.map (hev T)) d T
 | .call { callee:=.invoke rv name,args:=args,argTypes:=_ }=>base≤H.length∧zHr k P (hev T rv) name H (args.toList.map (hev T)) d T
 | op=>exRm k base (rop P T H op) d T H
def exOn (k:KS) (P:Program) (base:Nat) (d:Option Nat) (op:Op) (T:Nat→HV) (H:Heap):Prop :=
 match op with
 | .call { callee:=.value f,args:=args,argTypes:=_ }=>zDe k P (hev T f) H (args.toList.map (hev T)) d T
 | .call { callee:=.invoke rv name,args:=args,argTypes:=_ }=>zHq k P (hev T rv) name H (args.toList.map (hev T)) d T
 | .buildSlice t len parts=>exRn k (zAE P T H t len parts.toList) d T H
 | op=>(zBy op=true∨(op.operands.toList.all fun y=>nm base (hev T y))=true)∧exRn k (ropQ P T H op) d T H
def exOe (k:KS) (P:Program) (base:Nat) (h:Bool) (d:Option Nat) (op:Op) (T:Nat→HV) (H:Heap):Prop :=
 match h with
 | true=>exOm k P base d op T H
 | false=>exOn k P base d op T H
def zDh (k:KS) (P:Program) (base:Nat) (h:Bool) (v:HV) (b:Bool) (d:Option Nat) (op:Op) (T:Nat→HV) (H:Heap):Prop :=
 match v with
 | .v (.bool c)=>(c=b→exOe k P base h d op T H)∧(c=(!b)→k (updO T d (.v undef)) H)
 | .v (.tuple _)=>k (updO T d (.v undef)) H
 | _=>False
def exBm (k:KS) (P:Program) (base:Nat) (h:Bool) (t:Option Nat) (b:Bool) (d:Option Nat) (op:Op) (T:Nat→HV) (H:Heap):Prop :=
 match t with
 | some t=>zDh k P base h (T t) b d op T H
 | none=>False
def exGm (P:Program) (base:Nat) (h:Bool) (all:List Oper) (o:Oper) (k:KS) (T:Nat→HV) (H:Heap):Prop :=
 match o.guard with
 | none=>exOe k P base h o.dst o.op T H
 | some (j,b)=>exBm k P base h (zA7 all j) b o.dst o.op T H
def exM (P:Program) (base:Nat×Nat) (hv:List Nat) (all:List Oper) (k:KS):Nat→List Oper→KS
 | _,[]=>k
 | j,o::l=>fun T H=>exGm P (bsO hv base j) (hv.contains j) all o (exM P base hv all k (j+1) l) T H
theorem zTo {k:KS} {d:Option Nat} {op:Op} {T:Nat→HV} (h:exOm k P base d op T H):∃x H',zUs P base T H op x H'∧k (updO T d x) H':=by
 have named:∀(R:HV),base≤H.length→SameTo base H (zAN R H).2∧H.length≤(zAN R H).2.length:=fun R hb=>by
  obtain ⟨B,hB⟩:=zKI R H
  rw[hB]
  exact ⟨SameTo.app B hb,by simp⟩
 unfold exOm at h
 split at h
 ·rename_i f args tys
  obtain ⟨hb,h⟩:=h
  unfold zDf at h
  split at h
  ·rename_i fid caps hf
   obtain ⟨n,R,args',h1,h2,h3⟩:=h
   obtain ⟨k1,k2⟩:=named R hb
   exact ⟨_,_,⟨k1,k2,.inl ⟨f,args,tys,fid,caps,n,R,args',rfl,hf,h1,h2,rfl⟩⟩,h3⟩
  ·exact h.elim
 ·rename_i rv name args tys
  obtain ⟨hb,h⟩:=h
  unfold zHr at h
  split at h
  ·rename_i t y hf
   unfold zFA at h
   split at h
   ·rename_i fid hm
    obtain ⟨n,R,args',h1,h2,h3⟩:=h
    obtain ⟨k1,k2⟩:=named R hb
    exact ⟨_,_,⟨k1,k2,.inr (.inl ⟨rv,name,args,tys,t,y,fid,n,R,args',rfl,hf,hm,h1,h2,rfl⟩)⟩,h3⟩
   ·exact h.elim
  ·exact h.elim
 ·unfold exRm at h
  cases hr:rop P T H op with
  | none=>rw[hr] at h;exact h.elim
  | some q =>
   obtain ⟨p,x,H'⟩:=q
   rw[hr] at h
   exact ⟨x,H',⟨zKQ h.2.1,h.2.2.1,.inr (.inr ⟨p,h.1,hr⟩)⟩,h.2.2.2⟩
theorem zTl {k:KS} {d:Option Nat} {op:Op} {T:Nat→HV} (h:exOn k P base d op T H):∃x,zUr P base T H op x∧k (updO T d x) H:=by
 unfold exOn at h
 split at h
 ·rename_i f args tys
  unfold zDe at h
  split at h
  ·rename_i fid caps hf
   obtain ⟨R,h1,h2,h3⟩:=h
   exact ⟨_,.inr (.inl ⟨f,args,tys,fid,caps,R,rfl,hf,h1,h2,rfl⟩),h3⟩
  ·exact h.elim
 ·rename_i rv name args tys
  unfold zHq at h
  split at h
  ·rename_i t y hf
   unfold zEz at h
   split at h
   ·rename_i fid hm
    obtain ⟨R,h1,h2,h3⟩:=h
    exact ⟨_,.inr (.inr (.inl ⟨rv,name,args,tys,t,y,fid,R,rfl,hf,hm,h1,h2,rfl⟩)),h3⟩
   ·exact h.elim
  ·exact h.elim
 ·rename_i t len parts
  unfold exRn at h
  cases hr:zAE P T H t len parts.toList with
  | none=>rw[hr] at h;exact h.elim
  | some q =>
   obtain ⟨p,x,H'⟩:=q
   rw[hr] at h
   exact ⟨x,.inr (.inr (.inr ⟨t,len,parts,p,H',rfl,h.1,hr⟩)),h.2⟩
 ·obtain ⟨hi,h⟩:=h
  unfold exRn at h
  cases hr:ropQ P T H op with
  | none=>rw[hr] at h;exact h.elim
  | some q =>
   obtain ⟨p,x,H'⟩:=q
   rw[hr] at h
   exact ⟨x,.inl ⟨p,H',h.1,hr,hi.imp id fun hi y hy=>List.all_eq_true.1 hi y hy⟩,h.2⟩
theorem zKa {k:KS} {d:Option Nat} {h0:Bool} {op:Op} {T:Nat→HV} (h:exOe k P base h0 d op T H):∃x H',zFI P base h0 T H op x H'∧k (updO T d x) H':=by
 cases h0 with
 | true=>exact zTo h
 | false =>
  obtain ⟨x,h1,h2⟩:=zTl h
  exact ⟨x,H,⟨h1,rfl⟩,h2⟩
theorem zUD {all:List Oper} {h0:Bool} {o:Oper} {k:KS} {T:Nat→HV} (h:exGm P base h0 all o k T H):∃x H',zE7 P base h0 all T H o x H'∧k (updO T o.dst x) H':=by
 unfold exGm at h
 unfold zE7
 split at h
 ·rename_i hg
  try rw[hg]
  exact zKa h
 ·rename_i j b hg
  try rw[hg]
  try simp only
  unfold exBm at h
  split at h
  ·rename_i t ht
   unfold zDh at h
   split at h
   ·rename_i c hv
    by_cases hcb:c=b
    ·obtain ⟨x,H',h1,h2⟩:=zKa (h.1 hcb)
     exact ⟨x,H',⟨t,ht,.inl ⟨c,hv,fun _=>h1,fun hc=>by subst hcb;cases c <;> simp at hc⟩⟩,h2⟩
    ·have hc:c=(!b):=by cases c <;> cases b <;> simp_all
     exact ⟨.v undef,H,⟨t,ht,.inl ⟨c,hv,fun hc'=>absurd hc' hcb,fun _=>⟨rfl,rfl⟩⟩⟩,h.2 hc⟩
   ·rename_i ts hv
    exact ⟨.v undef,H,⟨t,ht,.inr ⟨ts,hv,rfl,rfl⟩⟩,h⟩
   ·exact h.elim
  ·exact h.elim
theorem zIt {base:Nat×Nat} {all:List Oper} {k:KS}:∀(l:List Oper) (i:Nat) (T:Nat→HV) (H:Heap),exM P base hv all k i l T H→∃xs hs,zFV P base hv all i l T H xs hs∧k (runM (fun _=>true) i l xs T) (zU H hs l.length)
 | [],i,T,H,h=>⟨[],[],⟨rfl,rfl⟩,h⟩
 | o::l,i,T,H,h=>by
  obtain ⟨x,H',h1,h2⟩:=zUD h
  obtain ⟨xs,hs,h3,h4⟩:=zIt l (i+1) _ H' h2
  exact ⟨x::xs,H'::hs,⟨x,H',xs,hs,rfl,rfl,h1,h3⟩,h4⟩
theorem HW.mixed {id:Nat} {all:List Oper} {T:Nat→HV} (n m:Nat) (base:Nat×Nat) (hv:List Nat) (hm:P.follows .mixedOrders=true) (hB:zYH N m hv all=true) (hml:m≤all.length)
  (h:exM P base hv all (ex P N L Q n [.ops all (all.drop m)]) 0 (all.take m) T H):HW P N L (.region id all.toArray true) Q T H:=by
 obtain ⟨xs,hs,hc,hex⟩:=zIt (all.take m) 0 T H h
 have hlm:(all.take m).length=m:=by rw[List.length_take];omega
 rw[hlm] at hex
 intro ro mm B Z G FP ds a w hB' hL hst
 have hA:=zHx hB
 have hEv:Evo Z FP w Z FP { w with drawn:=w.drawn+1 }:=⟨rfl,rfl,rfl,Nat.le_refl _,fun _ _ _=>rfl,fun _ h=>h,fun _ h=>.inl h,fun id b hb=>.inr ⟨id,hb⟩⟩
 have hi:HInv Z G FP H { w with drawn:=w.drawn+1 }:=hst.inv.keep (Nat.le_refl _) (fun _ _=>rfl)
 have hs':=hst.evo hi (GLe.refl _) hEv
 have hallok:(all.all fun o=>zI N o && zAC o)=true:=by
  rw[List.all_eq_true]
  intro o ho
  obtain ⟨j,hj⟩:=List.mem_iff_getElem?.1 ho
  have:=hA.base.ok j o hj
  simp[this.1,this.2]
 have hdrop:((all.drop m).all fun o=>zI N o && zAC o)=true:=by
  rw[List.all_eq_true]
  intro o ho
  exact List.all_eq_true.1 hallok o (List.mem_of_mem_drop ho)
 refine wpIn_region_any hm ?_
 refine z1a (m:=m) (B:=B) (L:=L) (Z0:=Z) (G0:=G) (FP0:=FP) (ds:=ds) (w0:=w) hA hc hml (fun Z' FP' w' hE=>hB'.evo hE) ?_ _ _ 0 Z G FP _ _ (by simp) ?_ ?_ (fun j h1 h2=>?_) (Nat.zero_le _) (fun j hj hv=>?_) ?_ (GLt.refl hL) hEv
 ·intro Z1 G1 FP1 a1 w1 hs1 hG1 hE1
  have:=zCU n [.ops all (all.drop m)] _ _ hex (by simp[zAp,hallok,hdrop]) ro mm B Z G FP w Z1 G1 FP1 ds a1 w1 (hB'.evo hE1) hs1 hG1 hE1
  simp only[M] at this
  exact this
 ·have:∀k:Nat,left (Array.replicate k false)=k:=by intro k;simp[left]
  rw[this];simp
 ·intro j o hj hl
  exfalso
  have hjl:=(List.getElem?_eq_some_iff.1 hj).1
  simp[Array.getD_eq_getD_getElem?,hjl] at hl
 ·simp[Array.getD_eq_getD_getElem?,h2]
 ·simp[Array.getD_eq_getD_getElem?,show j<all.length by omega]
 ·have e:runM (fun k=>(Array.replicate all.toArray.size false).getD k false) 0 (all.take m) xs T=T:=by
   funext t
   rw[zB2]
   intro j _
   simp only[Array.getD_eq_getD_getElem?]
   by_cases hlt:0+j<all.toArray.size
   ·have:0+j<all.length:=by simpa using hlt
    rw[Array.getElem?_eq_getElem (by simpa using hlt)]
    simp
   ·rw[Array.getElem?_eq_none (by simpa using hlt)];rfl
  rw[e]
  exact hs'
end
end Go.Proofs.YtoknohandclcbaaGreat
namespace Go.Proofs.YtoknohandclcbaaGreat
open Go.RowKit
section
variable {P:Program} {all l:List Oper} {k:KS} {d:Option Nat} {T:Nat→HV} {H:Heap} {base j:Nat} {bs:Nat×Nat} {hv:List Nat} {h:Bool}
theorem z1R:exM P bs hv all k j [] T H=k T H:=rfl
theorem z4B {op:Op} {ty:TypeId} {pos:String} {af:Array Edge}:exM P bs hv all k j (⟨d,op,ty,pos,af,none⟩::l) T H=exOe (exM P bs hv all k (j+1) l) P (bsO hv bs j) (hv.contains j) d op T H:=rfl
theorem z1Q {op:Op} {ty:TypeId} {pos:String} {af:Array Edge} {i:Nat} {b:Bool}:exM P bs hv all k j (⟨d,op,ty,pos,af,some (i,b)⟩::l) T H=exBm (exM P bs hv all k (j+1) l) P (bsO hv bs j) (hv.contains j) (zA7 all i) b d op T H:=rfl
theorem zTq {op:Op}:exOe k P base true d op T H=exOm k P base d op T H:=rfl
theorem zQG {op:Op}:exOe k P base false d op T H=exOn k P base d op T H:=rfl
theorem zQH {h h' : Bool} {op:Op} (e:h=h'):exOe k P base h d op T H=exOe k P base h' d op T H:=by rw[e]
theorem zUM {t:Nat} {b:Bool} {op:Op}:exBm k P base h (some t) b d op T H=zDh k P base h (T t) b d op T H:=rfl
theorem zXc {op:Op}:zDh k P base h (.v (.bool true)) true d op T H=exOe k P base h d op T H:=by simp[zDh]
theorem zXf {op:Op}:zDh k P base h (.v (.bool false)) false d op T H=exOe k P base h d op T H:=by simp[zDh]
theorem zXd {op:Op}:zDh k P base h (.v (.bool true)) false d op T H=k (updO T d (.v undef)) H:=by simp[zDh]
theorem zXe {op:Op}:zDh k P base h (.v (.bool false)) true d op T H=k (updO T d (.v undef)) H:=by simp[zDh]
theorem zMm {b:Bool} {op:Op}:zDh k P base h (.v undef) b d op T H=k (updO T d (.v undef)) H:=rfl
theorem zQX {c b:Bool} {op:Op}:zDh k P base h (.v (.bool c)) b d op T H=((c=b→exOe k P base h d op T H)∧(c=(!b)→k (updO T d (.v undef)) H)):=rfl
theorem z1F {p:Prop} {x:HV} {H' : Heap}:exRn k (rv H' p x) d T H=(p∧k (updO T d x) H):=rfl
theorem zT2:exRn k none d T H=False:=rfl
theorem zT3 {p:Prop} {x:HV} {H' : Heap}:exRm k base (some (p,x,H')) d T H=(p∧isTo base H H'∧H.length≤H'.length∧k (updO T d x) H'):=rfl
theorem z1G {p:Prop} {x:HV} {H' : Heap}:exRm k base (rv H' p x) d T H=(p∧isTo base H H'∧H.length≤H'.length∧k (updO T d x) H'):=rfl
theorem zT4:exRm k base none d T H=False:=rfl
theorem zPt {x x' : Res} (e:x=x'):exRn k x d T H=exRn k x' d T H:=by rw[e]
theorem zPu {x x' : Res} (e:x=x'):exRm k base x d T H=exRm k base x' d T H:=by rw[e]
theorem zQW {t t' : Option Nat} {b:Bool} {op:Op} {h h' : Bool} (e:t=t') (e2:h=h'):exBm k P base h t b d op T H=exBm k P base h' t' b d op T H:=by rw[e,e2]
theorem zMn {v v' : HV} {b:Bool} {op:Op} (e:v=v'):zDh k P base h v b d op T H=zDh k P base h v' b d op T H:=by rw[e]
theorem zQS {fid:Nat} {caps args:List HV} (h:fid<4294967296):zDf k P (.fn fid caps) H args d T=zJD k P fid H (args++caps) d T:=by
 show zJD k P (fnF fid) H (fnA fid .any args caps) d T=_
 rw[zG3 h,zFP h]
theorem zKp {fid:Nat} {x:HV} {caps args:List HV} (h:¬fid<4294967296):zDf k P (.fn fid (x::caps)) H args d T=zJD k P (fnF fid) H (x::(args++caps)) d T:=by
 show zJD k P (fnF fid) H (fnA fid .any args (x::caps)) d T=_
 rw[zG4 h];rfl
theorem zJA {f f' : HV} {args args' : List HV} (hf:f=f') (ha:args=args'):zDf k P f H args d T=zDf k P f' H args' d T:=by rw[hf,ha]
theorem zUA {t:TypeId} {x:HV} {name:String} {args:List HV}:zHr k P (.ic t x) name H args d T=zFA k P (zAd P t name) H (x::args) d T:=rfl
theorem zKj {fid:Nat} {args:List HV}:zFA k P (some fid) H args d T=zJD k P fid H args d T:=rfl
theorem zKi {f f' : HV} {name:String} {args args' : List HV} (hf:f=f') (ha:args=args'):zHr k P f name H args d T=zHr k P f' name H args' d T:=by rw[hf,ha]
theorem zIw {f f' : Option Nat} {args args' : List HV} (hf:f=f') (ha:args=args'):zFA k P f H args d T=zFA k P f' H args' d T:=by rw[hf,ha]
theorem zQR {fid:Nat} {caps args:List HV} (h:fid<4294967296):zDe k P (.fn fid caps) H args d T=zLE k P fid H (args++caps) d T:=by
 show zLE k P (fnF fid) H (fnA fid .any args caps) d T=_
 rw[zG3 h,zFP h]
theorem zKo {fid:Nat} {x:HV} {caps args:List HV} (h:¬fid<4294967296):zDe k P (.fn fid (x::caps)) H args d T=zLE k P (fnF fid) H (x::(args++caps)) d T:=by
 show zLE k P (fnF fid) H (fnA fid .any args (x::caps)) d T=_
 rw[zG4 h];rfl
theorem zIz {f f' : HV} {args args' : List HV} (hf:f=f') (ha:args=args'):zDe k P f H args d T=zDe k P f' H args' d T:=by rw[hf,ha]
theorem zTz {t:TypeId} {x:HV} {name:String} {args:List HV}:zHq k P (.ic t x) name H args d T=zEz k P (zAd P t name) H (x::args) d T:=rfl
theorem zKh {fid:Nat} {args:List HV}:zEz k P (some fid) H args d T=zLE k P fid H args d T:=rfl
theorem zKg {f f' : HV} {name:String} {args args' : List HV} (hf:f=f') (ha:args=args'):zHq k P f name H args d T=zHq k P f' name H args' d T:=by rw[hf,ha]
theorem zIv {f f' : Option Nat} {args args' : List HV} (hf:f=f') (ha:args=args'):zEz k P f H args d T=zEz k P f' H args' d T:=by rw[hf,ha]
theorem zTp {f:Operand} {args:List Operand} {tys:Array TypeId}:exOm k P base d (.call { callee:=.value f,args:=List.toArray args,argTypes:=tys }) T H=(base≤H.length∧zDf k P (hev T f) H (args.map (hev T)) d T):=rfl
theorem zMd {rv:Operand} {name:String} {args:List Operand} {tys:Array TypeId}:exOm k P base d (.call { callee:=.invoke rv name,args:=List.toArray args,argTypes:=tys }) T H=(base≤H.length∧zHr k P (hev T rv) name H (args.map (hev T)) d T):=rfl
theorem zTm {f:Operand} {args:List Operand} {tys:Array TypeId}:exOn k P base d (.call { callee:=.value f,args:=List.toArray args,argTypes:=tys }) T H=zDe k P (hev T f) H (args.map (hev T)) d T:=rfl
theorem zMb {rv:Operand} {name:String} {args:List Operand} {tys:Array TypeId}:exOn k P base d (.call { callee:=.invoke rv name,args:=List.toArray args,argTypes:=tys }) T H=zHq k P (hev T rv) name H (args.map (hev T)) d T:=rfl
theorem zGb {t:TypeId} {len:Nat} {ps:List (Nat×Operand)}:exOn k P base d (.buildSlice t len (List.toArray ps)) T H=exRn k (zAE P T H t len ps) d T H:=rfl
theorem zJl {op:Op} {q:Prop} {b:Bool} (hi:zBy op=false) (hb:(op.operands.toList.all fun y=>nm base (hev T y))=b):((zBy op=true∨(op.operands.toList.all fun y=>nm base (hev T y))=true)∧q)=(b=true∧q):=by
 rw[hi,hb];simp
theorem zCf {op:Op} {q:Prop} {r:Prop} (hi:zBy op=true):((zBy op=true∨r)∧q)=q:=by
 rw[hi];simp
theorem zTg {x:Operand}:exOn k P base d (.move x) T H=exRn k (ropQ P T H (.move x)) d T H:=zCf rfl
theorem zMc {x:Operand}:exOn k P base d (.assign x) T H=exRn k (ropQ P T H (.assign x)) d T H:=zCf rfl
theorem zTf {c x y:Operand}:exOn k P base d (.pick c x y) T H=exRn k (ropQ P T H (.pick c x y)) d T H:=zCf rfl
theorem zQD {t:TypeId} {ps:Array (Nat×Operand)}:exOn k P base d (.build t ps) T H=exRn k (ropQ P T H (.build t ps)) d T H:=zCf rfl
theorem zXW {op:BinOp} {t t' : TypeId} {x y:Operand}:exOn k P base d (.binOp op t x y t') T H=exRn k (ropQ P T H (.binOp op t x y t')) d T H:=zCf rfl
theorem z1K {op:UnOp} {t:TypeId} {x:Operand}:exOn k P base d (.unOp op t x) T H=exRn k (ropQ P T H (.unOp op t x)) d T H:=zCf rfl
theorem zQB {t:TypeId} {x:Operand}:exOn k P base d (.makeInterface t x) T H=exRn k (ropQ P T H (.makeInterface t x)) d T H:=zCf rfl
theorem zTh {f:Nat} {x:Operand} {cs:List Operand}:exOn k P base d (.makeFunc (.func f) (List.toArray [x]) (List.toArray cs)) T H=exRn k (ropQ P T H (.makeFunc (.func f) (List.toArray [x]) (List.toArray cs))) d T H:=zCf rfl
theorem zTj {f:Nat} {cs:List Operand}:exOn k P base d (.makeFunc (.func f) #[] (List.toArray cs)) T H=exRn k (ropQ P T H (.makeFunc (.func f) #[] (List.toArray cs))) d T H:=zCf rfl
theorem zQC {t:TypeId} {x:Operand} {i:Nat}:exOn k P base d (.field t x i) T H=exRn k (ropQ P T H (.field t x i)) d T H:=zCf rfl
theorem zQA {t:TypeId} {x i:Operand}:exOn k P base d (.index t x i) T H=exRn k (ropQ P T H (.index t x i)) d T H:=zCf rfl
theorem zK9 {x:Operand} {i:Nat}:exOn k P base d (.extract x i) T H=exRn k (ropQ P T H (.extract x i)) d T H:=zCf rfl
theorem zTi {t:TypeId} {a:Operand}:exOn k P base d (.load t a) T H=(nm base (hev T a)=true∧exRn k (ropQ P T H (.load t a)) d T H):=zJl rfl (by simp[Op.operands,Call.operands])
theorem zIo {x:Operand}:exOn k P base d (.nilCheck x) T H=(nm base (hev T x)=true∧exRn k (ropQ P T H (.nilCheck x)) d T H):=zJl rfl (by simp[Op.operands,Call.operands])
theorem zTk {s t:TypeId} {x:Operand}:exOn k P base d (.convert s t x) T H=(nm base (hev T x)=true∧exRn k (ropQ P T H (.convert s t x)) d T H):=zJl rfl (by simp[Op.operands,Call.operands])
theorem zHQ {t:TypeId} {x:Operand} {i:Nat}:exOn k P base d (.fieldAddr t x i) T H=(nm base (hev T x)=true∧exRn k (ropQ P T H (.fieldAddr t x i)) d T H):=zJl rfl (by simp[Op.operands,Call.operands])
theorem zHP {t:TypeId} {x i:Operand}:exOn k P base d (.indexAddr t x i) T H=((nm base (hev T x) && nm base (hev T i))=true∧exRn k (ropQ P T H (.indexAddr t x i)) d T H):=zJl rfl (by simp[Op.operands,Call.operands])
theorem zXV {x:Operand} {t:TypeId}:exOn k P base d (.call { callee:=.builtin .len,args:=#[x],argTypes:=#[t] }) T H=(nm base (hev T x)=true∧exRn k (ropQ P T H (.call { callee:=.builtin .len,args:=#[x],argTypes:=#[t] })) d T H):=zJl rfl (by simp[Op.operands,Call.operands])
theorem zXU {x y:Operand} {t u:TypeId}:exOn k P base d (.call { callee:=.builtin .max,args:=#[x,y],argTypes:=#[t,u] }) T H=((nm base (hev T x) && nm base (hev T y))=true∧exRn k (ropQ P T H (.call { callee:=.builtin .max,args:=#[x,y],argTypes:=#[t,u] })) d T H):=zJl rfl (by simp[Op.operands,Call.operands])
theorem zXT {x y:Operand} {t u:TypeId}:exOn k P base d (.call { callee:=.builtin .min,args:=#[x,y],argTypes:=#[t,u] }) T H=((nm base (hev T x) && nm base (hev T y))=true∧exRn k (ropQ P T H (.call { callee:=.builtin .min,args:=#[x,y],argTypes:=#[t,u] })) d T H):=zJl rfl (by simp[Op.operands,Call.operands])
theorem zQF {t:TypeId}:exOm k P base d (.alloc t) T H=exRm k base (zHc P H t) d T H:=rfl
theorem zXX {t:TypeId} {x:Operand}:exOm k P base d (.box t x) T H=exRm k base (rbox P H t (hev T x)) d T H:=rfl
theorem zGc {t:TypeId} {len:Nat} {ps:List (Nat×Operand)}:exOm k P base d (.buildSlice t len (List.toArray ps)) T H=exRm k base (zAx P T H t len ps) d T H:=rfl
theorem zHR {t:TypeId} {x y:Operand}:exOm k P base d (.makeSlice t x y) T H=exRm k base (zCP P H t (hev T x) (hev T y)) d T H:=rfl
theorem zTn {t:TypeId} {a:Operand}:exOm k P base d (.load t a) T H=exRm k base (zJw P H t (hev T a)) d T H:=rfl
theorem zQE {t:TypeId} {a x:Operand}:exOm k P base d (.store t a x) T H=exRm k base (zJp P H t (hev T a) (hev T x)) d T H:=rfl
theorem zMe {s x:Operand} {t:TypeId}:exOm k P base d (.call { callee:=.builtin .append,args:=#[s,x],argTypes:=#[t,t] }) T H=exRm k base (zCo P H t (hev T s) (hev T x)) d T H:=by
 show exRm k base (if t=t then zCo P H t (hev T s) (hev T x) else none) d T H=_
 rw[if_pos rfl]
theorem zXy {fid:Nat} {args args' : List HV} {R:HV} (n:Nat) (spec:HFn P fid args' R) (hargs:args.map (fz n H)=args') (hnz:nz R=true) (h:k (updO T d (zAN R H).1) (zAN R H).2):zJD k P fid H args d T :=
 ⟨n,R,_,spec,.inl ⟨hargs,hnz⟩,h⟩
theorem zBd {fid:Nat} {args args' : List HV} {R:HV} (spec:HFn P fid args' R) (hargs:args=args') (hnm:nmL 0 args=true) (h:k (updO T d (zAN R H).1) (zAN R H).2):zJD k P fid H args d T :=
 ⟨0,R,_,spec,.inr ⟨hargs,hnm⟩,h⟩
theorem zBc {fid:Nat} {args args' : List HV} {R:HV} (spec:HFn P fid args' R) (hargs:args=args') (hnm:nmL 0 args=true) (h:k (updO T d (fzo R)) H):zLE k P fid H args d T:=by
 subst hargs
 exact ⟨R,spec,hnm,h⟩
theorem zSj {H H' : Heap}:isTo 0 H H'=True:=by cases H <;> cases H' <;> rfl
theorem zSk {m:Nat} {a:Option HObj} {t u:Heap}:isTo (m+1) (a::t) (a::u)=isTo m t u:=by simp[isTo]
end
attribute [congr] zPt zPu zQW zMn zJA zKi zIw zIz zKg zIv zQH
attribute [go_sem high] zXc zXf zXd zXe zMm zTq zQG
attribute [go_sem] bsO z1F zT2 zT3 z1G zT4 zUM zQX zQS zKp zKo zUA zKj zQR zTz zKh zSj zSk List.contains_cons List.contains_nil
attribute [go_sem ↓] z1R z4B z1Q zTp zMd zTm zMb zGb zMe zTg zMc zTf zQD zXW z1K zQB zTj zTh zQC zQA zK9 zTi zIo zTk zHQ zHP zXV zXU zXT zQF zXX zGc zHR zTn zQE
end Go.Proofs.YtoknohandclcbaaGreat
