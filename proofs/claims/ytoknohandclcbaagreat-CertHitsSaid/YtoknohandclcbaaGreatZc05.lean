/- Parts of the proof: HiZ, HiS. -/
import Derived.Test.YtoknohandclcbaaGreatZc04
set_option linter.unusedSectionVars false
set_option linter.unusedVariables false
set_option linter.unusedSimpArgs false
namespace Go.Proofs.YtoknohandclcbaaGreat
open Go.RowKit
section
variable {P:Program} {H:Heap}
theorem zQa {f:FuncId} {args args' : List HV} {R:HV} {n:Nat} (h:HFn P f args' R) (hL:zEX n H args args' R) (Z:Nat→Prop) (G:List (Option OG)) (FP:Nat→List Nat) (w:World) (vals:List Value) (hi:HInv Z G FP H w) (ha:RL Z G w args vals []) :
  Calls P f vals.toArray w (fun e w'=>∃v Z',e=.returned v∧HInv Z' G FP H w'∧RV Z' G w' (fzo R) v []∧Evo Z FP w Z' FP w'):=by
 rcases hL with ⟨rfl,hnz⟩ | ⟨rfl,hnm⟩
 ·have hzlt:∀b,Zall Z FP b→b<w.heap.size:=by
   rintro b (hb | ⟨id,hb⟩)
   ·exact hi.zlt b hb
   ·exact hi.flt id b hb
  have ha' : RL (Zall Z FP) [] w (args.map (fz n H)) vals []:=zFA (fr:=[]) (fun h y g hg hr=>zId hi n h y g (fun b hb=>by have:=hg b hb;simp at this) hr) _ _ _ (by simp) ha
  refine Calls.mono (h.2 _ [] _ w vals (HInv.empty hzlt (hi.glob.keep (fun b hb=>.inl hb) (fun _ _=>rfl))) ha') ?_
  rintro e w' ⟨v,r,H',Z',G',FP',fr,rfl,rfl,hlen,hi',hr,hnd,hfr1,hfr2,hG,hE⟩
  have hk:∀b,b<w.heap.size→w'.heap[b]?=w.heap[b]?:=fun b hb=>hE.keep b hb (by simp)
  have hr':=zGI (Z':=Z) r _ G v fr hnz hr
  have hnew:∀b∈fr,w.heap.size≤b:=fun b hb=>by
   rcases hfr2 b hb with h | ⟨id,h⟩
   ·exact h
   ·simp at h
  refine ⟨v,fun b=>Z b∨b∈fr,rfl,?_,?_,⟨hE.os,hE.tape,hE.output,hE.size,fun b hb _=>hk b hb,fun _ h=>.inl h,fun b hb=>hb.imp id fun h=>.inl (hnew b h),fun id b hb=>.inr ⟨id,hb⟩⟩⟩
  ·refine (hi.keep hE.size (fun b hb=>hk b (hzlt b hb))).zmore (fun b hb=>.inl hb) (fun b hb=>?_) (fun id b hb hz=>?_)
   ·rcases hb with hb | hb
    ·exact Nat.lt_of_lt_of_le (hi.zlt b hb) hE.size
    ·exact (hfr1 b hb).2.1
   ·rcases hz with hz | hz
    ·exact hi.zfp id b hb hz
    ·have:=hi.flt id b hb;have:=hnew b hz;omega
  ·exact RV.nil_keep (fun _ _=>rfl) (fun _ h=>h) (zBD G) (zBQ (Z':=fun b=>Z b∨b∈fr) r G v fr ⟨fun b hb=>.inl hb,fun b hb=>.inr hb⟩ hr')
 ·have ha' : RL Z [] w args vals []:=by
   have:=zAp args 0 G vals [] hnm ha
   simpa using this
  refine Calls.mono (h.2 Z [] _ w vals (HInv.empty hi.zlt hi.glob) ha') ?_
  rintro e w' ⟨v,r,H',Z',G',FP',fr,rfl,rfl,hlen,hi',hr,hnd,hfr1,hfr2,hG,hE⟩
  have hk:∀b,b<w.heap.size→w'.heap[b]?=w.heap[b]?:=fun b hb=>hE.keep b hb (by simp)
  have hnew:∀b∈fr,w.heap.size≤b:=fun b hb=>by
   rcases hfr2 b hb with h | ⟨id,h⟩
   ·exact h
   ·simp at h
  have hznew:∀b,Z' b→Z b∨w.heap.size≤b:=fun b hb=>by
   rcases hE.znew b hb with h | h | ⟨id,h⟩
   ·exact .inl h
   ·exact .inr h
   ·simp at h
  refine ⟨v,fun b=>Z' b∨b∈fr,rfl,?_,?_,⟨hE.os,hE.tape,hE.output,hE.size,fun b hb _=>hk b hb,fun b h=>.inl (hE.zle b h),fun b hb=>?_,fun id b hb=>.inr ⟨id,hb⟩⟩⟩
  ·refine (hi.keep hE.size (fun b hb=>hk b (by
    rcases hb with hb | ⟨id,hb⟩
    ·exact hi.zlt b hb
    ·exact hi.flt id b hb))).zmore (fun b hb=>.inl (hE.zle b hb)) (fun b hb=>?_) (fun id b hb hz=>?_)
   ·rcases hb with hb | hb
    ·exact hi'.zlt b hb
    ·exact (hfr1 b hb).2.1
   ·have hlt:=hi.flt id b hb
    rcases hz with hz | hz
    ·rcases hznew b hz with h | h
     ·exact hi.zfp id b hb h
     ·omega
    ·have:=hnew b hz;omega
  ·exact RV.nil_keep (fun _ _=>rfl) (fun _ h=>h) (zBD G) (zBQ (Z':=fun b=>Z' b∨b∈fr) r G' v fr ⟨fun b hb=>.inl hb,fun b hb=>.inr hb⟩ hr)
  ·rcases hb with hb | hb
   ·rcases hznew b hb with h | h
    ·exact .inl h
    ·exact .inr (.inl h)
   ·exact .inr (.inl (hnew b hb))
theorem HInv.shut {Z:Nat→Prop} {G:List (Option OG)} {FP:Nat→List Nat} {w:World} {ob:HObj} {v:Value} (hi:HInv Z G FP (H++[some ob]) w) (hnm:nmH H.length (H++[some ob])=true) (hv:RV Z G w (.hd H.length 0 ob.rows.length) v []) :
  ∃Z' FP',HInv Z' (G.take H.length) FP' H w∧RV Z' (G.take H.length) w (.sl (fzoR ob.rows)) v []∧Evo Z FP w Z' FP' w:=by
 have ho:(H++[some ob])[H.length]?=some (some ob):=by simp
 obtain ⟨og,hgo,hOB,hview⟩:=zEK hi ho (by omega) hv
 have hi2:=hi.freeze H.length
 have hset:(H++[some ob]).set H.length none=H++[none]:=by simp
 rw[hset] at hi2
 have hnm' : nmH H.length (H++[none])=true:=by
  simpa [nmH] using hnm
 have hi3:=hi2.trunc H.length hnm'
 have e1:(H++[none]).take H.length=H:=by simp
 have e2:(G.set H.length none).take H.length=G.take H.length:=by
  rw[List.take_set]
  exact List.set_eq_of_length_le (by rw[List.length_take];omega)
 rw[e1,e2] at hi3
 refine ⟨_,_,hi3,?_,?_⟩
 ·unfold View at hview
  simp only[RV]
  split at hview
  ·rename_i hbn
   obtain ⟨hview,hv1,hv2⟩:=hview
   have hrr:ob.rows=[]:=List.eq_nil_of_length_eq_zero hv2
   exact ⟨trivial,none,0,by rw[hview,hrr];rfl,by rw[hrr];simp[fzoR],by simp[maxLen],.inl (by rw[hrr];rfl)⟩
  ·rename_i b hb
   obtain ⟨ad,hy,hA⟩:=hview
   obtain ⟨b',cells,f,e1,e2,e3,e4,e5,e6,e7⟩:=hOB.cells_ hb
   rw[hb] at e1;cases e1
   refine ⟨trivial,some ad,og.cap-0,by rw[zAZ];exact hy,by rw[zAZ];omega,by omega,?_⟩
   by_cases h0:ob.rows.length=0
   ·exact .inl (List.eq_nil_of_length_eq_zero (by rw[zAZ];exact h0))
   ·refine .inr ⟨b,0,by rw[hA (.inr rfl)];simp,.inr (by rw[e2];simp),?_,?_⟩
    ·refine zBy (sz:=ob.sz) fun r hr=>?_
     rw[zBv] at hr
     obtain ⟨r',hr',rfl⟩:=List.mem_map.1 hr
     rw[zA0];exact hOB.len r' hr'
    ·exact zCN ob.rows G b 0 f ⟨fun b hb=>.inl hb,fun b hb=>.inr (by rw[e2];simp[hb])⟩ e7
 ·refine ⟨rfl,rfl,rfl,Nat.le_refl _,fun _ _ _=>rfl,fun _ h=>.inl h,fun b hb=>?_,fun j b hb=>?_⟩
  ·rcases hb with hb | hb
   ·exact .inl hb
   ·exact .inr (.inr ⟨_,hb⟩)
  ·by_cases hj:j<H.length
   ·simp only[if_pos hj] at hb
    split at hb
    ·simp at hb
    ·exact .inr ⟨j,hb⟩
   ·simp only[if_neg hj] at hb;simp at hb
def zJF (P:Program) (T:Nat→HV) (H:Heap) (op:Op) (x:HV):Prop :=
 (∃(p:Prop) (H' : Heap),p∧ropQ P T H op=some (p,x,H'))∨
 (∃f args tys fid caps n R args',op=.call { callee:=.value f,args:=args,argTypes:=tys }∧hev T f=.fn fid caps∧HFn P (fnF fid) args' R∧zEX n H (fnA fid .any (args.toList.map (hev T)) caps) args' R∧x=fzo R)∨
 (∃rv name args tys t y fid n R args',op=.call { callee:=.invoke rv name,args:=args,argTypes:=tys }∧hev T rv=.ic t y∧zAb P t name=some fid∧HFn P fid args' R∧zEX n H (y::args.toList.map (hev T)) args' R∧x=fzo R)∨
 (∃t len parts p H',op=.buildSlice t len parts∧p∧z2 P T H t len parts.toList=some (p,x,H'))
def zFB (P:Program) (all:List Oper) (T:Nat→HV) (H:Heap) (o:Oper) (x:HV):Prop :=
 match o.guard with
 | none=>zJF P T H o.op x
 | some (j,b)=>∃t,zA4 all j=some t∧((∃c,T t=.v (.bool c)∧(c=b→zJF P T H o.op x)∧(c=(!b)→x=.v undef))∨∃ts,T t=.v (.tuple ts)∧x=.v undef)
def zUq (P:Program) (H:Heap) (all:List Oper):List Oper→(Nat→HV)→List HV→Prop
 | [],_,xs=>xs=[]
 | o::l,T,xs=>∃x xs',xs=x::xs'∧zFB P all T H o x∧zUq P H all l (updO T o.dst x) xs'
def runM (S:Nat→Bool):Nat→List Oper→List HV→(Nat→HV)→(Nat→HV)
 | i,o::l,x::xs,T=>runM S (i+1) l xs (if S i=true then updO T o.dst x else T)
 | _,_,_,T=>T
section ex
variable {k:List Item→KS} {all l:List Oper} {d:Option Nat} {r:List Item} {T:Nat→HV} {op:Op}
theorem zKY (h:exOq k P all d op l r T H):∃x,zJF P T H op x∧k (.quiet all l::r) (updO T d x) H:=by
 unfold exOq at h
 split at h
 ·rename_i f args tys
  unfold zDb at h
  split at h
  ·rename_i fid caps hf
   obtain ⟨n,x,args',h1,h2,h3⟩:=h
   exact ⟨_,.inr (.inl ⟨f,args,tys,fid,caps,n,x,args',rfl,hf,h1,h2,rfl⟩),h3⟩
  ·exact h.elim
 ·rename_i rv name args tys
  unfold zHh at h
  split at h
  ·rename_i t y hf
   unfold zEr at h
   split at h
   ·rename_i fid hm
    obtain ⟨n,x,args',h1,h2,h3⟩:=h
    exact ⟨_,.inr (.inr (.inl ⟨rv,name,args,tys,t,y,fid,n,x,args',rfl,hf,hm,h1,h2,rfl⟩)),h3⟩
   ·exact h.elim
  ·exact h.elim
 ·rename_i t len parts
  unfold exRq at h
  cases hr:z2 P T H t len parts.toList with
  | none=>rw[hr] at h;exact h.elim
  | some q =>
   obtain ⟨p,x,H'⟩:=q
   rw[hr] at h
   exact ⟨x,.inr (.inr (.inr ⟨t,len,parts,p,H',rfl,h.1,hr⟩)),h.2⟩
 ·unfold exRq at h
  cases hr:ropQ P T H op with
  | none=>rw[hr] at h;exact h.elim
  | some q =>
   obtain ⟨p,x,H'⟩:=q
   rw[hr] at h
   exact ⟨x,.inl ⟨p,H',h.1,hr⟩,h.2⟩
theorem zKd {o:Oper} (h:exGq k P all o l r T H):∃x,zFB P all T H o x∧k (.quiet all l::r) (updO T o.dst x) H:=by
 unfold exGq at h
 unfold zFB
 split at h
 ·rename_i hg
  try rw[hg]
  exact zKY h
 ·rename_i j b hg
  try rw[hg]
  try simp only
  unfold exBq at h
  split at h
  ·rename_i t ht
   unfold zDe at h
   split at h
   ·rename_i c hv
    by_cases hcb:c=b
    ·obtain ⟨x,h1,h2⟩:=zKY (h.1 hcb)
     exact ⟨x,⟨t,ht,.inl ⟨c,hv,fun _=>h1,fun hc=>by subst hcb;cases c <;> simp at hc⟩⟩,h2⟩
    ·have hc:c=(!b):=by cases c <;> cases b <;> simp_all
     exact ⟨.v undef,⟨t,ht,.inl ⟨c,hv,fun hc'=>absurd hc' hcb,fun _=>rfl⟩⟩,h.2 hc⟩
   ·rename_i ts hv
    exact ⟨.v undef,⟨t,ht,.inr ⟨ts,hv,rfl⟩⟩,h⟩
   ·exact h.elim
  ·exact h.elim
theorem zTR {N L:Nat} {Q:Exit→KS}:∀(l:List Oper) (i n:Nat) (T:Nat→HV),ex P N L Q n (.quiet all l::r) T H→∃xs n',zUq P H all l T xs∧ex P N L Q n' r (runM (fun _=>true) i l xs T) H
 | [],i,0,T,h=>h.elim
 | [],i,n+1,T,h=>⟨[],n,rfl,h⟩
 | o::l,i,0,T,h=>h.elim
 | o::l,i,n+1,T,h=>by
  obtain ⟨x,h1,h2⟩:=zKd (k:=ex P N L Q n) h
  obtain ⟨xs,n',h3,h4⟩:=zTR l (i+1) n _ h2
  exact ⟨x::xs,n',⟨x,xs,rfl,h1,h3⟩,h4⟩
end ex
theorem zSu {T T' : Nat→HV} {x:Operand} (h:∀t,x=.tmp t→T t=T' t):hev T x=hev T' x:=by
 cases x <;> simp only[hev]
 exact h _ rfl
theorem zAS {T T' : Nat→HV} {l:List Operand} (h:∀x∈l,hev T x=hev T' x):l.map (hev T)=l.map (hev T'):=List.map_congr_left h
theorem zH1 {T T' : Nat→HV} {op:Op} (h:∀x∈op.operands.toList,hev T x=hev T' x):ropQ P T H op=ropQ P T' H op:=by
 have h1:∀x,x∈op.operands→hev T x=hev T' x:=fun x hx=>h x (by simpa using hx)
 clear h
 unfold ropQ
 split <;> simp only[Op.operands,Call.operands] at h1
 case h_4 t parts =>
  have e:parts.toList.map (fun p=>(p.1,hev T p.2))=parts.toList.map (fun p=>(p.1,hev T' p.2)):=by
   apply List.map_congr_left
   intro p hp
   rw[h1 p.2 (by simp;exact ⟨p.1,by simpa using hp⟩)]
  simp only[e]
 case h_11 f first cs =>
  split
  ·have e:cs.toList.map (hev T)=cs.toList.map (hev T'):=zAS fun x hx=>h1 x (by simp;simpa using hx)
   simp only[e]
  ·rename_i y
   have e:cs.toList.map (hev T)=cs.toList.map (hev T'):=zAS fun x hx=>h1 x (by simp;exact .inr (by simpa using hx))
   simp only[e,h1 y (by simp)]
  ·rfl
 case h_12 t x lo hi =>
  have e1:lo.map (hev T)=lo.map (hev T'):=by cases lo with
   | none=>rfl
   | some y=>simp only[Option.map_some,h1 y (by simp)]
  have e2:hi.map (hev T)=hi.map (hev T'):=by cases hi with
   | none=>rfl
   | some y=>simp only[Option.map_some,h1 y (by simp)]
  simp only[e1,e2,h1 x (by simp)]
 all_goals first
  | rfl
  | (rename_i x;simp only[h1 x (by simp)];done)
  | (rename_i x _;simp only[h1 x (by simp)];done)
  | (rename_i x y _;simp only[h1 x (by simp),h1 y (by simp)];done)
  | (rename_i x y;simp only[h1 x (by simp),h1 y (by simp)];done)
  | (rename_i x y z;simp only[h1 x (by simp),h1 y (by simp),h1 z (by simp)];done)
  | (rename_i x y _ _;simp only[h1 x (by simp),h1 y (by simp)];done)
theorem zGs {T T' : Nat→HV} {op:Op} {x:HV} (h:∀y∈op.operands.toList,hev T y=hev T' y) (hc:zJF P T H op x):zJF P T' H op x:=by
 rcases hc with ⟨p,H',hp,hr⟩ | ⟨f,args,tys,fid,caps,n,R,args',rfl,hf,h1,h2,h3⟩ | ⟨rv,name,args,tys,t,y,fid,n,R,args',rfl,hf,hm,h1,h2,h3⟩ | ⟨t,len,parts,p,H',rfl,hp,hr⟩
 ·exact .inl ⟨p,H',hp,by rw[←zH1 h];exact hr⟩
 ·have e1:=h f (by simp[Op.operands,Call.operands])
  have e2:args.toList.map (hev T)=args.toList.map (hev T'):=zAS fun x hx=>h x (by simp[Op.operands,Call.operands];exact .inr (by simpa using hx))
  exact .inr (.inl ⟨f,args,tys,fid,caps,n,R,args',rfl,e1▸hf,h1,e2▸h2,h3⟩)
 ·have e1:=h rv (by simp[Op.operands,Call.operands])
  have e2:args.toList.map (hev T)=args.toList.map (hev T'):=zAS fun x hx=>h x (by simp[Op.operands,Call.operands];exact .inr (by simpa using hx))
  exact .inr (.inr (.inl ⟨rv,name,args,tys,t,y,fid,n,R,args',rfl,e1▸hf,hm,h1,e2▸h2,h3⟩))
 ·have hp1:∀p∈parts.toList,hev T p.2=hev T' p.2:=fun p hp=>h p.2 (by simp[Op.operands];exact ⟨p.1,by simpa using hp⟩)
  have e1:∀n (l:List (Nat×Operand)),(∀p∈l,hev T p.2=hev T' p.2)→zAw T n l=zAw T' n l:=by
   intro n l
   induction l with
   | nil=>intro _;rfl
   | cons p l ih =>
    intro hp
    simp only[zAw]
    rw[hp p (by simp),ih (fun q hq=>hp q (by simp[hq]))]
  have e2:parts.toList.map (fun p=>fzoL (zQ (hev T p.2)))=parts.toList.map (fun p=>fzoL (zQ (hev T' p.2))):=by
   apply List.map_congr_left
   intro p hq
   rw[hp1 p hq]
  refine .inr (.inr (.inr ⟨t,len,parts,p,H',rfl,hp,?_⟩))
  rw[←hr]
  simp only[z2,e2,e1 _ _ hp1]
def zCc (all:List Oper) (o:Oper):List Nat :=
 (o.op.operands.toList.filterMap fun x=>match x with | .tmp t=>some t | _=>none)++(match o.guard with | some (j,_)=>(zA4 all j).toList | none=>[])
theorem zF3 {all:List Oper} {o:Oper} {T T' : Nat→HV} (h:∀t∈zCc all o,T t=T' t):∀y∈o.op.operands.toList,hev T y=hev T' y:=fun y hy =>
 zSu fun t ht=>h t (List.mem_append_left _ (List.mem_filterMap.2 ⟨y,hy,by rw[ht]⟩))
theorem zBo {all:List Oper} {o:Oper} {T T' : Nat→HV} {x:HV} (h:∀t∈zCc all o,T t=T' t) (hc:zFB P all T H o x):zFB P all T' H o x:=by
 have hv:=zF3 h
 unfold zFB at hc⊢
 split at hc
 ·exact zGs hv hc
 ·rename_i j b hg
  obtain ⟨t,ht,hc⟩:=hc
  have e:T t=T' t:=h t (by unfold zCc;rw[hg];simp[ht])
  refine ⟨t,ht,?_⟩
  rw[←e]
  rcases hc with ⟨c,h1,h2,h3⟩ | hc
  ·exact .inl ⟨c,h1,fun hcb=>zGs hv (h2 hcb),h3⟩
  ·exact .inr hc
section
variable {N B:Nat} {Z:Nat→Prop} {G:List (Option OG)} {FP:Nat→List Nat} {ds:List Nat} {T:Nat→HV} {a:Act} {w:World} {ro:Option Nat} {mm:Nat}
theorem zG9 {o:Oper} {fid:Nat} {args args' : List HV} {vals:List Value} {R x:HV} {n:Nat} {K:Act→World→Prop} {Q' : Exit→Act→World→Prop} (hnd:∀c,o.op≠.defer c) (hd:∀i,o.dst=some i→i<N) (hs:St N B Z G FP ds T H a w)
  (hrun:(execOp a.eval o).run P w=.ok (.enter fid vals.toArray) w) (hv:RL Z G w args vals []) (spec:HFn P fid args' R) (hL:zEX n H args args' R) (hx:x=fzo R)
  (hK:∀Z' G' FP' a' w',St N B Z' G' FP' ds (updO T o.dst x) H a' w'→GLe G G'→Evo Z FP w Z' FP' w'→K a' w'):o.wpIn (Wd ro) mm P a w K Q':=by
 refine ⟨fun _ _=>trivial,?_⟩
 rw[zAY _ _ _ hnd,hrun,Oper.uponIn_enter]
 refine ⟨fun h=>by cases ro <;> simp[Wd,Fence.wide] at h,zCT (Calls.mono (zQa spec hL Z G FP w vals hs.inv hv) ?_)⟩
 rintro e w' ⟨v,Z',rfl,hi',hr,hE⟩
 exact hK _ _ _ _ _ ((hs.evo hi' (GLe.refl _) hE).put (hx▸hr) o.dst hd) (GLe.refl _) hE
theorem zYG {G G' : List (Option OG)} (h:GLe G G'):GLe G (G'.take G.length):=by
 refine ⟨by rw[List.length_take];have:=h.len;omega,fun id hid=>?_⟩
 rw[zAO hid]
 exact h.at_ id hid
theorem zGg {o:Oper} {x:HV} {K:Act→World→Prop} {Q' : Exit→Act→World→Prop} (hok:zG N o=true) (hn:zAD o=true) (hc:zJF P T H o.op x) (hs:St N B Z G FP ds T H a w)
  (hK:∀Z' G' FP' a' w',St N B Z' G' FP' ds (updO T o.dst x) H a' w'→GLe G G'→Evo Z FP w Z' FP' w'→K a' w'):o.wpIn (Wd ro) mm P a w K Q':=by
 have hnd:=zBV hn
 have hdst:∀i,o.dst=some i→i<N:=fun i hi=>by
  have:=hok;simp only[zG,zBr,hi,Bool.and_eq_true,decide_eq_true_eq] at this;exact this.1
 rcases hc with ⟨p,H',hp,hr⟩ | ⟨f,args,tys,fid,caps,n,R,args',hop,hf,h1,h2,h3⟩ | ⟨rv,name,args,tys,t,y,fid,n,R,args',hop,hf,hm,h1,h2,h3⟩ | ⟨t,len,parts,p,H',hop,hp,hr⟩
 ·obtain ⟨v,y,e1,rfl,e3⟩:=z4Y (P:=P) (K:=fun y _=>y=x) hok (by rw[hr];exact ⟨hp,rfl⟩) B Z G FP ds a w hs
  refine ⟨fun _ _=>trivial,?_⟩
  rw[zAY _ _ _ hnd,e1]
  exact hK _ _ _ _ _ (hs.put e3 o.dst hdst) (GLe.refl _) (Evo.refl _ _ _)
 ·have hfv:=hs.hev f (zF hok (by simp[hop,Op.operands,Call.operands]))
  rw[hf] at hfv
  simp only[RV] at hfv
  obtain ⟨cs,hfe,hcl⟩:=hfv
  have hargs:args.toList.all (zBJ N)=true:=by
   rw[List.all_eq_true]
   intro x hx
   exact zF hok (by simp[hop,Op.operands,Call.operands];exact .inr (by simpa using hx))
  have hal:=zB4 hs args.toList hargs
  exact zG9 hnd hdst hs (zLl hop hfe h1.1) (zY1 fid hal hcl) h1 h2 h3 hK
 ·have hfv:=hs.hev rv (zF hok (by simp[hop,Op.operands,Call.operands]))
  rw[hf] at hfv
  simp only[RV] at hfv
  obtain ⟨_,z,hfe,hcl⟩:=hfv
  have hargs:args.toList.all (zBJ N)=true:=by
   rw[List.all_eq_true]
   intro x hx
   exact zF hok (by simp[hop,Op.operands,Call.operands];exact .inr (by simpa using hx))
  have hal:=zB4 hs args.toList hargs
  have hvals:RL Z G w (y::args.toList.map (hev T)) (z::args.toList.map a.eval) []:=by
   simp only[RL]
   exact ⟨_,_,[],[],rfl,rfl,hcl,hal⟩
  refine zG9 hnd hdst hs ?_ hvals h1 h2 h3 hK
  have e:#[z]++(#[Value.iface t z]++args.map a.eval).extract 1 (#[Value.iface t z]++args.map a.eval).size=(z::args.toList.map a.eval).toArray:=by
   apply Array.ext';simp[List.take_of_length_le]
  simp only[execOp,hop,resolve,hfe,Sem.run_bind,Sem.run_pure,Result.andThen_ok,invoke]
  have e0:(#[Value.iface t z]++args.map a.eval)[0]?=some (Value.iface t z):=by rw[Array.getElem?_append_left (by simp)];rfl
  rw[e0]
  simp only[callMethod,Sem.run_bind,run_program,Result.andThen_ok,zHY z hm,e]
  exact h1.1 _ _
 ·have hnmH:=hs.inv.nm
  have key:∃e,zL P t 3=some e∧p=(len=parts.toList.length∧zCZ 0 parts.toList=true∧e.2.2.size≠0∧len*e.2.2.size≤16777216∧(zA e.2.2).isSome=true∧zAw T e.2.2.size parts.toList)∧x=.sl (parts.toList.map fun p=>fzoL (zQ (hev T p.2))):=by
   unfold z2 zE at hr
   split at hr
   ·rename_i e he
    cases hr
    exact ⟨e,he,rfl,rfl⟩
   ·cases hr
  obtain ⟨e,he,rfl,rfl⟩:=key
  have hR:=zOU (P:=P) (T:=T) (H:=H) (K:=fun x0 H0=>x0=.hd H.length 0 (parts.toList.map fun p=>zQ (hev T p.2)).length∧H0=H++[some ⟨e.2.1,e.2.2.size,parts.toList.map fun p=>zQ (hev T p.2)⟩]) hok (by
   rw[hop]
   show onR (zAu P T H t len parts.toList) _
   unfold zAu zE
   rw[he]
   exact ⟨hp,by rw[List.length_map],rfl⟩)
  obtain ⟨r,v,w',x0,H0,Z',G',FP',hrun,hv,⟨rfl,rfl⟩,hx,hi,hG,hE⟩:=hR B Z G FP ds a w hs
  obtain ⟨Z2,FP2,hi2,hx2,hE2⟩:=HInv.shut (ob:=⟨e.2.1,e.2.2.size,parts.toList.map fun p=>zQ (hev T p.2)⟩) hi (by
   have:nmH H.length (H++[some (⟨e.2.1,e.2.2.size,parts.toList.map fun p=>zQ (hev T p.2)⟩:HObj)])=nmH H.length H:=by simp[nmH]
   rw[this];exact hnmH) hx
  have hlen:G.length=H.length:=hs.inv.len
  have hG2:GLe G (G'.take H.length):=by rw[←hlen];exact zYG hG
  have hx3:RV Z2 (G'.take H.length) w' (.sl (parts.toList.map fun p=>fzoL (zQ (hev T p.2)))) v []:=by
   have e3:parts.toList.map (fun p=>fzoL (zQ (hev T p.2)))=fzoR (parts.toList.map fun p=>zQ (hev T p.2)):=by
    rw[zBv,List.map_map];rfl
   rw[e3];exact hx2
  refine ⟨fun _ _=>trivial,?_⟩
  rw[zAY _ _ _ hnd,hrun]
  have hs':=(hs.evo hi2 hG2 (hE.trans hE2)).put hx3 o.dst hdst
  rcases hv with rfl | ⟨rfl,rfl⟩
  ·exact hK _ _ _ _ _ hs' hG2 (hE.trans hE2)
  ·exact hK _ _ _ _ _ hs' hG2 (hE.trans hE2)
theorem zKt {all:List Oper} {j:Nat} {o:Oper} {x:HV} {K:Act→World→Prop} {Q' : Exit→Act→World→Prop} (hall:all.all (zBr N)=true) (hj:all[j]?=some o) (hok:zG N o=true) (hn:zAD o=true) (hc:zFB P all T H o x) (hs:St N B Z G FP ds T H a w)
  (hK:∀Z' G' FP' a' w',St N B Z' G' FP' ds (updO T o.dst x) H a' w'→GLe G G'→Evo Z FP w Z' FP' w'→K a' w'):wpOpIn (Wd ro) mm P all.toArray Q' j K a w:=by
 have hdst:∀i,o.dst=some i→i<N:=fun i hi=>by
  have:=hok;simp only[zG,zBr,hi,Bool.and_eq_true,decide_eq_true_eq] at this;exact this.1
 unfold wpOpIn
 rw[List.getElem?_toArray,hj]
 dsimp only
 unfold zFB at hc
 split at hc
 ·rename_i hg
  simp only[Region.wanted,hg,if_true]
  exact zGg hok hn hc hs hK
 ·rename_i k b hg
  obtain ⟨t,ht,hc⟩:=hc
  rcases hc with ⟨c,h1,h2,h3⟩ | ⟨ts,h1,rfl⟩
  ·have hy:yielded all.toArray a.tmps k=some c:=hs.yields hall (by rw[zAy ht];exact h1)
   have hw:Region.wanted o (yielded all.toArray a.tmps)=(c == b):=by
    simp only[Region.wanted,hg,hy]
    cases c <;> cases b <;> rfl
   rw[hw]
   by_cases hcb:c=b
   ·rw[if_pos (by simp[hcb])]
    exact zGg hok hn (h2 hcb) hs hK
   ·have hc:c=(!b):=by cases c <;> cases b <;> simp_all
    obtain rfl:=h3 hc
    rw[if_neg (by simp[hcb])]
    exact ⟨fun _ _=>trivial,hK _ _ _ _ _ (hs.drop o.dst hdst) (GLe.refl _) (Evo.refl _ _ _)⟩
  ·have hy:yielded all.toArray a.tmps k=none:=hs.yieldsNo hall (by rw[zAy ht];exact h1)
   have hw:Region.wanted o (yielded all.toArray a.tmps)=false:=by
    simp only[Region.wanted,hg,hy]
    cases b <;> rfl
   rw[hw,if_neg (by simp)]
   exact ⟨fun _ _=>trivial,hK _ _ _ _ _ (hs.drop o.dst hdst) (GLe.refl _) (Evo.refl _ _ _)⟩
end
theorem zCB {S S' : Nat→Bool} {t:Nat}:∀(l:List Oper) (xs:List HV) (i:Nat) (T T' : Nat→HV),T t=T' t→(∀j,zA4 l j=some t→S (i+j)=S' (i+j))→runM S i l xs T t=runM S' i l xs T' t
 | [],xs,i,T,T',h,_=>by cases xs <;> exact h
 | o::l,[],i,T,T',h,_=>h
 | o::l,x::xs,i,T,T',h,hS=>by
  simp only[runM]
  refine zCB l xs (i+1) _ _ ?_ fun j hj=>by
   have:=hS (j+1) (by simpa [zA4] using hj)
   rwa [show i+(j+1)=i+1+j by omega] at this
  by_cases hd:o.dst=some t
  ·have:=hS 0 (by simp[zA4,hd])
   rw[Nat.add_zero] at this
   rw[this]
   split
   ·simp[updO,hd,upd]
   ·exact h
  ·have e:∀T:Nat→HV,updO T o.dst x t=T t:=fun T=>by
    cases hdd:o.dst with
    | none=>rfl
    | some d =>
     have:t≠d:=fun e=>hd (by rw[hdd,e])
     simp[updO,upd,this]
   split <;> split <;> first | exact h | (rw[e];exact h) | (rw[e,e];exact h)
theorem zBc {S:Nat→Bool} {t:Nat}:∀(l:List Oper) (xs:List HV) (i:Nat) (T:Nat→HV),(∀j,zA4 l j=some t→S (i+j)=false)→runM S i l xs T t=T t
 | [],xs,i,T,_=>by cases xs <;> rfl
 | o::l,[],i,T,_=>rfl
 | o::l,x::xs,i,T,hS=>by
  simp only[runM]
  rw[zBc l xs (i+1) _ fun j hj=>by
   have:=hS (j+1) (by simpa [zA4] using hj)
   rwa [show i+(j+1)=i+1+j by omega] at this]
  by_cases hd:o.dst=some t
  ·have:=hS 0 (by simp[zA4,hd])
   rw[Nat.add_zero] at this
   simp[this]
  ·split
   ·cases hdd:o.dst with
    | none=>rfl
    | some d =>
     have:t≠d:=fun e=>hd (by rw[hdd,e])
     simp[updO,upd,this]
   ·rfl
theorem zCx {S S' : Nat→Bool}:∀(l:List Oper) (xs:List HV) (i j:Nat) (T:Nat→HV) (o:Oper) (x:HV),l[j]?=some o→xs[j]?=some x→S' (i+j)=true→S (i+j)=false→(∀k,k≠i+j→S' k=S k)→
  (∀k,j<k→S (i+k)=true→∀t,o.dst=some t→zA4 l k≠some t)→runM S' i l xs T=updO (runM S i l xs T) o.dst x
 | [],xs,i,j,T,o,x,h,_,_,_,_,_=>by simp at h
 | o0::l,[],i,j,T,o,x,_,h,_,_,_,_=>by simp at h
 | o0::l,x0::xs,i,0,T,o,x,h1,h2,h3,h4,h5,h6=>by
  simp only[List.getElem?_cons_zero,Option.some.injEq] at h1 h2
  subst h1 h2
  rw[Nat.add_zero] at h3 h4
  have hS:∀j',S' (i+1+j')=S (i+1+j'):=fun j'=>h5 _ (by omega)
  simp only[runM,h3,h4,if_true,Bool.false_eq_true,if_false]
  funext t
  by_cases hd:o0.dst=some t
  ·rw[zBc]
   ·simp[hd,updO,upd]
   ·intro j' hj'
    rw[hS]
    cases hc:S (i+1+j') with
    | false=>rfl
    | true =>
     refine absurd ?_ (h6 (j'+1) (by omega) (by rw[show i+(j'+1)=i+1+j' by omega];exact hc) t hd)
     simpa [zA4] using hj'
  ·have e:∀T:Nat→HV,updO T o0.dst x0 t=T t:=fun T=>by
    cases hdd:o0.dst with
    | none=>rfl
    | some d =>
     have:t≠d:=fun e=>hd (by rw[hdd,e])
     simp[updO,upd,this]
   rw[e]
   exact zCB l xs (i+1) _ _ (e T) fun j' _=>hS j'
 | o0::l,x0::xs,i,j+1,T,o,x,h1,h2,h3,h4,h5,h6=>by
  simp only[List.getElem?_cons_succ] at h1 h2
  have hi:S' i=S i:=h5 i (by omega)
  simp only[runM,hi]
  refine zCx l xs (i+1) j _ o x h1 h2 (by rw[show i+1+j=i+(j+1) by omega];exact h3) (by rw[show i+1+j=i+(j+1) by omega];exact h4) (fun k hk=>h5 k (by omega)) ?_
  intro k hk hS t ht
  have:=h6 (k+1) (by omega) (by rw[show i+(k+1)=i+1+k by omega];exact hS) t ht
  simpa [zA4] using this
theorem zO4 {all:List Oper}:∀(l:List Oper) (xs:List HV) (i j:Nat) (T:Nat→HV) (o:Oper),zUq P H all l T xs→l[j]?=some o→∃x,xs[j]?=some x∧zFB P all (runM (fun k=>decide (k<i+j)) i l xs T) H o x
 | [],xs,i,j,T,o,_,h=>by simp at h
 | o0::l,xs,i,0,T,o,hc,h=>by
  obtain ⟨x,xs',rfl,h1,_⟩:=hc
  simp only[List.getElem?_cons_zero,Option.some.injEq] at h
  subst h
  refine ⟨x,rfl,zBo (fun t _=>?_) h1⟩
  rw[zBc]
  intro j' _
  simp
 | o0::l,xs,i,j+1,T,o,hc,h=>by
  obtain ⟨x,xs',rfl,_,h2⟩:=hc
  simp only[List.getElem?_cons_succ] at h
  obtain ⟨y,h3,h4⟩:=zO4 l xs' (i+1) j _ o h2 h
  refine ⟨y,by simpa using h3,zBo (fun t _=>?_) h4⟩
  have e:(fun k=>decide (k<i+1+j))=fun k=>decide (k<i+(j+1)):=by funext k;congr 2;omega
  simp only[runM,e]
  rw[if_pos (by simp)]
end
def befs:List Oper→List Nat→List Nat
 | [],acc=>acc
 | o::l,acc=>befs l (acc++[o.after.toList.foldl (fun s e=>if Region.binds .any e=true then s ||| 2 ^ e.on ||| acc.getD e.on 0 else s) 0])
theorem zU1 {acc:List Nat} {i:Nat}:∀(es:List Edge) (s:Nat),(es.foldl (fun s e=>if Region.binds .any e=true then s ||| 2 ^ e.on ||| acc.getD e.on 0 else s) s).testBit i=true→s.testBit i=true∨∃e∈es,Region.binds .any e=true∧(e.on=i∨(acc.getD e.on 0).testBit i=true)
 | [],s,h=>.inl h
 | e::es,s,h=>by
  simp only[List.foldl_cons] at h
  rcases zU1 es _ h with h | ⟨e',h1,h2⟩
  ·split at h
   ·rename_i hb
    simp only[Nat.testBit_or,Bool.or_eq_true,Nat.testBit_two_pow,decide_eq_true_eq] at h
    rcases h with (h | h) | h
    ·exact .inl h
    ·exact .inr ⟨e,by simp,hb,.inl h⟩
    ·exact .inr ⟨e,by simp,hb,.inr h⟩
   ·exact .inl h
  ·exact .inr ⟨e',by simp[h1],h2⟩
theorem zOH:∀(l:List Oper) (acc:List Nat),∃m,befs l acc=acc++m∧m.length=l.length
 | [],acc=>⟨[],by simp[befs],rfl⟩
 | o::l,acc=>by
  obtain ⟨m,h1,h2⟩:=zOH l (acc++[o.after.toList.foldl (fun s e=>if Region.binds .any e=true then s ||| 2 ^ e.on ||| acc.getD e.on 0 else s) 0])
  refine ⟨o.after.toList.foldl (fun s e=>if Region.binds .any e=true then s ||| 2 ^ e.on ||| acc.getD e.on 0 else s) 0::m,?_,by simp[h2]⟩
  rw[befs,h1,List.append_assoc,List.singleton_append]
theorem zGi {i:Nat}:∀(l:List Oper) (acc:List Nat) (j:Nat) (o:Oper),l[j]?=some o→((befs l acc).getD (acc.length+j) 0).testBit i=true→∃e∈o.after.toList,Region.binds .any e=true∧(e.on=i∨((befs l acc).getD e.on 0).testBit i=true)
 | [],acc,j,o,h,_=>by simp at h
 | o0::l,acc,0,o,h,hb=>by
  simp only[List.getElem?_cons_zero,Option.some.injEq] at h
  subst h
  simp only[befs] at hb⊢
  obtain ⟨m,h1,h2⟩:=zOH l (acc++[o0.after.toList.foldl (fun s e=>if Region.binds .any e=true then s ||| 2 ^ e.on ||| acc.getD e.on 0 else s) 0])
  rw[h1] at hb⊢
  have e1:((acc++[o0.after.toList.foldl (fun s e=>if Region.binds .any e=true then s ||| 2 ^ e.on ||| acc.getD e.on 0 else s) 0])++m).getD (acc.length+0) 0=o0.after.toList.foldl (fun s e=>if Region.binds .any e=true then s ||| 2 ^ e.on ||| acc.getD e.on 0 else s) 0:=by
   simp[List.getD_eq_getElem?_getD]
  rw[e1] at hb
  rcases zU1 _ _ hb with h | ⟨e,he,h3,h4⟩
  ·simp at h
  ·refine ⟨e,he,h3,h4.imp id fun h4=>?_⟩
   by_cases hlt:e.on<acc.length
   ·have:(acc++[o0.after.toList.foldl (fun s e=>if Region.binds .any e=true then s ||| 2 ^ e.on ||| acc.getD e.on 0 else s) 0]++m).getD e.on 0=acc.getD e.on 0:=by
     simp[List.getD_eq_getElem?_getD,List.getElem?_append,hlt]
    rw[this];exact h4
   ·rw[List.getD_eq_getElem?_getD,List.getElem?_eq_none (by omega)] at h4
    simp at h4
 | o0::l,acc,j+1,o,h,hb=>by
  simp only[List.getElem?_cons_succ] at h
  simp only[befs] at hb⊢
  refine zGi l _ j o h ?_
  rw[List.length_append,List.length_singleton,show acc.length+1+j=acc.length+(j+1) by omega]
  exact hb
def zCq (all:List Oper) (o o' : Oper):Bool :=
 (match o.dst with | some d=>(zCc all o').contains d || o'.dst == some d | none=>false) ||
 (match o'.dst with | some d'=>(zCc all o).contains d' | none=>false)
def zAd (bs:List Nat) (i j:Nat):Bool:=(bs.getD j 0).testBit i
def anyB (N m:Nat) (all:List Oper):Bool :=
 let bs:=befs all []
 (all.all fun o=>zG N o && zAD o) &&
 (all.zipIdx.all fun (o,j)=>(o.after.toList.all fun e=>!Region.binds .any e || decide (e.on<j)) &&
  (all.zipIdx.all fun (o',i)=>!decide (i<j) || (!(decide (m≤j) || zCq all o' o)) || zAd bs i j))
structure AnyOk (N m:Nat) (all:List Oper):Prop where
 ok:∀(j:Nat) o,all[j]?=some o→zG N o=true∧zAD o=true
 back:∀(j:Nat) o,all[j]?=some o→∀e∈o.after.toList,Region.binds .any e=true→e.on<j
 ord:∀(i j:Nat) o' o,i<j→all[i]?=some o'→all[j]?=some o→(m≤j∨zCq all o' o=true)→zAd (befs all []) i j=true
theorem zEW {N m:Nat} {all:List Oper} (h:anyB N m all=true):AnyOk N m all:=by
 simp only[anyB,Bool.and_eq_true] at h
 obtain ⟨h1,h2⟩:=h
 rw[List.all_eq_true] at h1 h2
 have mem:∀{j:Nat} {o:Oper},all[j]?=some o→(o,j)∈all.zipIdx:=fun {j o} hj=>by
  rw[List.mem_zipIdx_iff_getElem?];exact hj
 refine ⟨fun j o hj=>?_,fun j o hj e he hb=>?_,fun i j o' o hij hi hj hc=>?_⟩
 ·have:=h1 o (List.mem_of_getElem? hj)
  simpa using this
 ·have:=h2 (o,j) (mem hj)
  simp only[Bool.and_eq_true,List.all_eq_true] at this
  have:=this.1 e he
  simp only[hb,Bool.not_true,Bool.false_or,decide_eq_true_eq] at this
  exact this
 ·have:=h2 (o,j) (mem hj)
  simp only[Bool.and_eq_true,List.all_eq_true] at this
  have:=this.2 (o',i) (mem hi)
  simp only[hij,decide_true,Bool.not_true,Bool.false_or,Bool.or_eq_true,Bool.not_eq_true',Bool.or_eq_false_iff,decide_eq_false_iff_not] at this
  rcases this with ⟨h3,h4⟩ | h
  ·rcases hc with hc | hc
   ·exact absurd hc h3
   ·rw[hc] at h4;cases h4
  ·exact h
def zCv (all:List Oper) (listed:Array Bool):Prop:=∀(j:Nat) o,all[j]?=some o→listed.getD j false=true→∀e∈o.after.toList,Region.binds .any e=true→listed.getD e.on false=true
theorem zAL {N m:Nat} {all:List Oper} {listed:Array Bool} (hA:AnyOk N m all) (hc:zCv all listed):∀(j i:Nat) (o:Oper),all[j]?=some o→(∀e∈o.after.toList,Region.binds .any e=true→listed.getD e.on false=true)→zAd (befs all []) i j=true→listed.getD i false=true:=by
 intro j
 induction j using Nat.strongRecOn with
 | _ j ih =>
  intro i o hj ha hm
  unfold zAd at hm
  obtain ⟨e,he,h1,h2⟩:=zGi all [] j o hj (by simpa using hm)
  rcases h2 with rfl | h2
  ·exact ha e he h1
  ·have hlt:=hA.back j o hj e he h1
   have hjl:=(List.getElem?_eq_some_iff.1 hj).1
   have hlt' : e.on<all.length:=by omega
   exact ih e.on hlt i _ (List.getElem?_eq_getElem hlt') (hc e.on _ (List.getElem?_eq_getElem hlt') (ha e he h1)) h2
section
variable {P:Program} {N L:Nat} {Q:Exit→KS} {H:Heap}
theorem zY {listed:Array Bool} {i k:Nat} {b:Bool} (h:(listed.setIfInBounds i true).getD k b=true):k=i∨listed.getD k b=true:=by
 by_cases e:k=i
 ·exact .inl e
 ·right
  simp only[Array.getD_eq_getD_getElem?,Array.getElem?_setIfInBounds_ne (Ne.symm e)] at h⊢
  exact h
theorem zAW {listed:Array Bool} {i k:Nat} (h:listed.getD k false=true):(listed.setIfInBounds i true).getD k false=true:=by
 by_cases e:k=i
 ·subst e
  have hlt:k<listed.size:=by
   rcases Nat.lt_or_ge k listed.size with h' | h'
   ·exact h'
   ·simp[Array.getD_eq_getD_getElem?,Array.getElem?_eq_none h'] at h
  simp[Array.getD_eq_getD_getElem?,hlt]
 ·simp only[Array.getD_eq_getD_getElem?,Array.getElem?_setIfInBounds_ne (Ne.symm e)] at h⊢
  exact h
theorem zAJ {listed:Array Bool} {i:Nat} (h:i<listed.size):(listed.setIfInBounds i true).getD i false=true:=by
 simp[Array.getD_eq_getD_getElem?,h]
theorem zB8 {all:List Oper} {listed:Array Bool} {i:Nat} (hc:zCv all listed) (hi:∀o,all[i]?=some o→∀e∈o.after.toList,Region.binds .any e=true→listed.getD e.on false=true):zCv all (listed.setIfInBounds i true):=by
 intro j o hj hl e he hb
 rcases zY hl with rfl | hl
 ·exact zAW (hi o hj e he hb)
 ·exact zAW (hc j o hj hl e he hb)
def left (listed:Array Bool):Nat:=(listed.toList.filter fun b=>!b).length
theorem zEF {listed:Array Bool} {i:Nat} (hi:listed[i]?=some false):left (listed.setIfInBounds i true)+1=left listed:=by
 obtain ⟨l⟩:=listed
 simp only[left,List.setIfInBounds_toArray,List.getElem?_toArray] at hi⊢
 induction l generalizing i with
 | nil=>simp at hi
 | cons b l ih =>
  cases i with
  | zero =>
   simp only[List.getElem?_cons_zero,Option.some.injEq] at hi
   subst hi
   simp
  | succ i =>
   simp only[List.getElem?_cons_succ] at hi
   have:=ih hi
   simp only[List.set_cons_succ,List.filter_cons]
   cases b <;> simp <;> omega
theorem zCl {listed:Array Bool} (h:left listed=0):∀i,i<listed.size→listed.getD i false=true:=by
 intro i hi
 unfold left at h
 have h':=List.eq_nil_of_length_eq_zero h
 rw[List.filter_eq_nil_iff] at h'
 have:=h' listed[i] (by simp)
 simp only[Array.getD_eq_getD_getElem?,Array.getElem?_eq_getElem hi,Option.getD_some]
 cases hb:listed[i] <;> simp_all
section go
variable {m mm B:Nat} {ro:Option Nat} {all:List Oper} {Φ:Exit→Act→World→Prop}
theorem zAR {listed:Array Bool} {i:Nat} (h:listed.getD i true=false):listed[i]?=some false:=by
 rw[Array.getD_eq_getD_getElem?] at h
 cases hi:listed[i]? with
 | none=>rw[hi] at h;simp at h
 | some b=>rw[hi] at h;simpa using h
theorem zBH (hA:AnyOk N m all) {listed:Array Bool} (hsz:listed.size=all.length) {i:Nat} (hi:i<all.length) (hn:listed.getD i false=false) (hl:∀k,k<i→listed.getD k false=true):i∈Region.ready .any all.toArray listed:=by
 refine mem_ready.2 ⟨?_,all[i],by simp[hi],fun e he hb=>hl e.on (hA.back i _ (List.getElem?_eq_getElem hi) e (by simpa using he) hb)⟩
 rw[Array.getD_eq_getD_getElem?,Array.getElem?_eq_getElem (by omega)] at hn⊢
 simpa using hn
theorem zAE (hA:AnyOk N m all) {listed:Array Bool} (hc:zCv all listed) {i j:Nat} (hr:j∈Region.ready .any all.toArray listed) (hm:zAd (befs all []) i j=true):listed.getD i false=true:=by
 obtain ⟨_,o,ho,ha⟩:=mem_ready.1 hr
 rw[List.getElem?_toArray] at ho
 exact zAL hA hc j i o ho (fun e he hb=>ha e (by simpa using he) hb) hm
theorem zF9 (hA:AnyOk N m all):∀(l:List Oper) (k fuel:Nat) (listed:Array Bool) (a:Act) (w:World),all.drop k=l→m≤k→k≤all.length→listed.size=all.length→left listed≤fuel→zCv all listed→
  (∀i,i<all.length→(listed.getD i false=true↔i<k))→wpListIn (Wd ro) mm P all.toArray Φ l a w→wpAnyIn (Wd ro) mm P .any all.toArray Φ fuel listed a w
 | [],k,fuel,listed,a,w,hd,hm,hk,hsz,hf,hc,hl,h=>by
  have hk' : all.length≤k:=by
   have:=congrArg List.length hd
   simp at this;omega
  have hno:Region.ready .any all.toArray listed=[]:=by
   rw[List.eq_nil_iff_forall_not_mem]
   intro i hi
   obtain ⟨h1,o,ho,_⟩:=mem_ready.1 hi
   rw[List.getElem?_toArray] at ho
   have hi':=(List.getElem?_eq_some_iff.1 ho).1
   have h2:=(hl i hi').2 (by omega)
   have:=zAR h1
   rw[Array.getD_eq_getD_getElem?,this] at h2
   simp at h2
  cases fuel with
  | zero=>exact ⟨hno,h⟩
  | succ fuel=>exact ⟨fun _=>h,fun i hi=>by rw[hno] at hi;simp at hi⟩
 | o::l,k,fuel,listed,a,w,hd,hm,hk,hsz,hf,hc,hl,h=>by
  have hk' : k<all.length:=by
   have:=congrArg List.length hd
   simp at this;omega
  have hko:all[k]?=some o:=by
   have:=congrArg (·[0]?) hd
   simpa [List.getElem?_drop] using this
  have hd' : all.drop (k+1)=l:=by rw[←List.drop_drop,hd];rfl
  have hkr:k∈Region.ready .any all.toArray listed:=zBH hA hsz hk' (by
   cases hx:listed.getD k false with
   | false=>rfl
   | true=>exact absurd ((hl k hk').1 hx) (by omega)) (fun j hj=>(hl j (by omega)).2 hj)
  cases fuel with
  | zero =>
   exfalso
   have:=zCl (Nat.le_zero.1 hf) k (by omega)
   exact absurd ((hl k hk').1 this) (by omega)
  | succ fuel =>
   refine ⟨fun h0=>by rw[h0] at hkr;simp at hkr,fun i hi=>?_⟩
   obtain ⟨h1,oi,hoi,ha⟩:=mem_ready.1 hi
   have hoi':=hoi
   rw[List.getElem?_toArray] at hoi
   have hil:=(List.getElem?_eq_some_iff.1 hoi).1
   have hnl:=zAR h1
   have hik:i=k:=by
    rcases Nat.lt_trichotomy i k with h' | h' | h'
    ·have:=(hl i hil).2 h'
     rw[Array.getD_eq_getD_getElem?,hnl] at this
     simp at this
    ·exact h'
    ·have:=zAE hA hc hi (hA.ord k i o oi h' hko hoi (.inl (by omega)))
     exact absurd ((hl k hk').1 this) (by omega)
   subst hik
   rw[hko] at hoi
   cases hoi
   have hadd:=zEF hnl
   have hcl:=zB8 (i:=i) hc (fun o' ho' e he hb=>by rw[hko] at ho';cases ho';exact ha e (by simpa using he) hb)
   have hl' : ∀j,j<all.length→((listed.setIfInBounds i true).getD j false=true↔j<i+1):=by
    intro j hj
    constructor
    ·intro hx
     rcases zY hx with rfl | hx
     ·omega
     ·have:=(hl j hj).1 hx;omega
    ·intro hx
     by_cases e:j=i
     ·subst e;exact zAJ (by omega)
     ·exact zAW ((hl j hj).2 (by omega))
   have ih:=fun a w=>zF9 hA l (i+1) fuel (listed.setIfInBounds i true) a w hd' (by omega) (by omega) (by simpa using hsz) (by omega) hcl hl'
   unfold wpOpIn
   rw[hoi']
   simp only[wpListIn] at h
   simp only
   split at h
   ·rename_i hw
    rw[if_pos hw]
    exact Oper.wpIn_mono (fun a w h=>ih a w h) h
   ·rename_i hw
    rw[if_neg hw]
    exact ⟨h.1,ih _ _ h.2⟩
theorem zXy (hA:AnyOk N m all) {Z0:Nat→Prop} {G0:List (Option OG)} {FP0:Nat→List Nat} {ds:List Nat} {T0:Nat→HV} {xs:List HV} {w0:World} (hc0:zUq P H all (all.take m) T0 xs)
  (hend:∀Z G FP a w,St N B Z G FP ds (runM (fun _=>true) 0 (all.take m) xs T0) H a w→GLe G0 G→Evo Z0 FP0 w0 Z FP w→wpListIn (Wd ro) mm P all.toArray Φ (all.drop m) a w) :
  ∀(fuel:Nat) (listed:Array Bool) (Z:Nat→Prop) (G:List (Option OG)) (FP:Nat→List Nat) (a:Act) (w:World),listed.size=all.length→left listed≤fuel→zCv all listed→(∀j,m≤j→j<all.length→listed.getD j false=false)→
  St N B Z G FP ds (runM (fun k=>listed.getD k false) 0 (all.take m) xs T0) H a w→GLe G0 G→Evo Z0 FP0 w0 Z FP w→wpAnyIn (Wd ro) mm P .any all.toArray Φ fuel listed a w:=by
 intro fuel
 induction fuel with
 | zero =>
  intro listed Z G FP a w hsz hf hc hm hs hG hE
  have hall:=zCl (Nat.le_zero.1 hf)
  have hml:all.length≤m:=by
   rcases Nat.lt_or_ge m all.length with h | h
   ·have h1:=hm m (Nat.le_refl _) h
    rw[hall m (by omega)] at h1;cases h1
   ·exact h
  have hno:Region.ready .any all.toArray listed=[]:=by
   rw[List.eq_nil_iff_forall_not_mem]
   intro i hi
   obtain ⟨h1,o,ho,_⟩:=mem_ready.1 hi
   rw[List.getElem?_toArray] at ho
   have hi':=(List.getElem?_eq_some_iff.1 ho).1
   have h2:=hall i (by omega)
   rw[Array.getD_eq_getD_getElem?,zAR h1] at h2
   simp at h2
  refine ⟨hno,?_⟩
  have hTe:runM (fun k=>listed.getD k false) 0 (all.take m) xs T0=runM (fun _=>true) 0 (all.take m) xs T0:=by
   funext t
   refine zCB _ _ _ _ _ rfl fun j hj=>?_
   have hjl:j<(all.take m).length:=by
    unfold zA4 at hj
    cases hx:(all.take m)[j]? with
    | none=>rw[hx] at hj;cases hj
    | some _=>exact (List.getElem?_eq_some_iff.1 hx).1
   rw[List.length_take] at hjl
   simp only[Nat.zero_add]
   exact hall j (by omega)
  have:=hend Z G FP a w (hTe▸hs) hG hE
  rw[List.drop_eq_nil_of_le hml] at this
  exact this
 | succ fuel ih =>
  intro listed Z G FP a w hsz hf hc hm hs hG hE
  by_cases hall:∀k,k<m→k<all.length→listed.getD k false=true
  ·
   have hTe:runM (fun k=>listed.getD k false) 0 (all.take m) xs T0=runM (fun _=>true) 0 (all.take m) xs T0:=by
    funext t
    refine zCB _ _ _ _ _ rfl fun j hj=>?_
    have hjl:j<(all.take m).length:=by
     unfold zA4 at hj
     cases hx:(all.take m)[j]? with
     | none=>rw[hx] at hj;cases hj
     | some _=>exact (List.getElem?_eq_some_iff.1 hx).1
    rw[List.length_take] at hjl
    simp only[Nat.zero_add]
    exact hall j (by omega) (by omega)
   have h:=hend Z G FP a w (hTe▸hs) hG hE
   by_cases hml:m≤all.length
   ·refine zF9 hA (all.drop m) m (fuel+1) listed a w rfl (Nat.le_refl _) hml hsz hf hc (fun i hi=>⟨fun hx=>?_,fun hx=>hall i hx hi⟩) h
    rcases Nat.lt_or_ge i m with h' | h'
    ·exact h'
    ·rw[hm i h' hi] at hx;cases hx
   ·have hd:all.drop m=[]:=List.drop_eq_nil_of_le (by omega)
    rw[hd] at h
    have hno:Region.ready .any all.toArray listed=[]:=by
     rw[List.eq_nil_iff_forall_not_mem]
     intro i hi
     obtain ⟨h1,o,ho,_⟩:=mem_ready.1 hi
     rw[List.getElem?_toArray] at ho
     have hi':=(List.getElem?_eq_some_iff.1 ho).1
     have h2:=hall i (by omega) hi'
     rw[Array.getD_eq_getD_getElem?,zAR h1] at h2
     simp at h2
    exact ⟨fun _=>h,fun i hi=>by rw[hno] at hi;simp at hi⟩
  ·
   have hex:∃k,k<m∧k<all.length∧listed.getD k false=false:=by
    apply Classical.byContradiction
    intro hn
    refine hall fun k h1 h2=>?_
    cases hx:listed.getD k false with
    | true=>rfl
    | false=>exact absurd ⟨k,h1,h2,hx⟩ hn
   obtain ⟨k,⟨hk1,hk2,hk3⟩,hkl⟩:=zR (p:=fun k=>k<m∧k<all.length∧listed.getD k false=false) hex
   have hkr:k∈Region.ready .any all.toArray listed:=zBH hA hsz hk2 hk3 (fun j hj=>by
    cases hx:listed.getD j false with
    | true=>rfl
    | false=>have:=hkl j ⟨by omega,by omega,hx⟩;omega)
   refine ⟨fun h0=>by rw[h0] at hkr;simp at hkr,fun i hi=>?_⟩
   obtain ⟨h1,o,ho,ha⟩:=mem_ready.1 hi
   rw[List.getElem?_toArray] at ho
   have hil:=(List.getElem?_eq_some_iff.1 ho).1
   have hnl:=zAR h1
   have hnf:listed.getD i false=false:=by rw[Array.getD_eq_getD_getElem?,hnl];rfl
   have him:i<m:=by
    rcases Nat.lt_or_ge i m with h' | h'
    ·exact h'
    ·have:=zAE hA hc hi (hA.ord k i _ o (by omega) (List.getElem?_eq_getElem hk2) ho (.inl h'))
     rw[hk3] at this;cases this
   have hoT:(all.take m)[i]?=some o:=by rw[List.getElem?_take,if_pos him];exact ho
   obtain ⟨x,hx,hcert⟩:=zO4 (all.take m) xs 0 i T0 o hc0 hoT
   obtain ⟨hok,hnd⟩:=hA.ok i o ho
   have dstm:∀{j t},zA4 (all.take m) j=some t→∃oj,all[j]?=some oj∧oj.dst=some t∧j<m:=by
    intro j t hj
    unfold zA4 at hj
    cases hx:(all.take m)[j]? with
    | none=>rw[hx] at hj;cases hj
    | some oj =>
     rw[hx] at hj
     have hlt:=(List.getElem?_eq_some_iff.1 hx).1
     rw[List.length_take] at hlt
     rw[List.getElem?_take,if_pos (by omega)] at hx
     exact ⟨oj,hx,hj,by omega⟩
   have hsee:∀t∈zCc all o,runM (fun k=>decide (k<0+i)) 0 (all.take m) xs T0 t=runM (fun k=>listed.getD k false) 0 (all.take m) xs T0 t:=by
    intro t ht
    refine zCB _ _ _ _ _ rfl fun j hj=>?_
    obtain ⟨oj,hoj,hd,hjm⟩:=dstm hj
    simp only[Nat.zero_add]
    rcases Nat.lt_trichotomy j i with h' | h' | h'
    ·have:=zAE hA hc hi (hA.ord j i oj o h' hoj ho (.inr (by simp[zCq,hd,ht])))
     rw[this];simp[h']
    ·subst h';rw[hnf];simp
    ·have hjl:=(List.getElem?_eq_some_iff.1 hoj).1
     cases hx:listed.getD j false with
     | false=>simp;omega
     | true =>
      have:=zAL hA hc j i oj hoj (hc j oj hoj hx) (hA.ord i j o oj h' ho hoj (.inr (by
       unfold zCq
       rw[hd]
       simp[ht])))
      rw[hnf] at this;cases this
   have hcert':=zBo hsee hcert
   have hdall:all.all (zBr N)=true:=by
    rw[List.all_eq_true]
    intro o' ho'
    obtain ⟨j',hj'⟩:=List.mem_iff_getElem?.1 ho'
    have:=(hA.ok j' o' hj').1
    simp only[zG,Bool.and_eq_true] at this
    exact this.1
   refine zKt hdall ho hok hnd hcert' hs fun Z' G' FP' a' w' hs' hG' hE'=>?_
   have hadd:=zEF hnl
   refine ih (listed.setIfInBounds i true) Z' G' FP' a' w' (by simpa using hsz) (by omega) (zB8 hc (fun o' ho' e he hb=>by rw[ho] at ho';cases ho';exact ha e (by simpa using he) hb)) (fun j h1 h2=>?_) ?_ (hG.trans hG') (hE.trans hE')
   ·cases hx:(listed.setIfInBounds i true).getD j false with
    | false=>rfl
    | true =>
     rcases zY hx with rfl | hx
     ·omega
     ·rw[hm j h1 h2] at hx;cases hx
   ·have e:runM (fun k=>(listed.setIfInBounds i true).getD k false) 0 (all.take m) xs T0=updO (runM (fun k=>listed.getD k false) 0 (all.take m) xs T0) o.dst x:=by
     refine zCx (all.take m) xs 0 i T0 o x hoT hx ?_ ?_ ?_ ?_
     ·simp only[Nat.zero_add];exact zAJ (by omega)
     ·simp only[Nat.zero_add];exact hnf
     ·intro k hk
      simp only[Nat.zero_add] at hk
      simp only[Array.getD_eq_getD_getElem?,Array.getElem?_setIfInBounds_ne (Ne.symm hk)]
     ·intro k hk hS t ht hdk
      simp only[Nat.zero_add] at hS
      obtain ⟨ok,hok',hd,_⟩:=dstm hdk
      have:=zAL hA hc k i ok hok' (hc k ok hok' hS) (hA.ord i k o ok hk ho hok' (.inr (by
       unfold zCq
       rw[ht]
       simp[hd])))
      rw[hnf] at this;cases this
    rw[e];exact hs'
end go
theorem HW.anyCore {id:Nat} {all:List Oper} {T:Nat→HV} {xs:List HV} {n' m:Nat} (hm:P.follows .mixedOrders=true) (hA:AnyOk N m all) (hc:zUq P H all (all.take m) T xs)
  (hex:ex P N L Q n' [.ops all (all.drop m)] (runM (fun _=>true) 0 (all.take m) xs T) H):HW P N L (.region id all.toArray true) Q T H:=by
 intro ro mm B Z G FP ds a w hB' hL hs
 have hEv:Evo Z FP w Z FP { w with drawn:=w.drawn+1 }:=⟨rfl,rfl,rfl,Nat.le_refl _,fun _ _ _=>rfl,fun _ h=>h,fun _ h=>.inl h,fun id b hb=>.inr ⟨id,hb⟩⟩
 have hi:HInv Z G FP H { w with drawn:=w.drawn+1 }:=hs.inv.keep (Nat.le_refl _) (fun _ _=>rfl)
 have hs':=hs.evo hi (GLe.refl _) hEv
 have hallok:(all.all fun o=>zG N o && zAD o)=true:=by
  rw[List.all_eq_true]
  intro o ho
  obtain ⟨j,hj⟩:=List.mem_iff_getElem?.1 ho
  have:=hA.ok j o hj
  simp[this.1,this.2]
 have hdrop:((all.drop m).all fun o=>zG N o && zAD o)=true:=by
  rw[List.all_eq_true]
  intro o ho
  exact List.all_eq_true.1 hallok o (List.mem_of_mem_drop ho)
 refine wpIn_region_any hm ?_
 refine zXy (m:=m) (B:=B) (Z0:=Z) (G0:=G) (FP0:=FP) (ds:=ds) (w0:=w) hA hc ?_ _ _ Z G FP _ _ (by simp) ?_ ?_ (fun j h1 h2=>?_) ?_ (GLe.refl _) hEv
 ·intro Z1 G1 FP1 a1 w1 hs1 hG1 hE1
  have:=zCP n' [.ops all (all.drop m)] _ H hex (by simp[zAn,hallok,hdrop]) ro mm B Z G FP w Z1 G1 FP1 ds a1 w1 (hB'.evo hE1) hs1 (GLt.of hL hG1) hE1
  simp only[M] at this
  exact this
 ·have:∀k:Nat,left (Array.replicate k false)=k:=by intro k;simp[left]
  rw[this];simp
 ·intro j o hj hl
  exfalso
  have hjl:=(List.getElem?_eq_some_iff.1 hj).1
  simp[Array.getD_eq_getD_getElem?,hjl] at hl
 ·simp[Array.getD_eq_getD_getElem?,h2]
 ·have e:runM (fun k=>(Array.replicate all.toArray.size false).getD k false) 0 (all.take m) xs T=T:=by
   funext t
   rw[zBc]
   intro j _
   simp only[Array.getD_eq_getD_getElem?]
   by_cases hlt:0+j<all.toArray.size
   ·have:0+j<all.length:=by simpa using hlt
    rw[Array.getElem?_eq_getElem (by simpa using hlt)]
    simp
   ·rw[Array.getElem?_eq_none (by simpa using hlt)];rfl
  rw[e]
  exact hs'
theorem HW.quiet {id:Nat} {all:List Oper} {T:Nat→HV} (n:Nat) (hm:P.follows .mixedOrders=true) (hB:anyB N all.length all=true)
  (h:ex P N L Q n [.quiet all all] T H):HW P N L (.region id all.toArray true) Q T H:=by
 obtain ⟨xs,n',hc,hex⟩:=zTR all 0 n T h
 have e:all.take all.length=all:=List.take_length
 refine HW.anyCore (m:=all.length) (n':=n'+1) (xs:=xs) hm (zEW hB) (by rw[e];exact hc) ?_
 rw[e,List.drop_length]
 exact hex
end
end Go.Proofs.YtoknohandclcbaaGreat
namespace Go.Proofs.YtoknohandclcbaaGreat
open Go.RowKit
section
variable {P:Program} {N L:Nat} {Q:Exit→KS} {n:Nat} {r:List Item} {T:Nat→HV} {H:Heap} {k:List Item→KS} {all l:List Oper} {d:Option Nat}
theorem z3i:ex P N L Q (n+1) [] T H=Q .normal T H:=rfl
theorem z0u {b:Nat}:ex P N L Q (n+1) (.endB b::r) T H=ex P N L Q n r T H:=rfl
theorem zTQ:ex P N L Q (n+1) (.ops all []::r) T H=ex P N L Q n r T H:=rfl
theorem yAl {op:Op} {ty:TypeId} {pos:String} {af:Array Edge}:ex P N L Q (n+1) (.ops all (⟨d,op,ty,pos,af,none⟩::l)::r) T H=exO (ex P N L Q n) P all d op l r T H:=rfl
theorem z3h {op:Op} {ty:TypeId} {pos:String} {af:Array Edge} {j:Nat} {b:Bool}:ex P N L Q (n+1) (.ops all (⟨d,op,ty,pos,af,some (j,b)⟩::l)::r) T H=exB (ex P N L Q n) P (zA4 all j) b all d op l r T H:=rfl
theorem z0q:ex P N L Q (n+1) (.code .skip::r) T H=ex P N L Q n r T H:=rfl
theorem zXG {b:Nat}:ex P N L Q (n+1) (.code (.label b)::r) T H=ex P N L Q n r T H:=rfl
theorem z3e {x y:Code}:ex P N L Q (n+1) (.code (.seq x y)::r) T H=ex P N L Q n (.code x::.code y::r) T H:=rfl
theorem zTN {b:Nat}:ex P N L Q (n+1) (.code (.region b (List.toArray l) false)::r) T H=ex P N L Q n (.ops l l::r) T H:=rfl
theorem z0w {c:Operand} {x y:Code}:ex P N L Q (n+1) (.code (.cond c x y)::r) T H=exC2 (ex P N L Q n) (hev T c) x y r T H:=rfl
theorem zXH {b:Nat} {c:Code}:ex P N L Q (n+1) (.code (.block b c)::r) T H=ex P N L Q n (.code c::.endB b::r) T H:=rfl
theorem z0t {b:Nat}:ex P N L Q (n+1) (.code (.exit b)::r) T H=Kx (ex P N L Q n) Q r (.exit b) T H:=rfl
theorem z0s {b:Nat}:ex P N L Q (n+1) (.code (.goto b)::r) T H=Q (.goto b) T H:=rfl
theorem z3f:ex P N L Q (n+1) (.code .ret::r) T H=Q .ret T H:=rfl
theorem z0r {c:Code}:ex P N L Q (n+1) (.code (.loop c)::r) T H=HW P N L (.loop c) (Kx (ex P N L Q n) Q r) T H:=rfl
theorem zXE {c:Code}:ex P N L Q (n+1) (.code (.scope c)::r) T H=HW P N L (.scope c) (Kx (ex P N L Q n) Q r) T H:=rfl
theorem zXF {f:Operand} {ps:Array Nat} {c c' : Code}:ex P N L Q (n+1) (.code (.rangeFunc f ps c c')::r) T H=HW P N L (.rangeFunc f ps c c') (Kx (ex P N L Q n) Q r) T H:=rfl
theorem z0v {b:Nat}:ex P N L Q (n+1) (.code (.region b (List.toArray l) true)::r) T H=HW P N L (.region b (List.toArray l) true) (Kx (ex P N L Q n) Q r) T H:=rfl
def Kd (k:List Item→KS) (o:Option (List Item)) (q:KS) (T:Nat→HV) (H:Heap):Prop:=match o with | some r=>k r T H | none=>q T H
theorem z19 {q:KS}:Kd k (some r) q T H=k r T H:=rfl
theorem z1a {q:KS}:Kd k none q T H=q T H:=rfl
theorem zUh:Kx k Q r .normal T H=k r T H:=rfl
theorem z18 {b:Nat}:Kx k Q r (.exit b) T H=Kd k (zA9 b r) (Q (.exit b)) T H:=by
 simp only[Kx,Kd]
 cases hd:zA9 b r <;> rfl
theorem z17 {b:Nat}:Kx k Q r (.goto b) T H=Q (.goto b) T H:=rfl
theorem z4S:Kx k Q r .ret T H=Q .ret T H:=rfl
theorem zPj {Qn:KS} {Q:Exit→KS}:fin Qn Q .normal T H=Qn T H:=rfl
theorem zWy {Qn:KS} {Q:Exit→KS} {b:Nat}:fin Qn Q (.exit b) T H=Q (.exit b) T H:=rfl
theorem zWx {Qn:KS} {Q:Exit→KS} {b:Nat}:fin Qn Q (.goto b) T H=Q (.goto b) T H:=rfl
theorem z0l {Qn:KS} {Q:Exit→KS}:fin Qn Q .ret T H=Q .ret T H:=rfl
theorem zW2 {ks:List Nat} {i:Nat}:zZZ ks T i=if ks.contains i=true then T i else .any:=rfl
theorem zQ0 {b:Nat}:zA9 b []=none:=rfl
theorem zMo {b c:Nat}:zA9 b (.endB c::r)=if b=c then some r else zA9 b r:=rfl
theorem zMp {b:Nat} {c:Code}:zA9 b (.code c::r)=zA9 b r:=rfl
theorem zQZ {b:Nat}:zA9 b (.ops all l::r)=zA9 b r:=rfl
theorem zUC {c:Bool} {x y:Code}:exC2 k (.v (.bool c)) x y r T H=((c=true→k (.code x::r) T H)∧(c=false→k (.code y::r) T H)):=rfl
theorem z0z {p:Prop} {x:HV} {i:Nat}:exR k (rv H p x) all (some i) l r T=(p∧k (.ops all l::r) (upd T i x) H):=rfl
theorem zTZ {p:Prop} {x:HV} {i:Nat}:exR k (some (p,x,H)) all (some i) l r T=(p∧k (.ops all l::r) (upd T i x) H):=rfl
theorem z1A {p:Prop} {x:HV}:exR k (rv H p x) all none l r T=(p∧k (.ops all l::r) T H):=rfl
theorem zT0 {p:Prop} {x:HV}:exR k (some (p,x,H)) all none l r T=(p∧k (.ops all l::r) T H):=rfl
theorem zXK {p:Prop} {x:HV} {H' : Heap} {i:Nat}:exRq k (rv H' p x) all (some i) l r T H=(p∧k (.quiet all l::r) (upd T i x) H):=rfl
theorem zXb {t i:Nat} {op:Op}:exB2 k P (.v (.bool true)) t false all (some i) op l r T H=k (.ops all l::r) (upd T i (.v undef)) H:=by simp[exB2,updO]
theorem zXc {t i:Nat} {op:Op}:exB2 k P (.v (.bool false)) t true all (some i) op l r T H=k (.ops all l::r) (upd T i (.v undef)) H:=by simp[exB2,updO]
theorem zQU {c b:Bool} {t i:Nat} {op:Op}:exB2 k P (.v (.bool c)) t b all (some i) op l r T H=((c=b→exO k P all (some i) op l r T H)∧(c=(!b)→k (.ops all l::r) (upd T i (.v undef)) H)):=rfl
theorem zMh {b:Bool} {t i:Nat} {op:Op}:exB2 k P (.v undef) t b all (some i) op l r T H=k (.ops all l::r) (upd T i (.v undef)) H:=rfl
theorem zUE {t i:Nat} {op:Op}:zDe k P (.v (.bool true)) t false all (some i) op l r T H=k (.quiet all l::r) (upd T i (.v undef)) H:=by simp[zDe,updO]
theorem zUF {t i:Nat} {op:Op}:zDe k P (.v (.bool false)) t true all (some i) op l r T H=k (.quiet all l::r) (upd T i (.v undef)) H:=by simp[zDe,updO]
theorem zMe {c b:Bool} {t i:Nat} {op:Op}:zDe k P (.v (.bool c)) t b all (some i) op l r T H=((c=b→exOq k P all (some i) op l r T H)∧(c=(!b)→k (.quiet all l::r) (upd T i (.v undef)) H)):=rfl
theorem zKi {b:Bool} {t i:Nat} {op:Op}:zDe k P (.v undef) t b all (some i) op l r T H=k (.quiet all l::r) (upd T i (.v undef)) H:=rfl
theorem zT1 {x x' : Res} (h:x=x'):exR k x all d l r T=exR k x' all d l r T:=by rw[h]
theorem zPn {x x' : Res} (h:x=x'):exRq k x all d l r T H=exRq k x' all d l r T H:=by rw[h]
theorem zUH {t t' : Option Nat} {b:Bool} {op:Op} (h:t=t'):exB k P t b all d op l r T H=exB k P t' b all d op l r T H:=by rw[h]
theorem zQT {x x' : HV} {t:Nat} {b:Bool} {op:Op} (h:x=x'):exB2 k P x t b all d op l r T H=exB2 k P x' t b all d op l r T H:=by rw[h]
theorem zQQ {t t' : Option Nat} {b:Bool} {op:Op} (h:t=t'):exBq k P t b all d op l r T H=exBq k P t' b all d op l r T H:=by rw[h]
theorem zMd {x x' : HV} {t:Nat} {b:Bool} {op:Op} (h:x=x'):zDe k P x t b all d op l r T H=zDe k P x' t b all d op l r T H:=by rw[h]
theorem zQP {v v' : HV} {x y:Code} (h:v=v'):exC2 k v x y r T H=exC2 k v' x y r T H:=by rw[h]
theorem zKe {f f' : HV} {args args' : List HV} (hf:f=f') (ha:args=args'):zDT k P f H args all d l r T=zDT k P f' H args' all d l r T:=by rw[hf,ha]
theorem zXM:exR k none all d l r T=False:=rfl
theorem zUA {fid:Nat} {caps args:List HV} (h:fid<4294967296):zDT k P (.fn fid caps) H args all d l r T=zFY k P fid H (args++caps) all d l r T:=by
 show zFY k P (fnF fid) H (fnA fid .any args caps) all d l r T=_
 rw[zGY h,zFJ h]
theorem zMc {fid:Nat} {x:HV} {caps args:List HV} (h:¬fid<4294967296):zDT k P (.fn fid (x::caps)) H args all d l r T=zFY k P (fnF fid) H (x::(args++caps)) all d l r T:=by
 show zFY k P (fnF fid) H (fnA fid .any args (x::caps)) all d l r T=_
 rw[zGZ h];rfl
theorem zX0 {f:Operand} {args:List Operand} {tys:Array TypeId}:exO k P all d (.call { callee:=.value f,args:=List.toArray args,argTypes:=tys }) l r T H=zDT k P (hev T f) H (args.map (hev T)) all d l r T:=rfl
theorem zXa {t:Nat} {b:Bool} {op:Op}:exB k P (some t) b all d op l r T H=exB2 k P (T t) t b all d op l r T H:=rfl
theorem z1L {t:Nat} {op:Op}:exB2 k P (.v (.bool true)) t true all d op l r T H=exO k P all d op l r T H:=by simp[exB2]
theorem z1M {t:Nat} {op:Op}:exB2 k P (.v (.bool false)) t false all d op l r T H=exO k P all d op l r T H:=by simp[exB2]
theorem zUB {x y:Code}:exC2 k (.v (.bool true)) x y r T H=k (.code x::r) T H:=by simp[exC2]
theorem zQO {x y:Code}:exC2 k (.v (.bool false)) x y r T H=k (.code y::r) T H:=by simp[exC2]
theorem zQX {o:Oper}:zA4 (o::all) 0=o.dst:=rfl
theorem zQY {o:Oper} {j:Nat}:zA4 (o::all) (j+1)=zA4 all j:=by simp[zA4]
theorem zQq {i:Nat} {x:HV}:updO T (some i) x=upd T i x:=rfl
theorem zQr {x:HV}:updO T none x=T:=rfl
theorem z1h {i:Nat} {x:HV}:upd T i x i=x:=by simp[upd]
theorem z1g {i j:Nat} {x:HV} (h:(j == i)=false):upd T i x j=T j:=by
 have:j≠i:=by simpa using h
 simp[upd,this]
theorem zZb {t:Nat}:hev T (.tmp t)=T t:=rfl
theorem zRb {f:Nat} {cs:List Operand}:ropQ P T H (.makeFunc (.func f) #[] (List.toArray cs))=rv H (f<4294967296) (.fn f (cs.map (hev T))):=rfl
theorem zR9 {f:Nat} {x:Operand} {cs:List Operand}:ropQ P T H (.makeFunc (.func f) (List.toArray [x]) (List.toArray cs))=rv H True (.fn (f+4294967296) (hev T x::cs.map (hev T))):=rfl
theorem zM8 {t:TypeId}:exO k P all d (.makeMap t none) l r T H=exR k (zIO H) all d l r T:=rfl
theorem zQH {t:TypeId} {m x:Operand} {ok:Bool}:exO k P all d (.lookup t m x ok) l r T H=exR k (zIP P H t (hev T m) (hev T x) ok) all d l r T:=rfl
theorem zIh {t:TypeId} {m x y:Operand}:exO k P all d (.mapUpdate t m x y) l r T H=exR k (zCy P H t (hev T m) (hev T x) (hev T y)) all d l r T:=rfl
theorem zK4 {t:TypeId} {m x:Operand}:exO k P all d (.mapEntry t m x) l r T H=exR k (zDv P H t (hev T m) (hev T x)) all d l r T:=rfl
theorem zHK {t:TypeId} {m x y:Operand}:exO k P all d (.entryStore t m x y) l r T H=exR k (zC0 H (hev T m) (hev T x) (hev T y)) all d l r T:=rfl
theorem zTp {s:Operand} {t:TypeId}:exO k P all d (.call { callee:=.builtin .clear,args:=#[s],argTypes:=#[t] }) l r T H=exR k (zN9 P H t (hev T s)) all d l r T:=rfl
theorem zXY {s x:Operand} {t u:TypeId}:exO k P all d (.call { callee:=.builtin .copy,args:=#[s,x],argTypes:=#[t,u] }) l r T H=exR k (zWA P H t (hev T s) (hev T x)) all d l r T:=rfl
theorem zPD {t:TypeId} {id:Nat} {x:HV} {ok:Bool}:zIP P H t (.mp id) x ok=zE (getO H id) fun ob=>zE (zCk ob) fun es=>zE (zEg P t) fun ty=>zE (valOf x) fun key=>zE (zPX es.1 key ty.2.2) fun r=>rv H (zCL P ty.1 key) (if ok=true then .tu [cHV r.1,.v (.bool r.2)] else cHV r.1):=rfl
theorem zIN {t:TypeId} {id:Nat} {x y:HV}:zCy P H t (.mp id) x y=zE (getO H id) fun ob=>zE (zCk ob) fun es=>zE (zEg P t) fun ty=>zE (valOf x) fun key=>zE (valOf y) fun val=>zE (putO es.1 es.2 key val) fun o=>some (zCL P ty.1 key∧keq key key=some true,.v undef,H.set id (some o)):=rfl
theorem zJh {t:TypeId} {id:Nat} {x:HV}:zDv P H t (.mp id) x=zE (getO H id) fun ob=>zE (zCk ob) fun es=>zE (zEg P t) fun ty=>zE (valOf x) fun key=>zE (entO es.1 es.2 key ty.2.2) fun r=>some (zCL P ty.1 key∧keq key key=some true,.tu [cHV r.1,.v (.int .i64 r.2.1)],H.set id (some r.2.2)):=rfl
theorem zGz {id:Nat} {b:Int} {x:HV}:zC0 H (.mp id) (.v (.int .i64 b)) x=zE (getO H id) fun ob=>zE (zCk ob) fun es=>zE (valOf x) fun val=>zE (stoO es.1 es.2 b val) fun o=>some (True,.v undef,H.set id (some o)):=rfl
theorem zRz {t:TypeId} {id off len:Nat}:zN9 P H t (.hd id off len)=zE (zL P t 3) fun e=>zE (zA e.2.2) fun cs=>zE (getO H id) fun ob=>some (e.2.2.size≠0∧tvs ob.rows.flatten=true∧off+len=ob.rows.length∧ob.e=e.2.1∧ob.sz=e.2.2.size,.tu [],H.set id (some { ob with rows:=ob.rows.take off++List.replicate len cs })):=rfl
theorem zVz {t:TypeId} {id len:Nat} {x:HV}:zWA P H t (.hd id 0 len) x=zE (zL P t 3) fun e=>zE (zAQ H x) fun new=>zE (getO H id) fun ob=>some (e.2.2.size≠0∧tvs new.flatten=true∧tvs ob.rows.flatten=true∧zV new e.2.2.size∧len=ob.rows.length∧new.length=len∧ob.e=e.2.1∧ob.sz=e.2.2.size,.v (.int .i64 len),H.set id (some { ob with rows:=new })):=rfl
theorem zY5 {x:Value}:valOf (.v x)=some x:=rfl
theorem zQp {x y:Value}:valOf (.ag [.v x,.v y])=some (.agg #[x,y]):=rfl
theorem zS6 {t:TypeId} {x:Int}:zCL P t (.int .i64 x)=(zAg P t=some .i64):=rfl
theorem zS7 {t:TypeId} {x y:Int}:zCL P t (.agg #[.int .i64 x,.int .i64 y])=(zLF P t=some 2):=by simp[zCL,zBh]
theorem zS5 {t:TypeId} {x:ByteArray}:zCL P t (.string x)=(zH P t 4=true):=rfl
theorem zI6 {x y:Int}:keq (.int .i64 x) (.int .i64 y)=some (decide (x=y)):=rfl
theorem zZX {x y:ByteArray}:keq (.string x) (.string y)=some (decide (bl x=bl y)):=rfl
theorem zI7 {x y u v:Int}:keq (.agg #[.int .i64 x,.int .i64 y]) (.agg #[.int .i64 u,.int .i64 v])=some (decide ((x,y)=(u,v))):=by simp[keq,zBh]
theorem zLB {op:BinOp} {t:TypeId} {c:Bool} {rows:List (List HV)}:zBE P op t c (.sl rows) (.v (.slice none 0 0))=if zH P t 3=true∧rows.isEmpty=false then zCd op false else none:=rfl
theorem zNB {op:BinOp} {t:TypeId} {c:Bool} {n q:Nat}:zBE P op t c (.v (.slice none n q)) (.v (.slice none 0 0))=if zH P t 3=true then zCd op true else none:=rfl
theorem zLA {op:BinOp} {t:TypeId} {c:Bool} {a:Addr} {n q:Nat}:zBE P op t c (.v (.slice (some a) n q)) (.v (.slice none 0 0))=if zH P t 3=true then zCd op false else none:=rfl
theorem zJX {a:Addr} {c:Nat}:zAQ H (.v (.slice (some a) 0 c))=some []:=rfl
theorem zWk {f:Nat} (h:f<4294967296):hev T (.func f)=.fn f []:=if_pos h
theorem zSt {x:Value}:hev T (.const x)=cHV x:=rfl
theorem z13 {h:HV} {t:List HV}:T0 (h::t) 0=h:=rfl
theorem z14 {h:HV} {t:List HV} {i:Nat}:T0 (h::t) (i+1)=T0 t i:=by simp[T0]
theorem z4G {i:Nat}:T0 [] i=.any:=rfl
theorem zXU {x:Operand}:exO k P all d (.move x) l r T H=exR k (rv H True (hev T x)) all d l r T:=rfl
theorem zQJ {x:Operand}:exO k P all d (.assign x) l r T H=exR k (rv H True (hev T x)) all d l r T:=rfl
theorem zXT {c x y:Operand}:exO k P all d (.pick c x y) l r T H=exR k (zGv H (hev T c) (hev T x) (hev T y)) all d l r T:=rfl
theorem zTr {t:TypeId}:exO k P all d (.alloc t) l r T H=exR k (zH5 P H t) all d l r T:=rfl
theorem z1G {t:TypeId} {x:Operand}:exO k P all d (.box t x) l r T H=exR k (rbox P H t (hev T x)) all d l r T:=rfl
theorem zTq {t:TypeId} {ps:List (Nat×Operand)}:exO k P all d (.build t (List.toArray ps)) l r T H=exR k (zGA P H t (ps.map fun p=>(p.1,hev T p.2))) all d l r T:=rfl
theorem zHL {t:TypeId} {len:Nat} {ps:List (Nat×Operand)}:exO k P all d (.buildSlice t len (List.toArray ps)) l r T H=exR k (zAu P T H t len ps) all d l r T:=rfl
theorem zXW {t:TypeId} {a:Operand}:exO k P all d (.load t a) l r T H=exR k (zJl P H t (hev T a)) all d l r T:=rfl
theorem zTl {t:TypeId} {a x:Operand}:exO k P all d (.store t a x) l r T H=exR k (zJd P H t (hev T a) (hev T x)) all d l r T:=rfl
theorem zK3 {x:Operand}:exO k P all d (.nilCheck x) l r T H=exR k (zFu H (hev T x)) all d l r T:=rfl
theorem z1H {op:BinOp} {t t' : TypeId} {x y:Operand}:exO k P all d (.binOp op t x y t') l r T H=exR k (rbin P H op t (isC x || isC y) (hev T x) (hev T y)) all d l r T:=rfl
theorem z3j {op:UnOp} {t:TypeId} {x:Operand}:exO k P all d (.unOp op t x) l r T H=exR k (run1 H op (hev T x)) all d l r T:=rfl
theorem zXZ {s t:TypeId} {x:Operand}:exO k P all d (.convert s t x) l r T H=exR k (zDx P H s t (hev T x)) all d l r T:=rfl
theorem zTn {t:TypeId} {x:Operand}:exO k P all d (.makeInterface t x) l r T H=exR k (zFy P H t (hev T x)) all d l r T:=rfl
theorem zXX {f:Nat} {cs:List Operand}:exO k P all d (.makeFunc (.func f) #[] (List.toArray cs)) l r T H=exR k (rv H (f<4294967296) (.fn f (cs.map (hev T)))) all d l r T:=rfl
theorem zXV {f:Nat} {x:Operand} {cs:List Operand}:exO k P all d (.makeFunc (.func f) (List.toArray [x]) (List.toArray cs)) l r T H=exR k (rv H True (.fn (f+4294967296) (hev T x::cs.map (hev T)))) all d l r T:=rfl
theorem zIi {t:TypeId} {x y:Operand}:exO k P all d (.makeSlice t x y) l r T H=exR k (zCJ P H t (hev T x) (hev T y)) all d l r T:=rfl
theorem zQG {t:TypeId} {x lo hi:Operand}:exO k P all d (.slice t x (some lo) (some hi) none) l r T H=exR k (rcut P H t (hev T x) (some (hev T lo)) (some (hev T hi))) all d l r T:=rfl
theorem zQD {t:TypeId} {x lo:Operand}:exO k P all d (.slice t x (some lo) none none) l r T H=exR k (zLv P H t (hev T x) (hev T lo)) all d l r T:=rfl
theorem zQF {t:TypeId} {x:Operand}:exO k P all d (.slice t x none none none) l r T H=exR k (rcut P H t (hev T x) none none) all d l r T:=rfl
theorem zQE {t:TypeId} {x hi:Operand}:exO k P all d (.slice t x none (some hi) none) l r T H=exR k (zPH P H t (hev T x) (hev T hi)) all d l r T:=rfl
theorem zVv {t:TypeId} {id len:Nat} {h:HV}:zPH P H t (.hd id 0 len) h=zE (zL P t 3) fun e=>zE (zA1 (some h) 0) fun y=>zE (getO H id) fun ob =>
   some (len=ob.rows.length∧ob.sz=e.2.2.size∧0≤y∧y≤(len:Int),.hd H.length 0 y.toNat,H.set id none++[some { ob with rows:=ob.rows.take y.toNat }]):=rfl
theorem zVu {t:TypeId} {rows:List (List HV)} {h:HV}:zPH P H t (.sl rows) h=rcut P H t (.sl rows) none (some h):=rfl
theorem zRs {t:TypeId} {a:List UInt8} {h:HV}:zPH P H t (.v (str a)) h=rcut P H t (.v (str a)) none (some h):=rfl
theorem zIk {t:TypeId} {x:Operand} {i:Nat}:exO k P all d (.fieldAddr t x i) l r T H=exR k (zB6 P H t (hev T x) i) all d l r T:=rfl
theorem zTo {t:TypeId} {x:Operand} {i:Nat}:exO k P all d (.field t x i) l r T H=exR k (zDw P H t (hev T x) i) all d l r T:=rfl
theorem zIj {t:TypeId} {x i:Operand}:exO k P all d (.indexAddr t x i) l r T H=exR k (zA2 P H t (hev T x) (hev T i)) all d l r T:=rfl
theorem zTm {t:TypeId} {x i:Operand}:exO k P all d (.index t x i) l r T H=exR k (zDR P H t (hev T x) (hev T i)) all d l r T:=rfl
theorem zM9 {x:Operand} {i:Nat}:exO k P all d (.extract x i) l r T H=exR k (zB1 H (hev T x) i) all d l r T:=rfl
theorem z1F {x:Operand} {t:TypeId}:exO k P all d (.call { callee:=.builtin .len,args:=#[x],argTypes:=#[t] }) l r T H=exR k (rlen P H t (hev T x)) all d l r T:=rfl
theorem zQK {s x:Operand} {t:TypeId}:exO k P all d (.call { callee:=.builtin .append,args:=#[s,x],argTypes:=#[t,t] }) l r T H=exR k (zCj P H t (hev T s) (hev T x)) all d l r T:=by
 show exR k (if t=t then zCj P H t (hev T s) (hev T x) else none) all d l r T=_
 rw[if_pos rfl]
theorem zM1:ex P N L Q (n+1) (.quiet all []::r) T H=ex P N L Q n r T H:=rfl
theorem zTP {op:Op} {ty:TypeId} {pos:String} {af:Array Edge}:ex P N L Q (n+1) (.quiet all (⟨d,op,ty,pos,af,none⟩::l)::r) T H=exOq (ex P N L Q n) P all d op l r T H:=rfl
theorem zTO {op:Op} {ty:TypeId} {pos:String} {af:Array Edge} {j:Nat} {b:Bool}:ex P N L Q (n+1) (.quiet all (⟨d,op,ty,pos,af,some (j,b)⟩::l)::r) T H=exBq (ex P N L Q n) P (zA4 all j) b all d op l r T H:=rfl
theorem zTV:exRq k none all d l r T H=False:=rfl
theorem zUD {t:Nat} {b:Bool} {op:Op}:exBq k P (some t) b all d op l r T H=zDe k P (T t) t b all d op l r T H:=rfl
theorem zX4 {t:Nat} {op:Op}:zDe k P (.v (.bool true)) t true all d op l r T H=exOq k P all d op l r T H:=by simp[zDe]
theorem zX5 {t:Nat} {op:Op}:zDe k P (.v (.bool false)) t false all d op l r T H=exOq k P all d op l r T H:=by simp[zDe]
theorem zT3 {x:Operand}:exOq k P all d (.move x) l r T H=exRq k (ropQ P T H (.move x)) all d l r T H:=rfl
theorem zM3 {x:Operand}:exOq k P all d (.assign x) l r T H=exRq k (ropQ P T H (.assign x)) all d l r T H:=rfl
theorem zT2 {c x y:Operand}:exOq k P all d (.pick c x y) l r T H=exRq k (ropQ P T H (.pick c x y)) all d l r T H:=rfl
theorem zPu {t:TypeId} {ps:Array (Nat×Operand)}:exOq k P all d (.build t ps) l r T H=exRq k (ropQ P T H (.build t ps)) all d l r T H:=rfl
theorem zT5 {t:TypeId} {a:Operand}:exOq k P all d (.load t a) l r T H=exRq k (ropQ P T H (.load t a)) all d l r T H:=rfl
theorem zIf {x:Operand}:exOq k P all d (.nilCheck x) l r T H=exRq k (ropQ P T H (.nilCheck x)) all d l r T H:=rfl
theorem zXN {op:BinOp} {t t' : TypeId} {x y:Operand}:exOq k P all d (.binOp op t x y t') l r T H=exRq k (ropQ P T H (.binOp op t x y t')) all d l r T H:=rfl
theorem z1B {op:UnOp} {t:TypeId} {x:Operand}:exOq k P all d (.unOp op t x) l r T H=exRq k (ropQ P T H (.unOp op t x)) all d l r T H:=rfl
theorem zT7 {s t:TypeId} {x:Operand}:exOq k P all d (.convert s t x) l r T H=exRq k (ropQ P T H (.convert s t x)) all d l r T H:=rfl
theorem zPs {t:TypeId} {x:Operand}:exOq k P all d (.makeInterface t x) l r T H=exRq k (ropQ P T H (.makeInterface t x)) all d l r T H:=rfl
theorem zT4 {f:Nat} {x:Operand} {cs:List Operand}:exOq k P all d (.makeFunc (.func f) (List.toArray [x]) (List.toArray cs)) l r T H=exRq k (ropQ P T H (.makeFunc (.func f) (List.toArray [x]) (List.toArray cs))) all d l r T H:=rfl
theorem zT6 {f:Nat} {cs:List Operand}:exOq k P all d (.makeFunc (.func f) #[] (List.toArray cs)) l r T H=exRq k (ropQ P T H (.makeFunc (.func f) #[] (List.toArray cs))) all d l r T H:=rfl
theorem zPq {t:TypeId} {x:Operand} {lo hi:Option Operand}:exOq k P all d (.slice t x lo hi none) l r T H=exRq k (ropQ P T H (.slice t x lo hi none)) all d l r T H:=rfl
theorem zHG {t:TypeId} {x:Operand} {i:Nat}:exOq k P all d (.fieldAddr t x i) l r T H=exRq k (ropQ P T H (.fieldAddr t x i)) all d l r T H:=rfl
theorem zPt {t:TypeId} {x:Operand} {i:Nat}:exOq k P all d (.field t x i) l r T H=exRq k (ropQ P T H (.field t x i)) all d l r T H:=rfl
theorem zHF {t:TypeId} {x i:Operand}:exOq k P all d (.indexAddr t x i) l r T H=exRq k (ropQ P T H (.indexAddr t x i)) all d l r T H:=rfl
theorem zPr {t:TypeId} {x i:Operand}:exOq k P all d (.index t x i) l r T H=exRq k (ropQ P T H (.index t x i)) all d l r T H:=rfl
theorem zKX {x:Operand} {i:Nat}:exOq k P all d (.extract x i) l r T H=exRq k (ropQ P T H (.extract x i)) all d l r T H:=rfl
theorem zKZ {b:Builtin} {args:Array Operand} {tys:Array TypeId}:exOq k P all d (.call { callee:=.builtin b,args:=args,argTypes:=tys }) l r T H=exRq k (ropQ P T H (.call { callee:=.builtin b,args:=args,argTypes:=tys })) all d l r T H:=rfl
theorem zT8 {f:Operand} {args:List Operand} {tys:Array TypeId}:exOq k P all d (.call { callee:=.value f,args:=List.toArray args,argTypes:=tys }) l r T H=zDb k P (hev T f) H (args.map (hev T)) all d l r T:=rfl
theorem zM2 {rv:Operand} {name:String} {args:List Operand} {tys:Array TypeId}:exOq k P all d (.call { callee:=.invoke rv name,args:=List.toArray args,argTypes:=tys }) l r T H=zHh k P (hev T rv) name H (args.map (hev T)) all d l r T:=rfl
theorem zQI {rv:Operand} {name:String} {args:List Operand} {tys:Array TypeId}:exO k P all d (.call { callee:=.invoke rv name,args:=List.toArray args,argTypes:=tys }) l r T H=zKc k P (hev T rv) name H (args.map (hev T)) all d l r T:=rfl
theorem zQL {fid:Nat} {caps args:List HV} (h:fid<4294967296):zDb k P (.fn fid caps) H args all d l r T=zMw k P fid H (args++caps) all d l r T:=by
 show zMw k P (fnF fid) H (fnA fid .any args caps) all d l r T=_
 rw[zGY h,zFJ h]
theorem zKf {fid:Nat} {x:HV} {caps args:List HV} (h:¬fid<4294967296):zDb k P (.fn fid (x::caps)) H args all d l r T=zMw k P (fnF fid) H (x::(args++caps)) all d l r T:=by
 show zMw k P (fnF fid) H (fnA fid .any args (x::caps)) all d l r T=_
 rw[zGZ h];rfl
theorem zX1 {t:TypeId} {x:HV} {name:String} {args:List HV}:zKc k P (.ic t x) name H args all d l r T=zFK k P (zAb P t name) H (x::args) all d l r T:=rfl
theorem zMb {fid:Nat} {args:List HV}:zFK k P (some fid) H args all d l r T=zFY k P fid H args all d l r T:=rfl
theorem zTs {t:TypeId} {x:HV} {name:String} {args:List HV}:zHh k P (.ic t x) name H args all d l r T=zEr k P (zAb P t name) H (x::args) all d l r T:=rfl
theorem zK6 {fid:Nat} {args:List HV}:zEr k P (some fid) H args all d l r T=zMw k P fid H args all d l r T:=rfl
theorem zIp {f f' : HV} {args args' : List HV} (hf:f=f') (ha:args=args'):zDb k P f H args all d l r T=zDb k P f' H args' all d l r T:=by rw[hf,ha]
theorem zMa {f f' : HV} {name:String} {args args' : List HV} (hf:f=f') (ha:args=args'):zKc k P f name H args all d l r T=zKc k P f' name H args' all d l r T:=by rw[hf,ha]
theorem zK5 {f f' : HV} {name:String} {args args' : List HV} (hf:f=f') (ha:args=args'):zHh k P f name H args all d l r T=zHh k P f' name H args' all d l r T:=by rw[hf,ha]
theorem zKb {f f' : Option Nat} {args args' : List HV} (hf:f=f') (ha:args=args'):zFK k P f H args all d l r T=zFK k P f' H args' all d l r T:=by rw[hf,ha]
theorem zIm {f f' : Option Nat} {args args' : List HV} (hf:f=f') (ha:args=args'):zEr k P f H args all d l r T=zEr k P f' H args' all d l r T:=by rw[hf,ha]
theorem zG4 {t:TypeId} {len:Nat} {ps:List (Nat×Operand)}:exOq k P all d (.buildSlice t len (List.toArray ps)) l r T H=exRq k (z2 P T H t len ps) all d l r T H:=rfl
theorem z1E {x y:Operand} {t u:TypeId}:exO k P all d (.call { callee:=.builtin .max,args:=#[x,y],argTypes:=#[t,u] }) l r T H=exR k (rmm true H (hev T x) (hev T y)) all d l r T:=rfl
theorem z1D {x y:Operand} {t u:TypeId}:exO k P all d (.call { callee:=.builtin .min,args:=#[x,y],argTypes:=#[t,u] }) l r T H=exR k (rmm false H (hev T x) (hev T y)) all d l r T:=rfl
theorem zVh {x y:Operand} {t u:TypeId}:ropQ P T H (.call { callee:=.builtin .max,args:=#[x,y],argTypes:=#[t,u] })=rmm true H (hev T x) (hev T y):=rfl
theorem zVg {x y:Operand} {t u:TypeId}:ropQ P T H (.call { callee:=.builtin .min,args:=#[x,y],argTypes:=#[t,u] })=rmm false H (hev T x) (hev T y):=rfl
theorem zYt {i:IntKind} {x y:Int}:rmm true H (.v (.int i x)) (.v (.int i y))=rv H True (.v (.int i (if y > x then y else x))):=rfl
theorem zYs {i:IntKind} {x y:Int}:rmm false H (.v (.int i x)) (.v (.int i y))=rv H True (.v (.int i (if y<x then y else x))):=rfl
def zRw (P:Program) (H:Heap) (s t:TypeId) (a:List UInt8):Bool→Res
 | true=>zE (zL P t 3) fun e=>rv H (zH P s 4=true∧zAg P e.2.1=some .u8∧a.length≤140737488355328) (.sl (a.map zDg))
 | false=>zCi P H s t (.v (str a))
theorem zLw {s t:TypeId} {a:List UInt8}:zRw P H s t a true=zE (zL P t 3) fun e=>rv H (zH P s 4=true∧zAg P e.2.1=some .u8∧a.length≤140737488355328) (.sl (a.map zDg)):=rfl
theorem zJn {s t:TypeId} {a:List UInt8}:zRw P H s t a false=zCi P H s t (.v (str a)):=rfl
theorem zPI {s t:TypeId} {a:List UInt8}:zDx P H s t (.v (str a))=zRw P H s t a (zH P t 3):=by
 unfold zDx str
 dsimp only
 cases zH P t 3 <;> rfl
theorem zPK {s t:TypeId} {i:IntKind} {x:Int}:zDx P H s t (.v (.int i x))=zCi P H s t (.v (.int i x)):=rfl
theorem zRy {s t:TypeId} {id o m:Nat}:zDx P H s t (.hd id o m)=zCi P H s t (.hd id o m):=rfl
theorem zRx {s t:TypeId} {rows:List (List HV)}:zDx P H s t (.sl rows)=zCi P H s t (.sl rows):=rfl
theorem zPJ {s t:TypeId}:zDx P H s t (.v (.slice none 0 0))=zCi P H s t (.v (.slice none 0 0)):=rfl
theorem zVx {t:TypeId} {id m:Nat} {lo:HV}:zLv P H t (.pt id m 0 0) lo=zE (zQd P t) fun m'=>zE (zA1 (some lo) 0) fun z=>zE (getO H id) fun ob=>zE (zNd ob.rows) fun row =>
   some (m=1∧row.length=m'∧m'≤140737488355328∧0≤z∧z≤(m' : Int),.sl (((fzoL row).map fun c=>[c]).drop z.toNat),H.set id none):=rfl
theorem zRt {t:TypeId} {a:List UInt8} {lo:HV}:zLv P H t (.v (str a)) lo=rcut P H t (.v (str a)) (some lo) none:=rfl
theorem zVy {t:TypeId} {id o m:Nat} {lo:HV}:zLv P H t (.hd id o m) lo=rcut P H t (.hd id o m) (some lo) none:=rfl
theorem zVw {t:TypeId} {rows:List (List HV)} {lo:HV}:zLv P H t (.sl rows) lo=rcut P H t (.sl rows) (some lo) none:=rfl
theorem zPT {r' : List HV}:zNd [r']=some r':=rfl
theorem zUY {op:BinOp} {t:TypeId} {c:Bool} {a b:List HV}:zBE P op t c (.ag a) (.ag b)=(zBN P t).bind fun ks=>(eqK ks a b).bind fun r=>zCd op r:=rfl
theorem z1O:eqK [] [] []=some true:=rfl
theorem z1P {ks:List Nat} {i:IntKind} {x y:Int} {a b:List HV}:eqK (8::ks) (.v (.int i x)::a) (.v (.int i y)::b)=(eqK ks a b).map fun r=>decide (x=y) && r:=by simp[eqK]
theorem z1N {ks:List Nat} {x y:List UInt8} {a b:List HV}:eqK (4::ks) (.v (str x)::a) (.v (str y)::b)=(eqK ks a b).map fun r=>decide (x=y) && r:=rfl
theorem zXd {ks:List Nat} {x y:Bool} {a b:List HV}:eqK (7::ks) (.v (.bool x)::a) (.v (.bool y)::b)=(eqK ks a b).map fun r=>decide (x=y) && r:=by simp[eqK]
theorem zMN {α:Type} {b:List α}:List.append [] b=b:=rfl
theorem zKE {α:Type} {x:α} {a b:List α}:List.append (x::a) b=x::List.append a b:=rfl
theorem zKk {b:Nat}:zA9 b (.quiet all l::r)=zA9 b r:=rfl
theorem zR8 {x:Operand}:ropQ P T H (.move x)=rv H True (hev T x):=rfl
theorem zLq {x:Operand}:ropQ P T H (.assign x)=rv H True (hev T x):=rfl
theorem zR7 {c x y:Operand}:ropQ P T H (.pick c x y)=zGv H (hev T c) (hev T x) (hev T y):=rfl
theorem zPC {t:TypeId} {ps:List (Nat×Operand)}:ropQ P T H (.build t (List.toArray ps))=zGA P H t (ps.map fun p=>(p.1,hev T p.2)):=rfl
theorem zRa {t:TypeId} {a:Operand}:ropQ P T H (.load t a)=zE (ti P t) fun x=>zFw x H (hev T a):=rfl
theorem zIM {x:Operand}:ropQ P T H (.nilCheck x)=zFu H (hev T x):=rfl
theorem zVj {op:BinOp} {t t' : TypeId} {x y:Operand}:ropQ P T H (.binOp op t x y t')=rbin P H op t (isC x || isC y) (hev T x) (hev T y):=rfl
theorem zYp {op:UnOp} {t:TypeId} {x:Operand}:ropQ P T H (.unOp op t x)=run1 H op (hev T x):=rfl
theorem zRc {s t:TypeId} {x:Operand}:ropQ P T H (.convert s t x)=zCi P H s t (hev T x):=rfl
theorem zPA {t:TypeId} {x:Operand}:ropQ P T H (.makeInterface t x)=zFy P H t (hev T x):=rfl
theorem zOy {t:TypeId} {x:Operand} {lo hi:Option Operand}:ropQ P T H (.slice t x lo hi none)=rcut P H t (hev T x) (lo.map (hev T)) (hi.map (hev T)):=rfl
theorem zGx {t:TypeId} {x:Operand} {i:Nat}:ropQ P T H (.fieldAddr t x i)=zB6 P H t (hev T x) i:=rfl
theorem zPB {t:TypeId} {x:Operand} {i:Nat}:ropQ P T H (.field t x i)=zDw P H t (hev T x) i:=rfl
theorem zGw {t:TypeId} {x i:Operand}:ropQ P T H (.indexAddr t x i)=zA2 P H t (hev T x) (hev T i):=rfl
theorem zOz {t:TypeId} {x i:Operand}:ropQ P T H (.index t x i)=zDR P H t (hev T x) (hev T i):=rfl
theorem zJf {x:Operand} {i:Nat}:ropQ P T H (.extract x i)=zB1 H (hev T x) i:=rfl
theorem zVi {x:Operand} {t:TypeId}:ropQ P T H (.call { callee:=.builtin .len,args:=#[x],argTypes:=#[t] })=rlen P H t (hev T x):=rfl
theorem zOx {x y:HV}:zGv H (.v (.bool true)) x y=rv H True x:=rfl
theorem zLo {x y:HV}:zGv H (.v (.bool false)) x y=rv H True y:=rfl
theorem zVa {b:Bool}:run1 H .not (.v (.bool b))=rv H True (.v (.bool (!b))):=rfl
theorem zVb {i:IntKind} {z:Int}:run1 H .neg (.v (.int i z))=rv H True (.v (.int i (i.wrap (0-z)))):=rfl
theorem zLu {vs:List HV} {i:Nat}:zB1 H (.tu vs) i=zE vs[i]? fun v=>rv H True v:=rfl
theorem zRv {s t:TypeId} {i:IntKind} {z:Int}:zCi P H s t (.v (.int i z))=zE (zAg P s) fun _=>zE (zAg P t) fun k'=>rv H True (.v (.int k' (k'.wrap z))):=rfl
theorem zRu {s t:TypeId} {a:List UInt8}:zCi P H s t (.v (str a))=rv H (zH P s 4=true∧zH P t 4=true) (.v (str a)):=rfl
theorem zWC {s t:TypeId} {id o len:Nat}:zCi P H s t (.hd id o len)=zE (zL P s 3) fun e=>zE (zAQ H (.hd id o len)) fun rows=>zE (zBW rows) fun l=>rv H (zAg P e.2.1=some .u8∧zH P t 4=true) (.v (str l)):=rfl
theorem zWB {s t:TypeId} {rows:List (List HV)}:zCi P H s t (.sl rows)=zE (zL P s 3) fun e=>zE (zAQ H (.sl rows)) fun rows=>zE (zBW rows) fun l=>rv H (zAg P e.2.1=some .u8∧zH P t 4=true) (.v (str l)):=rfl
theorem zVe {rows:List (List HV)} {i o:Nat}:zFu H (.fp rows i o)=rv H True (.fp rows i o):=rfl
theorem zVc {id m i o:Nat}:zFu H (.pt id m i o)=rv H (zBZ H (.pt id m i o)=true) (.pt id m i o):=rfl
theorem zVf {f:Nat} {cs:List HV}:zFu H (.fn f cs)=rv H True (.fn f cs):=rfl
theorem zVd {t:TypeId} {x:HV}:zFu H (.ic t x)=rv H True (.ic t x):=rfl
theorem zSY {rows:List (List HV)} {i o:Nat}:zBZ H (.fp rows i o)=true:=rfl
theorem zSX {id m i o:Nat}:zBZ H (.pt id m i o)=(match getO H id with | some ob=>m == ob.rows.length && ob.rows.length != 0 | none=>false):=by
 simp only[zBZ,getO]
 cases h:H[id]? with
 | none=>rfl
 | some o'=>cases o' <;> rfl
theorem zRk {cs:List HV} {t:TypeId} {i:Nat}:zDw P H t (.ag cs) i=zE (zI P t i) fun f=>rv H (okTI f.2=true∧f.1+f.2.size≤cs.length) (mkV f.2 ((cs.drop f.1).take f.2.size)):=rfl
theorem zIQ {rows:List (List HV)} {t:TypeId} {i:IntKind} {z:Int}:zA2 P H t (.sl rows) (.v (.int i z))=zE (zL P t 3) fun e=>rv H (0≤z∧z<(rows.length:Int)∧zV rows e.2.2.size) (.fp rows z.toNat 0):=rfl
theorem zIS {id o len:Nat} {t:TypeId} {i:IntKind} {z:Int}:zA2 P H t (.hd id o len) (.v (.int i z))=zE (zL P t 3) fun e=>zE (getO H id) fun ob=>rv H (o+len=ob.rows.length∧ob.sz=e.2.2.size∧0≤z∧z<(len:Int)) (.pt id ob.rows.length (o+z.toNat) 0):=rfl
theorem zIR {id m r' o:Nat} {t:TypeId} {i:IntKind} {z:Int}:zA2 P H t (.pt id m r' o) (.v (.int i z))=zE (zL P t 2) fun e=>rv H (zBZ H (.pt id m r' o)=true∧0≤z∧z<(e.1.num:Int)) (.pt id m r' (o+z.toNat*e.2.2.size)):=rfl
theorem zIT {rows:List (List HV)} {j o:Nat} {t:TypeId} {i:IntKind} {z:Int}:zA2 P H t (.fp rows j o) (.v (.int i z))=zE (zL P t 2) fun e=>rv H (0≤z∧z<(e.1.num:Int)) (.fp rows j (o+z.toNat*e.2.2.size)):=rfl
theorem zPE {a:List UInt8} {t:TypeId} {i:IntKind} {z:Int}:zDR P H t (.v (str a)) (.v (.int i z))=zE a[z.toNat]? fun b=>rv H (zH P t 4=true∧0≤z) (.v (.int .u8 (b.toNat:Int))):=rfl
theorem zRj {cs:List HV} {t:TypeId} {i:IntKind} {z:Int}:zDR P H t (.ag cs) (.v (.int i z))=zE (zL P t 2) fun e=>rv H (okTI e.2.2=true∧0≤z∧z<(e.1.num:Int)∧z.toNat*e.2.2.size+e.2.2.size≤cs.length) (mkV e.2.2 ((cs.drop (z.toNat*e.2.2.size)).take e.2.2.size)):=rfl
theorem z1Y {z:Int}:zA1 none z=some z:=rfl
theorem z3x {i:IntKind} {y z:Int}:zA1 (some (.v (.int i y))) z=some y:=rfl
theorem zM0 (a:List UInt8) (i j:Nat):Value.string ((⟨a.toArray⟩:ByteArray).extract i j)=str ((a.take j).drop i):=by
 unfold str
 congr 1
 apply ByteArray.ext
 apply Array.ext'
 simp[ByteArray.data_extract,List.extract_eq_take_drop,List.drop_take]
theorem zVt {a:List UInt8} {t:TypeId} {lo hi:Option HV}:rcut P H t (.v (str a)) lo hi=zE (zA1 lo 0) fun x=>zE (zA1 hi (a.length:Int)) fun y=>rv H (zH P t 4=true∧0≤x∧x≤y∧y≤(a.length:Int)) (.v (str ((a.take y.toNat).drop x.toNat))):=by
 have e:∀x y:Nat,Value.string ((⟨a.toArray⟩:ByteArray).extract x y)=str ((a.take y).drop x):=zM0 a
 have e2:(⟨a.toArray⟩:ByteArray).size=a.length:=by simp[ByteArray.size]
 show zE (zA1 lo 0) (fun x=>zE (zA1 hi ((⟨a.toArray⟩:ByteArray).size:Int)) fun y=>rv H (zH P t 4=true∧0≤x∧x≤y∧y≤((⟨a.toArray⟩:ByteArray).size:Int)) (.v (.string ((⟨a.toArray⟩:ByteArray).extract x.toNat y.toNat))))=_
 rw[e2]
 simp only[e]
theorem zZC {rows:List (List HV)} {t:TypeId} {lo hi:Option HV}:rcut P H t (.sl rows) lo hi=zE (zL P t 3) fun e=>zE (zA1 lo 0) fun l=>zE (zA1 hi (rows.length:Int)) fun h=>rv H (zV rows e.2.2.size∧0≤l∧l≤h∧h≤(rows.length:Int)) (.sl ((rows.drop l.toNat).take (h.toNat-l.toNat))):=rfl
theorem zZD {id o len:Nat} {t:TypeId} {lo hi:Option HV}:rcut P H t (.hd id o len) lo hi=zE (zL P t 3) fun e=>zE (zA1 lo 0) fun l=>zE (zA1 hi (len:Int)) fun h=>zE (getO H id) fun ob =>
   rv H (o+len=ob.rows.length∧ob.sz=e.2.2.size∧0≤l∧l≤h∧h=(len:Int)) (.hd id (o+l.toNat) (len-l.toNat)):=rfl
theorem zVl {a:List UInt8} {t:TypeId}:rlen P H t (.v (str a))=rv H (zH P t 4=true) (.v (.int .i64 (a.length:Int))):=by
 have e2:(⟨a.toArray⟩:ByteArray).size=a.length:=by simp[ByteArray.size]
 show rv H (zH P t 4=true) (.v (.int .i64 ((⟨a.toArray⟩:ByteArray).size:Int)))=_
 rw[e2]
theorem zVm {t:TypeId}:rlen P H t (.v (.slice none 0 0))=rv H (zH P t 3=true) (.v (.int .i64 0)):=rfl
theorem zYu {rows:List (List HV)} {t:TypeId}:rlen P H t (.sl rows)=rv H (zH P t 3=true) (.v (.int .i64 (rows.length:Int))):=rfl
theorem zYv {id o len:Nat} {t:TypeId}:rlen P H t (.hd id o len)=zE (getO H id) fun ob=>rv H (o+len=ob.rows.length∧zH P t 3=true) (.v (.int .i64 (len:Int))):=rfl
theorem zLt {x:TI} {ob:HObj} {row:List HV} {id m i o:Nat}:zH2 x H ob row id m i o true=rv H (okTI x=true∧m=ob.rows.length∧o+x.size≤ob.sz) (mkV x ((row.drop o).take x.size)):=rfl
theorem zJj {x:TI} {ob:HObj} {row:List HV} {id m i o:Nat}:zH2 x H ob row id m i o false=zE (if okTI x=true then some () else none) fun _=>zJi x (zDS H id i o x.size) (.pt id m i o):=rfl
theorem zRg {x:TI} {id m i o:Nat}:zJk x H (.pt id m i o)=zE (getO H id) fun ob=>zE ob.rows[i]? fun row=>zH2 x H ob row id m i o (tvs ((row.drop o).take x.size)):=rfl
theorem zRh {x:TI} {rows:List (List HV)} {i o:Nat}:zJk x H (.fp rows i o)=zE rows[i]? fun row=>rv H (okTI x=true∧o+x.size≤row.length∧tvs ((row.drop o).take x.size)=true) (mkV x ((row.drop o).take x.size)):=rfl
theorem zRf {x:TI} {id m r' o:Nat}:zJi x H (.pt id m r' o)=zE (getO H id) fun ob=>zE ob.rows[r']? fun row=>rv H (m=ob.rows.length∧o+x.size≤ob.sz∧tvs ((row.drop o).take x.size)=true) (mkV x ((row.drop o).take x.size)):=rfl
theorem zRd {x:TI} {id m r' o:Nat}:zFw x H (.pt id m r' o)=zE (getO H id) fun ob=>zE ob.rows[r']? fun row=>rv H (okTI x=true∧m=ob.rows.length∧o+x.size≤ob.sz∧tvs ((row.drop o).take x.size)=true) (mkV x ((row.drop o).take x.size)):=rfl
theorem zRe {x:TI} {rows:List (List HV)} {i o:Nat}:zFw x H (.fp rows i o)=zE rows[i]? fun row=>rv H (okTI x=true∧o+x.size≤row.length∧tvs ((row.drop o).take x.size)=true) (mkV x ((row.drop o).take x.size)):=rfl
theorem zR4 {t:TypeId} {id m r' o:Nat} {v:HV}:zJd P H t (.pt id m r' o) v=zE (ti P t) fun x=>zE (getO H id) fun ob=>zE ob.rows[r']? fun row =>
   some (m=ob.rows.length∧(zQ v).length=x.size∧(zQ v).all c1=true∧o+x.size≤ob.sz,.any,H.set id (some { ob with rows:=ob.rows.set r' (row.take o++zQ v++row.drop (o+x.size)) })):=rfl
theorem zGy {t:TypeId} {i j:IntKind} {x y:Int}:zCJ P H t (.v (.int i x)) (.v (.int j y))=zE (zL P t 3) fun e=>zE (zA e.2.2) fun cs =>
  some (0≤x∧x≤y∧(e.2.2.bytes:Int)*y≤281474976710656∧y≤9223372036854775807,.hd H.length 0 x.toNat,H++[some ⟨e.2.1,e.2.2.size,List.replicate x.toNat cs⟩]):=rfl
theorem zLx {t:TypeId} {x:HV}:zCj P H t (.v (.slice none 0 0)) x=zE (zL P t 3) fun e=>zE (zAQ H x) fun new =>
  some (e.2.2.size≠0∧(zA e.2.2).isSome=true∧tvs new.flatten=true∧zV new e.2.2.size∧new.length≤140737488355328∧new.length*e.2.2.bytes≤140737488355328,.hd H.length 0 new.length,H++[some ⟨e.2.1,e.2.2.size,new⟩]):=rfl
theorem zPL {t:TypeId} {id len:Nat} {x:HV}:zCj P H t (.hd id 0 len) x=zE (zL P t 3) fun e=>zE (zAQ H x) fun new=>zE (getO H id) fun ob =>
  some (e.2.2.size≠0∧(zA e.2.2).isSome=true∧tvs new.flatten=true∧zV new e.2.2.size∧len=ob.rows.length∧ob.e=e.2.1∧ob.sz=e.2.2.size∧len+new.length≤140737488355328∧(len+new.length)*e.2.2.bytes≤140737488355328,
   .hd id 0 (len+new.length),H.set id (some { ob with rows:=ob.rows++new })):=rfl
theorem zLd:zAQ H (.v (.slice none 0 0))=some []:=rfl
theorem zOi {rows:List (List HV)}:zAQ H (.sl rows)=some rows:=rfl
theorem zOj {id o len:Nat}:zAQ H (.hd id o len)=(getO H id).bind fun ob=>if o+len=ob.rows.length then some (ob.rows.drop o) else none:=by
 simp only[zAQ,getO]
 cases h:H[id]? with
 | none=>rfl
 | some o'=>cases o' <;> rfl
theorem zQc {op:BinOp} {t:TypeId} {c:Bool} {i:IntKind} {x y:Int}:zBE P op t c (.v (.int i x)) (.v (.int i y))=zB0 op i x y:=by simp[zBE]
theorem zNE {op:BinOp} {t:TypeId} {c:Bool} {x y:Bool}:zBE P op t c (.v (.bool x)) (.v (.bool y))=if zH P t 7=true then zCd op (decide (x=y)) else none:=rfl
theorem zLC {op:BinOp} {t u:TypeId} {c:Bool} {x:HV}:zBE P op t c (.ic u x) (.v .nilIface)=if zH P t 9=true then zCd op false else none:=rfl
theorem zIu {op:BinOp} {t:TypeId} {c:Bool}:zBE P op t c (.v .nilIface) (.v .nilIface)=if zH P t 9=true∧c=true then zCd op true else none:=rfl
theorem z2W {i:IntKind} {x y:Int}:zB0 .add i x y=some (.int i (i.wrap (x+y))):=rfl
theorem z2L {i:IntKind} {x y:Int}:zB0 .sub i x y=some (.int i (i.wrap (x-y))):=rfl
theorem z2Q {i:IntKind} {x y:Int}:zB0 .mul i x y=some (.int i (i.wrap (x*y))):=rfl
theorem z2O {i:IntKind} {x y:Int}:zB0 .quo i x y=if y=0 then none else some (.int i (i.wrap (x.tdiv y))):=rfl
theorem z2N {i:IntKind} {x y:Int}:zB0 .rem i x y=if y=0 then none else some (.int i (x.tmod y)):=rfl
theorem z2V {i:IntKind} {x y:Int}:zB0 .eql i x y=some (.bool (decide (x=y))):=rfl
theorem z2P {i:IntKind} {x y:Int}:zB0 .neq i x y=some (.bool (!decide (x=y))):=rfl
theorem z2R {i:IntKind} {x y:Int}:zB0 .lss i x y=some (.bool (decide (x<y))):=rfl
theorem z2S {i:IntKind} {x y:Int}:zB0 .leq i x y=some (.bool (decide (x≤y))):=rfl
theorem z2T {i:IntKind} {x y:Int}:zB0 .gtr i x y=some (.bool (decide (y<x))):=rfl
theorem z2M {i:IntKind} {x y:Int}:zB0 .shr i x y=if y<0 then none else some (.int i (x.fdiv (2 ^ min y.toNat i.bits))):=rfl
theorem z2U {i:IntKind} {x y:Int}:zB0 .geq i x y=some (.bool (decide (y≤x))):=rfl
theorem z3n {b:Bool}:zCd .eql b=some (.bool b):=rfl
theorem z3m {b:Bool}:zCd .neq b=some (.bool (!b)):=rfl
theorem zND {t:TypeId} {c:Bool} {a b:List UInt8}:zBE P .eql t c (.v (str a)) (.v (str b))=some (.bool (decide (a=b))):=rfl
theorem zNC {t:TypeId} {c:Bool} {a b:List UInt8}:zBE P .neq t c (.v (str a)) (.v (str b))=some (.bool (!decide (a=b))):=rfl
theorem zXL {t:TypeId} {c:Bool} {a b:List UInt8}:exR k (zE (zBE P .add t c (.v (str a)) (.v (str b))) fun v=>rv H True (.v v)) all d l r T=(a.length+b.length≤9223372036854775807∧k (.ops all l::r) (updO T d (.v (str (a++b)))) H):=by
 have e1:(⟨a.toArray⟩:ByteArray).size=a.length:=by simp[ByteArray.size]
 have e2:(⟨b.toArray⟩:ByteArray).size=b.length:=by simp[ByteArray.size]
 have e3:(⟨a.toArray⟩:ByteArray)++(⟨b.toArray⟩:ByteArray)=⟨(a++b).toArray⟩:=by
  apply ByteArray.ext
  apply Array.ext'
  simp[ByteArray.data_append]
 have e4:zBE P .add t c (.v (str a)) (.v (str b))=if a.length+b.length≤9223372036854775807 then some (str (a++b)) else none:=by
  show (if (⟨a.toArray⟩:ByteArray).size+(⟨b.toArray⟩:ByteArray).size≤9223372036854775807 then some (Value.string ((⟨a.toArray⟩:ByteArray)++(⟨b.toArray⟩:ByteArray))) else none)=_
  rw[e1,e2,e3];rfl
 rw[e4]
 by_cases h:a.length+b.length≤9223372036854775807
 ·simp only[h,if_true,zDJ,true_and]
  show (True∧_)=_
  simp
 ·simp only[h,if_false,zEy,false_and]
  rfl
theorem zXe {res:List Nat} {L:Nat} {Q:HV→Heap→Prop}:endQ res L Q .ret T H=endP L Q (zAl L (retV res T) H):=rfl
theorem zMl {res:List Nat} {L:Nat} {Q:HV→Heap→Prop}:endQ res L Q .normal T H=endP L Q (zAl L (retV res T) H):=rfl
theorem zUI {Q:HV→Heap→Prop} {x:HV} {H:Heap}:endP 0 Q (x,H)=Q x []:=by simp[endP,nmH]
theorem zVn {i:Nat}:retV [i] T=T i:=rfl
theorem zVo:retV [] T=.tu []:=rfl
theorem zRm {i j:Nat} {l:List Nat}:retV (i::j::l) T=.tu ((i::j::l).map T):=rfl
theorem zO {fid:Nat} {args args' : List HV} {R:HV} {r:List Item} (n:Nat) (spec:HFn P fid args' R) (hargs:args.map (fz n H)=args') (hnz:nz R=true) (h:k (.ops all l::r) (updO T d (zAH R H).1) (zAH R H).2):zFY k P fid H args all d l r T:=by
 subst hargs
 refine ⟨_,HCalls.lend n spec (fun r hr=>by rw[hr];exact hnz),fun x H' hq _=>?_⟩
 obtain ⟨rfl,rfl⟩:=hq
 exact h
theorem z1V {i:IntKind} {z:Int}:cHV (.int i z)=.v (.int i z):=rfl
theorem zXs {b:Bool}:cHV (.bool b)=.v (.bool b):=rfl
theorem zQb {a:List UInt8}:cHV (.string ⟨List.toArray a⟩)=.v (str a):=rfl
theorem zKx:cHV (.slice none 0 0)=.v (.slice none 0 0):=rfl
theorem zKy:cHV .nilIface=.v .nilIface:=rfl
theorem zMx:cHV .nilFunc=.v .nilFunc:=rfl
theorem z1W {cs:List Value}:cHV (.agg (List.toArray cs))=.ag (cs.map .v):=rfl
end
attribute [congr] zIp zMa zK5 zKb zIm zT1 zPn zUH zQT zQQ zMd zQP zKe
attribute [go_sem high] z1h z1L z1M zXb zXc zX4 zX5 zUE zUF zUB zQO z0z zTZ z1A zT0 zXK zMh zKi
attribute [go_sem] zJX zIO zPD zIN zJh zGz zVz zRz zSW zY5 zQp zS6 zS7 zS5 zI6 zI7 zZX zLB zNB zLA
attribute [go_sem] zQL zKf zMc zTK zRb zR9 zX1 zMb zTs zK6 zVh zVg zYt zYs zLw zJn zPI zPK zRy zRx zPJ zVx zRt zVy zVw zPT zUY z1O z1P z1N zXd z19 z1a zW2 Int.toNat_natCast Bool.not_eq_true' Bool.not_eq_false'
 zUC zXM zUA zXa zQU zQq zQr z1g zZb zWk zSt z13 z14 z4G
 zVv zVu zRs
 zUI zVn zVo zRm zAl zEc List.forall_mem_cons decide_true decide_false decide_eq_true_eq decide_eq_false_iff_not
 z1V zXs zQb zKx zKy zMx z1W
 zDJ zEy zTA zTB rbin zFy zB6 zJl zH5 rbox zGA zAu isC zTV zUD zMe zR8 zLq zR7 zPC zRa zIM zVj zYp zRc zPA zOy zGx zPB zGw zOz zJf zVi zOx zLo zVa zVb zLu zRv zRu zWC zWB zVe zVc zVf zVd zSY zSX zRk zIQ zIS zIR zIT zPE zRj z1Y z3x zVt zZC zZD zVl zVm zYu zYv zLt zJj zRg zRh zRf zRd zRe zR4 zGy zLx zPL zLd zOi zOj zQc zNE zLC zIu z2W z2L z2Q z2O z2N z2V z2P z2R z2S z2T z2U z2M z3n z3m zND zNC zXL
 zNJ zLK zHO zAw Option.bind_some Option.bind_none Nat.zero_add Nat.add_zero false_implies false_and and_false not_false_eq_true not_true_eq_false Option.isSome_some zIb zGF tvs tv nmR nmL nm nmH nz nzL nzR
 true_and and_true if_true if_false true_implies forall_const Option.map_some Option.map_none List.map_cons List.map_nil List.cons_append List.nil_append List.length_cons List.length_nil
 List.getElem?_cons_zero List.getElem?_cons_succ List.set_cons_zero List.set_cons_succ List.take_succ_cons List.drop_succ_cons List.take_zero List.drop_zero List.take_nil List.drop_nil List.headD_cons zQ Bool.not_true Bool.not_false Bool.or_true Bool.or_false Bool.true_or Bool.false_or
 zAH zDN mkV zMI okTI TI.agg
attribute [go_sem] fzo fzoL fzoR z2
attribute [go_sem ↓] zG4 zT8 zM2 zQI z1E z1D zMN zKE zT3 zM3 zT2 zPu zT5 zIf zXN z1B zT7 zPs zT6 zT4 zPq zHG zPt zHF zPr zKX zKZ zQX zQY zQ0 zMo zMp zQZ zKk z3i z0u zTQ yAl z3h z0q zXG z3e zTN z0w zXH z0t z0s z3f z0r zXE zXF z0v zX0 zXU zQJ zXT zTr z1G zTq zHL zXW zTl zK3 z1H z3j zXZ zTn zM8 zQH zIh zK4 zHK zXY zTp zXX zXV zIi zQG zQF zQE zQD zIk zTo zIj zTm zM9 z1F zQK zM1 zTP zTO zUh z18 z17 z4S zPj zWy zWx z0l zXe zMl
end Go.Proofs.YtoknohandclcbaaGreat
