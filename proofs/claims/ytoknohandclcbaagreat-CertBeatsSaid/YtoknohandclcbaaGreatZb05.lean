/- Parts of the proof: HiZ, HiS. -/
import Derived.Test.YtoknohandclcbaaGreatZb04
set_option linter.unusedSectionVars false
set_option linter.unusedVariables false
set_option linter.unusedSimpArgs false
namespace Go.Proofs.YtoknohandclcbaaGreat
open Go.RowKit
section
variable {P:Program} {H:Heap}
theorem zRF {f:FuncId} {args args' : List HV} {R:HV} {n:Nat} (h:HFn P f args' R) (hL:zEc n H args args' R) (Z:Nat→Prop) (G:List (Option OG)) (FP:Nat→List Nat) (w:World) (vals:List Value) (hi:HInv Z G FP H w) (ha:RL Z G w args vals []) :
  Calls P f vals.toArray w (fun e w'=>∃v Z',e=.returned v∧HInv Z' G FP H w'∧RV Z' G w' (fzo R) v []∧Evo Z FP w Z' FP w'):=by
 rcases hL with ⟨rfl,hnz⟩ | ⟨rfl,hnm⟩
 ·have hzlt:∀b,Zall Z FP b→b<w.heap.size:=by
   rintro b (hb | ⟨id,hb⟩)
   ·exact hi.zlt b hb
   ·exact hi.flt id b hb
  have ha' : RL (Zall Z FP) [] w (args.map (fz n H)) vals []:=zFO (fr:=[]) (fun h y g hg hr=>zJC hi n h y g (fun b hb=>by have:=hg b hb;simp at this) hr) _ _ _ (by simp) ha
  refine Calls.mono (h.2 _ [] _ w vals (HInv.empty hzlt (hi.glob.keep (fun b hb=>.inl hb) (fun _ _=>rfl))) ha') ?_
  rintro e w' ⟨v,r,H',Z',G',FP',fr,rfl,rfl,hlen,hi',hr,hnd,hfr1,hfr2,hG,hE⟩
  have hk:∀b,b<w.heap.size→w'.heap[b]?=w.heap[b]?:=fun b hb=>hE.keep b hb (by simp)
  have hr':=zGW (Z':=Z) r _ G v fr hnz hr
  have hnew:∀b∈fr,w.heap.size≤b:=fun b hb=>by
   rcases hfr2 b hb with h | ⟨id,h⟩
   ·exact h
   ·simp at h
  refine ⟨v,fun b=>Z b∨b∈fr,rfl,?_,?_,⟨hE.os,hE.tape,hE.output,hE.size,fun b hb _=>hk b hb,fun _ h=>.inl h,fun b hb=>hb.imp id fun h=>.inl (hnew b h),fun id b hb=>.inr ⟨id,hb⟩⟩⟩
  ·refine (hi.keep hE.size (fun b hb=>hk b (hzlt b hb))).zmore (fun b hb=>.inl hb) (fun b hb=>?_) (fun id b hb hz=>?_)
   ·rcases hb with hb | hb
    ·exact Nat.lt_of_lt_of_le (hi.zlt b hb) hE.size
    ·exact (hfr1 b hb).2.1
   ·rcases hz with hz | hz
    ·exact hi.zfp id b hb hz
    ·have:=hi.flt id b hb;have:=hnew b hz;omega
  ·exact RV.nil_keep (fun _ _=>rfl) (fun _ h=>h) (zBI G) (zBW (Z':=fun b=>Z b∨b∈fr) r G v fr ⟨fun b hb=>.inl hb,fun b hb=>.inr hb⟩ hr')
 ·have ha' : RL Z [] w args vals []:=by
   have:=zAs args 0 G vals [] hnm ha
   simpa using this
  refine Calls.mono (h.2 Z [] _ w vals (HInv.empty hi.zlt hi.glob) ha') ?_
  rintro e w' ⟨v,r,H',Z',G',FP',fr,rfl,rfl,hlen,hi',hr,hnd,hfr1,hfr2,hG,hE⟩
  have hk:∀b,b<w.heap.size→w'.heap[b]?=w.heap[b]?:=fun b hb=>hE.keep b hb (by simp)
  have hnew:∀b∈fr,w.heap.size≤b:=fun b hb=>by
   rcases hfr2 b hb with h | ⟨id,h⟩
   ·exact h
   ·simp at h
  have hznew:∀b,Z' b→Z b∨w.heap.size≤b:=fun b hb=>by
   rcases hE.znew b hb with h | h | ⟨id,h⟩
   ·exact .inl h
   ·exact .inr h
   ·simp at h
  refine ⟨v,fun b=>Z' b∨b∈fr,rfl,?_,?_,⟨hE.os,hE.tape,hE.output,hE.size,fun b hb _=>hk b hb,fun b h=>.inl (hE.zle b h),fun b hb=>?_,fun id b hb=>.inr ⟨id,hb⟩⟩⟩
  ·refine (hi.keep hE.size (fun b hb=>hk b (by
    rcases hb with hb | ⟨id,hb⟩
    ·exact hi.zlt b hb
    ·exact hi.flt id b hb))).zmore (fun b hb=>.inl (hE.zle b hb)) (fun b hb=>?_) (fun id b hb hz=>?_)
   ·rcases hb with hb | hb
    ·exact hi'.zlt b hb
    ·exact (hfr1 b hb).2.1
   ·have hlt:=hi.flt id b hb
    rcases hz with hz | hz
    ·rcases hznew b hz with h | h
     ·exact hi.zfp id b hb h
     ·omega
    ·have:=hnew b hz;omega
  ·exact RV.nil_keep (fun _ _=>rfl) (fun _ h=>h) (zBI G) (zBW (Z':=fun b=>Z' b∨b∈fr) r G' v fr ⟨fun b hb=>.inl hb,fun b hb=>.inr hb⟩ hr)
  ·rcases hb with hb | hb
   ·rcases hznew b hb with h | h
    ·exact .inl h
    ·exact .inr (.inl h)
   ·exact .inr (.inl (hnew b hb))
theorem HInv.shut {Z:Nat→Prop} {G:List (Option OG)} {FP:Nat→List Nat} {w:World} {ob:HObj} {v:Value} (hi:HInv Z G FP (H++[some ob]) w) (hnm:nmH H.length (H++[some ob])=true) (hv:RV Z G w (.hd H.length 0 ob.rows.length) v []) :
  ∃Z' FP',HInv Z' (G.take H.length) FP' H w∧RV Z' (G.take H.length) w (.sl (fzoR ob.rows)) v []∧Evo Z FP w Z' FP' w:=by
 have ho:(H++[some ob])[H.length]?=some (some ob):=by simp
 obtain ⟨og,hgo,hOB,hview⟩:=zEW hi ho (by omega) hv
 have hi2:=hi.freeze H.length
 have hset:(H++[some ob]).set H.length none=H++[none]:=by simp
 rw[hset] at hi2
 have hnm' : nmH H.length (H++[none])=true:=by
  simpa [nmH] using hnm
 have hi3:=hi2.trunc H.length hnm'
 have e1:(H++[none]).take H.length=H:=by simp
 have e2:(G.set H.length none).take H.length=G.take H.length:=by
  rw[List.take_set]
  exact List.set_eq_of_length_le (by rw[List.length_take];omega)
 rw[e1,e2] at hi3
 refine ⟨_,_,hi3,?_,?_⟩
 ·unfold View at hview
  simp only[RV]
  split at hview
  ·rename_i hbn
   obtain ⟨hview,hv1,hv2⟩:=hview
   have hrr:ob.rows=[]:=List.eq_nil_of_length_eq_zero hv2
   exact ⟨trivial,none,0,by rw[hview,hrr];rfl,by rw[hrr];simp[fzoR],by simp[maxLen],.inl (by rw[hrr];rfl)⟩
  ·rename_i b hb
   obtain ⟨ad,hy,hA⟩:=hview
   obtain ⟨b',cells,f,e1,e2,e3,e4,e5,e6,e7⟩:=hOB.cells_ hb
   rw[hb] at e1;cases e1
   refine ⟨trivial,some ad,og.cap-0,by rw[zA3];exact hy,by rw[zA3];omega,by omega,?_⟩
   by_cases h0:ob.rows.length=0
   ·exact .inl (List.eq_nil_of_length_eq_zero (by rw[zA3];exact h0))
   ·refine .inr ⟨b,0,by rw[hA (.inr rfl)];simp,.inr (by rw[e2];simp),?_,?_⟩
    ·refine zCE (sz:=ob.sz) fun r hr=>?_
     rw[zCB] at hr
     obtain ⟨r',hr',rfl⟩:=List.mem_map.1 hr
     rw[zA4];exact hOB.len r' hr'
    ·exact zCT ob.rows G b 0 f ⟨fun b hb=>.inl hb,fun b hb=>.inr (by rw[e2];simp[hb])⟩ e7
 ·refine ⟨rfl,rfl,rfl,Nat.le_refl _,fun _ _ _=>rfl,fun _ h=>.inl h,fun b hb=>?_,fun j b hb=>?_⟩
  ·rcases hb with hb | hb
   ·exact .inl hb
   ·exact .inr (.inr ⟨_,hb⟩)
  ·by_cases hj:j<H.length
   ·simp only[if_pos hj] at hb
    split at hb
    ·simp at hb
    ·exact .inr ⟨j,hb⟩
   ·simp only[if_neg hj] at hb;simp at hb
def zJa (P:Program) (T:Nat→HV) (H:Heap) (op:Op) (x:HV):Prop :=
 (∃(p:Prop) (H' : Heap),p∧ropQ P T H op=some (p,x,H'))∨
 (∃f args tys fid caps n R args',op=.call { callee:=.value f,args:=args,argTypes:=tys }∧hev T f=.fn fid caps∧HFn P (fnF fid) args' R∧zEc n H (fnA fid .any (args.toList.map (hev T)) caps) args' R∧x=fzo R)∨
 (∃rv name args tys t y fid n R args',op=.call { callee:=.invoke rv name,args:=args,argTypes:=tys }∧hev T rv=.ic t y∧zAe P t name=some fid∧HFn P fid args' R∧zEc n H (y::args.toList.map (hev T)) args' R∧x=fzo R)∨
 (∃t len parts p H',op=.buildSlice t len parts∧p∧zAE P T H t len parts.toList=some (p,x,H'))
def zDw (P:Program) (all:List Oper) (T:Nat→HV) (H:Heap) (o:Oper) (x:HV):Prop :=
 match o.guard with
 | none=>zJa P T H o.op x
 | some (j,b)=>∃t,zA8 all j=some t∧((∃c,T t=.v (.bool c)∧(c=b→zJa P T H o.op x)∧(c=(!b)→x=.v undef))∨∃ts,T t=.v (.tuple ts)∧x=.v undef)
def zNj (P:Program) (H:Heap) (all:List Oper):List Oper→(Nat→HV)→List HV→Prop
 | [],_,xs=>xs=[]
 | o::l,T,xs=>∃x xs',xs=x::xs'∧zDw P all T H o x∧zNj P H all l (updO T o.dst x) xs'
def runM (S:Nat→Bool):Nat→List Oper→List HV→(Nat→HV)→(Nat→HV)
 | i,o::l,x::xs,T=>runM S (i+1) l xs (if S i=true then updO T o.dst x else T)
 | _,_,_,T=>T
section ex
variable {k:List Item→KS} {all l:List Oper} {d:Option Nat} {r:List Item} {T:Nat→HV} {op:Op}
theorem zKt (h:exOq k P all d op l r T H):∃x,zJa P T H op x∧k (.quiet all l::r) (updO T d x) H:=by
 unfold exOq at h
 split at h
 ·rename_i f args tys
  unfold zDl at h
  split at h
  ·rename_i fid caps hf
   obtain ⟨n,x,args',h1,h2,h3⟩:=h
   exact ⟨_,.inr (.inl ⟨f,args,tys,fid,caps,n,x,args',rfl,hf,h1,h2,rfl⟩),h3⟩
  ·exact h.elim
 ·rename_i rv name args tys
  unfold zHz at h
  split at h
  ·rename_i t y hf
   unfold zFF at h
   split at h
   ·rename_i fid hm
    obtain ⟨n,x,args',h1,h2,h3⟩:=h
    exact ⟨_,.inr (.inr (.inl ⟨rv,name,args,tys,t,y,fid,n,x,args',rfl,hf,hm,h1,h2,rfl⟩)),h3⟩
   ·exact h.elim
  ·exact h.elim
 ·rename_i t len parts
  unfold exRq at h
  cases hr:zAE P T H t len parts.toList with
  | none=>rw[hr] at h;exact h.elim
  | some q =>
   obtain ⟨p,x,H'⟩:=q
   rw[hr] at h
   exact ⟨x,.inr (.inr (.inr ⟨t,len,parts,p,H',rfl,h.1,hr⟩)),h.2⟩
 ·unfold exRq at h
  cases hr:ropQ P T H op with
  | none=>rw[hr] at h;exact h.elim
  | some q =>
   obtain ⟨p,x,H'⟩:=q
   rw[hr] at h
   exact ⟨x,.inl ⟨p,H',h.1,hr⟩,h.2⟩
theorem zLH {o:Oper} (h:exGq k P all o l r T H):∃x,zDw P all T H o x∧k (.quiet all l::r) (updO T o.dst x) H:=by
 unfold exGq at h
 unfold zDw
 split at h
 ·rename_i hg
  try rw[hg]
  exact zKt h
 ·rename_i j b hg
  try rw[hg]
  try simp only
  unfold exBq at h
  split at h
  ·rename_i t ht
   unfold zDo at h
   split at h
   ·rename_i c hv
    by_cases hcb:c=b
    ·obtain ⟨x,h1,h2⟩:=zKt (h.1 hcb)
     exact ⟨x,⟨t,ht,.inl ⟨c,hv,fun _=>h1,fun hc=>by subst hcb;cases c <;> simp at hc⟩⟩,h2⟩
    ·have hc:c=(!b):=by cases c <;> cases b <;> simp_all
     exact ⟨.v undef,⟨t,ht,.inl ⟨c,hv,fun hc'=>absurd hc' hcb,fun _=>rfl⟩⟩,h.2 hc⟩
   ·rename_i ts hv
    exact ⟨.v undef,⟨t,ht,.inr ⟨ts,hv,rfl⟩⟩,h⟩
   ·exact h.elim
  ·exact h.elim
theorem zMt {N L:Nat} {Q:Exit→KS}:∀(l:List Oper) (i n:Nat) (T:Nat→HV),ex P N L Q n (.quiet all l::r) T H→∃xs n',zNj P H all l T xs∧ex P N L Q n' r (runM (fun _=>true) i l xs T) H
 | [],i,0,T,h=>h.elim
 | [],i,n+1,T,h=>⟨[],n,rfl,h⟩
 | o::l,i,0,T,h=>h.elim
 | o::l,i,n+1,T,h=>by
  obtain ⟨x,h1,h2⟩:=zLH (k:=ex P N L Q n) h
  obtain ⟨xs,n',h3,h4⟩:=zMt l (i+1) n _ h2
  exact ⟨x::xs,n',⟨x,xs,rfl,h1,h3⟩,h4⟩
end ex
theorem zEV {T T' : Nat→HV} {x:Operand} (h:∀t,x=.tmp t→T t=T' t):hev T x=hev T' x:=by
 cases x <;> simp only[hev]
 exact h _ rfl
theorem zAN {T T' : Nat→HV} {l:List Operand} (h:∀x∈l,hev T x=hev T' x):l.map (hev T)=l.map (hev T'):=List.map_congr_left h
theorem zHf {T T' : Nat→HV} {op:Op} (h:∀x∈op.operands.toList,hev T x=hev T' x):ropQ P T H op=ropQ P T' H op:=by
 have h1:∀x,x∈op.operands→hev T x=hev T' x:=fun x hx=>h x (by simpa using hx)
 clear h
 unfold ropQ
 split <;> simp only[Op.operands,Call.operands] at h1
 case h_4 t parts =>
  have e:parts.toList.map (fun p=>(p.1,hev T p.2))=parts.toList.map (fun p=>(p.1,hev T' p.2)):=by
   apply List.map_congr_left
   intro p hp
   rw[h1 p.2 (by simp;exact ⟨p.1,by simpa using hp⟩)]
  simp only[e]
 case h_11 f first cs =>
  split
  ·have e:cs.toList.map (hev T)=cs.toList.map (hev T'):=zAN fun x hx=>h1 x (by simp;simpa using hx)
   simp only[e]
  ·rename_i y
   have e:cs.toList.map (hev T)=cs.toList.map (hev T'):=zAN fun x hx=>h1 x (by simp;exact .inr (by simpa using hx))
   simp only[e,h1 y (by simp)]
  ·rfl
 case h_12 t x lo hi =>
  have e1:lo.map (hev T)=lo.map (hev T'):=by cases lo with
   | none=>rfl
   | some y=>simp only[Option.map_some,h1 y (by simp)]
  have e2:hi.map (hev T)=hi.map (hev T'):=by cases hi with
   | none=>rfl
   | some y=>simp only[Option.map_some,h1 y (by simp)]
  simp only[e1,e2,h1 x (by simp)]
 all_goals first
  | rfl
  | (rename_i x;simp only[h1 x (by simp)];done)
  | (rename_i x _;simp only[h1 x (by simp)];done)
  | (rename_i x y _;simp only[h1 x (by simp),h1 y (by simp)];done)
  | (rename_i x y;simp only[h1 x (by simp),h1 y (by simp)];done)
  | (rename_i x y z;simp only[h1 x (by simp),h1 y (by simp),h1 z (by simp)];done)
  | (rename_i x y _ _;simp only[h1 x (by simp),h1 y (by simp)];done)
theorem zHG {T T' : Nat→HV} {op:Op} {x:HV} (h:∀y∈op.operands.toList,hev T y=hev T' y) (hc:zJa P T H op x):zJa P T' H op x:=by
 rcases hc with ⟨p,H',hp,hr⟩ | ⟨f,args,tys,fid,caps,n,R,args',rfl,hf,h1,h2,h3⟩ | ⟨rv,name,args,tys,t,y,fid,n,R,args',rfl,hf,hm,h1,h2,h3⟩ | ⟨t,len,parts,p,H',rfl,hp,hr⟩
 ·exact .inl ⟨p,H',hp,by rw[←zHf h];exact hr⟩
 ·have e1:=h f (by simp[Op.operands,Call.operands])
  have e2:args.toList.map (hev T)=args.toList.map (hev T'):=zAN fun x hx=>h x (by simp[Op.operands,Call.operands];exact .inr (by simpa using hx))
  exact .inr (.inl ⟨f,args,tys,fid,caps,n,R,args',rfl,e1▸hf,h1,e2▸h2,h3⟩)
 ·have e1:=h rv (by simp[Op.operands,Call.operands])
  have e2:args.toList.map (hev T)=args.toList.map (hev T'):=zAN fun x hx=>h x (by simp[Op.operands,Call.operands];exact .inr (by simpa using hx))
  exact .inr (.inr (.inl ⟨rv,name,args,tys,t,y,fid,n,R,args',rfl,e1▸hf,hm,h1,e2▸h2,h3⟩))
 ·have hp1:∀p∈parts.toList,hev T p.2=hev T' p.2:=fun p hp=>h p.2 (by simp[Op.operands];exact ⟨p.1,by simpa using hp⟩)
  have e1:∀n (l:List (Nat×Operand)),(∀p∈l,hev T p.2=hev T' p.2)→zAz T n l=zAz T' n l:=by
   intro n l
   induction l with
   | nil=>intro _;rfl
   | cons p l ih =>
    intro hp
    simp only[zAz]
    rw[hp p (by simp),ih (fun q hq=>hp q (by simp[hq]))]
  have e2:parts.toList.map (fun p=>fzoL (zY (hev T p.2)))=parts.toList.map (fun p=>fzoL (zY (hev T' p.2))):=by
   apply List.map_congr_left
   intro p hq
   rw[hp1 p hq]
  refine .inr (.inr (.inr ⟨t,len,parts,p,H',rfl,hp,?_⟩))
  rw[←hr]
  simp only[zAE,e2,e1 _ _ hp1]
def zBY (all:List Oper) (o:Oper):List Nat :=
 (o.op.operands.toList.filterMap fun x=>match x with | .tmp t=>some t | _=>none)++(match o.guard with | some (j,_)=>(zA8 all j).toList | none=>[])
theorem zEG {all:List Oper} {o:Oper} {T T' : Nat→HV} (h:∀t∈zBY all o,T t=T' t):∀y∈o.op.operands.toList,hev T y=hev T' y:=fun y hy =>
 zEV fun t ht=>h t (List.mem_append_left _ (List.mem_filterMap.2 ⟨y,hy,by rw[ht]⟩))
theorem zBU {all:List Oper} {o:Oper} {T T' : Nat→HV} {x:HV} (h:∀t∈zBY all o,T t=T' t) (hc:zDw P all T H o x):zDw P all T' H o x:=by
 have hv:=zEG h
 unfold zDw at hc⊢
 split at hc
 ·exact zHG hv hc
 ·rename_i j b hg
  obtain ⟨t,ht,hc⟩:=hc
  have e:T t=T' t:=h t (by unfold zBY;rw[hg];simp[ht])
  refine ⟨t,ht,?_⟩
  rw[←e]
  rcases hc with ⟨c,h1,h2,h3⟩ | hc
  ·exact .inl ⟨c,h1,fun hcb=>zHG hv (h2 hcb),h3⟩
  ·exact .inr hc
section
variable {N B:Nat} {Z:Nat→Prop} {G:List (Option OG)} {FP:Nat→List Nat} {ds:List Nat} {T:Nat→HV} {a:Act} {w:World} {ro:Option Nat} {mm:Nat}
theorem zGm {o:Oper} {fid:Nat} {args args' : List HV} {vals:List Value} {R x:HV} {n:Nat} {K:Act→World→Prop} {Q' : Exit→Act→World→Prop} (hnd:∀c,o.op≠.defer c) (hd:∀i,o.dst=some i→i<N) (hs:St N B Z G FP ds T H a w)
  (hrun:(execOp a.eval o).run P w=.ok (.enter fid vals.toArray) w) (hv:RL Z G w args vals []) (spec:HFn P fid args' R) (hL:zEc n H args args' R) (hx:x=fzo R)
  (hK:∀Z' G' FP' a' w',St N B Z' G' FP' ds (updO T o.dst x) H a' w'→GLe G G'→Evo Z FP w Z' FP' w'→K a' w'):o.wpIn (Wd ro) mm P a w K Q':=by
 refine ⟨fun _ _=>trivial,?_⟩
 rw[zA2 _ _ _ hnd,hrun,Oper.uponIn_enter]
 refine ⟨fun h=>by cases ro <;> simp[Wd,Fence.wide] at h,zCY (Calls.mono (zRF spec hL Z G FP w vals hs.inv hv) ?_)⟩
 rintro e w' ⟨v,Z',rfl,hi',hr,hE⟩
 exact hK _ _ _ _ _ ((hs.evo hi' (GLe.refl _) hE).put (hx▸hr) o.dst hd) (GLe.refl _) hE
theorem zYi {G G' : List (Option OG)} (h:GLe G G'):GLe G (G'.take G.length):=by
 refine ⟨by rw[List.length_take];have:=h.len;omega,fun id hid=>?_⟩
 rw[zAV hid]
 exact h.at_ id hid
theorem zGu {o:Oper} {x:HV} {K:Act→World→Prop} {Q' : Exit→Act→World→Prop} (hok:zH N o=true) (hn:zAD o=true) (hc:zJa P T H o.op x) (hs:St N B Z G FP ds T H a w)
  (hK:∀Z' G' FP' a' w',St N B Z' G' FP' ds (updO T o.dst x) H a' w'→GLe G G'→Evo Z FP w Z' FP' w'→K a' w'):o.wpIn (Wd ro) mm P a w K Q':=by
 have hnd:=zBC hn
 have hdst:∀i,o.dst=some i→i<N:=fun i hi=>by
  have:=hok;simp only[zH,zBR,hi,Bool.and_eq_true,decide_eq_true_eq] at this;exact this.1
 rcases hc with ⟨p,H',hp,hr⟩ | ⟨f,args,tys,fid,caps,n,R,args',hop,hf,h1,h2,h3⟩ | ⟨rv,name,args,tys,t,y,fid,n,R,args',hop,hf,hm,h1,h2,h3⟩ | ⟨t,len,parts,p,H',hop,hp,hr⟩
 ·obtain ⟨v,y,e1,rfl,e3⟩:=z5K (P:=P) (K:=fun y _=>y=x) hok (by rw[hr];exact ⟨hp,rfl⟩) B Z G FP ds a w hs
  refine ⟨fun _ _=>trivial,?_⟩
  rw[zA2 _ _ _ hnd,e1]
  exact hK _ _ _ _ _ (hs.put e3 o.dst hdst) (GLe.refl _) (Evo.refl _ _ _)
 ·have hfv:=hs.hev f (zE hok (by simp[hop,Op.operands,Call.operands]))
  rw[hf] at hfv
  simp only[RV] at hfv
  obtain ⟨cs,hfe,hcl⟩:=hfv
  have hargs:args.toList.all (zBK N)=true:=by
   rw[List.all_eq_true]
   intro x hx
   exact zE hok (by simp[hop,Op.operands,Call.operands];exact .inr (by simpa using hx))
  have hal:=zBd hs args.toList hargs
  exact zGm hnd hdst hs (zMQ hop hfe h1.1) (zZD fid hal hcl) h1 h2 h3 hK
 ·have hfv:=hs.hev rv (zE hok (by simp[hop,Op.operands,Call.operands]))
  rw[hf] at hfv
  simp only[RV] at hfv
  obtain ⟨_,z,hfe,hcl⟩:=hfv
  have hargs:args.toList.all (zBK N)=true:=by
   rw[List.all_eq_true]
   intro x hx
   exact zE hok (by simp[hop,Op.operands,Call.operands];exact .inr (by simpa using hx))
  have hal:=zBd hs args.toList hargs
  have hvals:RL Z G w (y::args.toList.map (hev T)) (z::args.toList.map a.eval) []:=by
   simp only[RL]
   exact ⟨_,_,[],[],rfl,rfl,hcl,hal⟩
  refine zGm hnd hdst hs ?_ hvals h1 h2 h3 hK
  have e:#[z]++(#[Value.iface t z]++args.map a.eval).extract 1 (#[Value.iface t z]++args.map a.eval).size=(z::args.toList.map a.eval).toArray:=by
   apply Array.ext';simp[List.take_of_length_le]
  simp only[execOp,hop,resolve,hfe,Sem.run_bind,Sem.run_pure,Result.andThen_ok,invoke]
  have e0:(#[Value.iface t z]++args.map a.eval)[0]?=some (Value.iface t z):=by rw[Array.getElem?_append_left (by simp)];rfl
  rw[e0]
  simp only[callMethod,Sem.run_bind,run_program,Result.andThen_ok,zHd z hm,e]
  exact h1.1 _ _
 ·have hnmH:=hs.inv.nm
  have key:∃e,zO P t 3=some e∧p=(len=parts.toList.length∧zC6 0 parts.toList=true∧e.2.2.size≠0∧len*e.2.2.size≤16777216∧(zA e.2.2).isSome=true∧zAz T e.2.2.size parts.toList)∧x=.sl (parts.toList.map fun p=>fzoL (zY (hev T p.2))):=by
   unfold zAE zF at hr
   split at hr
   ·rename_i e he
    cases hr
    exact ⟨e,he,rfl,rfl⟩
   ·cases hr
  obtain ⟨e,he,rfl,rfl⟩:=key
  have hR:=zLl (P:=P) (T:=T) (H:=H) (K:=fun x0 H0=>x0=.hd H.length 0 (parts.toList.map fun p=>zY (hev T p.2)).length∧H0=H++[some ⟨e.2.1,e.2.2.size,parts.toList.map fun p=>zY (hev T p.2)⟩]) hok (by
   rw[hop]
   show onR (zAx P T H t len parts.toList) _
   unfold zAx zF
   rw[he]
   exact ⟨hp,by rw[List.length_map],rfl⟩)
  obtain ⟨r,v,w',x0,H0,Z',G',FP',hrun,hv,⟨rfl,rfl⟩,hx,hi,hG,hE⟩:=hR B Z G FP ds a w hs
  obtain ⟨Z2,FP2,hi2,hx2,hE2⟩:=HInv.shut (ob:=⟨e.2.1,e.2.2.size,parts.toList.map fun p=>zY (hev T p.2)⟩) hi (by
   have:nmH H.length (H++[some (⟨e.2.1,e.2.2.size,parts.toList.map fun p=>zY (hev T p.2)⟩:HObj)])=nmH H.length H:=by simp[nmH]
   rw[this];exact hnmH) hx
  have hlen:G.length=H.length:=hs.inv.len
  have hG2:GLe G (G'.take H.length):=by rw[←hlen];exact zYi hG
  have hx3:RV Z2 (G'.take H.length) w' (.sl (parts.toList.map fun p=>fzoL (zY (hev T p.2)))) v []:=by
   have e3:parts.toList.map (fun p=>fzoL (zY (hev T p.2)))=fzoR (parts.toList.map fun p=>zY (hev T p.2)):=by
    rw[zCB,List.map_map];rfl
   rw[e3];exact hx2
  refine ⟨fun _ _=>trivial,?_⟩
  rw[zA2 _ _ _ hnd,hrun]
  have hs':=(hs.evo hi2 hG2 (hE.trans hE2)).put hx3 o.dst hdst
  rcases hv with rfl | ⟨rfl,rfl⟩
  ·exact hK _ _ _ _ _ hs' hG2 (hE.trans hE2)
  ·exact hK _ _ _ _ _ hs' hG2 (hE.trans hE2)
theorem zE8 {all:List Oper} {j:Nat} {o:Oper} {x:HV} {K:Act→World→Prop} {Q' : Exit→Act→World→Prop} (hall:all.all (zBR N)=true) (hj:all[j]?=some o) (hok:zH N o=true) (hn:zAD o=true) (hc:zDw P all T H o x) (hs:St N B Z G FP ds T H a w)
  (hK:∀Z' G' FP' a' w',St N B Z' G' FP' ds (updO T o.dst x) H a' w'→GLe G G'→Evo Z FP w Z' FP' w'→K a' w'):wpOpIn (Wd ro) mm P all.toArray Q' j K a w:=by
 have hdst:∀i,o.dst=some i→i<N:=fun i hi=>by
  have:=hok;simp only[zH,zBR,hi,Bool.and_eq_true,decide_eq_true_eq] at this;exact this.1
 unfold wpOpIn
 rw[List.getElem?_toArray,hj]
 dsimp only
 unfold zDw at hc
 split at hc
 ·rename_i hg
  simp only[Region.wanted,hg,if_true]
  exact zGu hok hn hc hs hK
 ·rename_i k b hg
  obtain ⟨t,ht,hc⟩:=hc
  rcases hc with ⟨c,h1,h2,h3⟩ | ⟨ts,h1,rfl⟩
  ·have hy:yielded all.toArray a.tmps k=some c:=hs.yields hall (by rw[zAd ht];exact h1)
   have hw:Region.wanted o (yielded all.toArray a.tmps)=(c == b):=by
    simp only[Region.wanted,hg,hy]
    cases c <;> cases b <;> rfl
   rw[hw]
   by_cases hcb:c=b
   ·rw[if_pos (by simp[hcb])]
    exact zGu hok hn (h2 hcb) hs hK
   ·have hc:c=(!b):=by cases c <;> cases b <;> simp_all
    obtain rfl:=h3 hc
    rw[if_neg (by simp[hcb])]
    exact ⟨fun _ _=>trivial,hK _ _ _ _ _ (hs.drop o.dst hdst) (GLe.refl _) (Evo.refl _ _ _)⟩
  ·have hy:yielded all.toArray a.tmps k=none:=hs.yieldsNo hall (by rw[zAd ht];exact h1)
   have hw:Region.wanted o (yielded all.toArray a.tmps)=false:=by
    simp only[Region.wanted,hg,hy]
    cases b <;> rfl
   rw[hw,if_neg (by simp)]
   exact ⟨fun _ _=>trivial,hK _ _ _ _ _ (hs.drop o.dst hdst) (GLe.refl _) (Evo.refl _ _ _)⟩
end
theorem zBG {S S' : Nat→Bool} {t:Nat}:∀(l:List Oper) (xs:List HV) (i:Nat) (T T' : Nat→HV),T t=T' t→(∀j,zA8 l j=some t→S (i+j)=S' (i+j))→runM S i l xs T t=runM S' i l xs T' t
 | [],xs,i,T,T',h,_=>by cases xs <;> exact h
 | o::l,[],i,T,T',h,_=>h
 | o::l,x::xs,i,T,T',h,hS=>by
  simp only[runM]
  refine zBG l xs (i+1) _ _ ?_ fun j hj=>by
   have:=hS (j+1) (by simpa [zA8] using hj)
   rwa [show i+(j+1)=i+1+j by omega] at this
  by_cases hd:o.dst=some t
  ·have:=hS 0 (by simp[zA8,hd])
   rw[Nat.add_zero] at this
   rw[this]
   split
   ·simp[updO,hd,upd]
   ·exact h
  ·have e:∀T:Nat→HV,updO T o.dst x t=T t:=fun T=>by
    cases hdd:o.dst with
    | none=>rfl
    | some d =>
     have:t≠d:=fun e=>hd (by rw[hdd,e])
     simp[updO,upd,this]
   split <;> split <;> first | exact h | (rw[e];exact h) | (rw[e,e];exact h)
theorem zB2 {S:Nat→Bool} {t:Nat}:∀(l:List Oper) (xs:List HV) (i:Nat) (T:Nat→HV),(∀j,zA8 l j=some t→S (i+j)=false)→runM S i l xs T t=T t
 | [],xs,i,T,_=>by cases xs <;> rfl
 | o::l,[],i,T,_=>rfl
 | o::l,x::xs,i,T,hS=>by
  simp only[runM]
  rw[zB2 l xs (i+1) _ fun j hj=>by
   have:=hS (j+1) (by simpa [zA8] using hj)
   rwa [show i+(j+1)=i+1+j by omega] at this]
  by_cases hd:o.dst=some t
  ·have:=hS 0 (by simp[zA8,hd])
   rw[Nat.add_zero] at this
   simp[this]
  ·split
   ·cases hdd:o.dst with
    | none=>rfl
    | some d =>
     have:t≠d:=fun e=>hd (by rw[hdd,e])
     simp[updO,upd,this]
   ·rfl
theorem zBx {S S' : Nat→Bool}:∀(l:List Oper) (xs:List HV) (i j:Nat) (T:Nat→HV) (o:Oper) (x:HV),l[j]?=some o→xs[j]?=some x→S' (i+j)=true→S (i+j)=false→(∀k,k≠i+j→S' k=S k)→
  (∀k,j<k→S (i+k)=true→∀t,o.dst=some t→zA8 l k≠some t)→runM S' i l xs T=updO (runM S i l xs T) o.dst x
 | [],xs,i,j,T,o,x,h,_,_,_,_,_=>by simp at h
 | o0::l,[],i,j,T,o,x,_,h,_,_,_,_=>by simp at h
 | o0::l,x0::xs,i,0,T,o,x,h1,h2,h3,h4,h5,h6=>by
  simp only[List.getElem?_cons_zero,Option.some.injEq] at h1 h2
  subst h1 h2
  rw[Nat.add_zero] at h3 h4
  have hS:∀j',S' (i+1+j')=S (i+1+j'):=fun j'=>h5 _ (by omega)
  simp only[runM,h3,h4,if_true,Bool.false_eq_true,if_false]
  funext t
  by_cases hd:o0.dst=some t
  ·rw[zB2]
   ·simp[hd,updO,upd]
   ·intro j' hj'
    rw[hS]
    cases hc:S (i+1+j') with
    | false=>rfl
    | true =>
     refine absurd ?_ (h6 (j'+1) (by omega) (by rw[show i+(j'+1)=i+1+j' by omega];exact hc) t hd)
     simpa [zA8] using hj'
  ·have e:∀T:Nat→HV,updO T o0.dst x0 t=T t:=fun T=>by
    cases hdd:o0.dst with
    | none=>rfl
    | some d =>
     have:t≠d:=fun e=>hd (by rw[hdd,e])
     simp[updO,upd,this]
   rw[e]
   exact zBG l xs (i+1) _ _ (e T) fun j' _=>hS j'
 | o0::l,x0::xs,i,j+1,T,o,x,h1,h2,h3,h4,h5,h6=>by
  simp only[List.getElem?_cons_succ] at h1 h2
  have hi:S' i=S i:=h5 i (by omega)
  simp only[runM,hi]
  refine zBx l xs (i+1) j _ o x h1 h2 (by rw[show i+1+j=i+(j+1) by omega];exact h3) (by rw[show i+1+j=i+(j+1) by omega];exact h4) (fun k hk=>h5 k (by omega)) ?_
  intro k hk hS t ht
  have:=h6 (k+1) (by omega) (by rw[show i+(k+1)=i+1+k by omega];exact hS) t ht
  simpa [zA8] using this
theorem zFm {all:List Oper}:∀(l:List Oper) (xs:List HV) (i j:Nat) (T:Nat→HV) (o:Oper),zNj P H all l T xs→l[j]?=some o→∃x,xs[j]?=some x∧zDw P all (runM (fun k=>decide (k<i+j)) i l xs T) H o x
 | [],xs,i,j,T,o,_,h=>by simp at h
 | o0::l,xs,i,0,T,o,hc,h=>by
  obtain ⟨x,xs',rfl,h1,_⟩:=hc
  simp only[List.getElem?_cons_zero,Option.some.injEq] at h
  subst h
  refine ⟨x,rfl,zBU (fun t _=>?_) h1⟩
  rw[zB2]
  intro j' _
  simp
 | o0::l,xs,i,j+1,T,o,hc,h=>by
  obtain ⟨x,xs',rfl,_,h2⟩:=hc
  simp only[List.getElem?_cons_succ] at h
  obtain ⟨y,h3,h4⟩:=zFm l xs' (i+1) j _ o h2 h
  refine ⟨y,by simpa using h3,zBU (fun t _=>?_) h4⟩
  have e:(fun k=>decide (k<i+1+j))=fun k=>decide (k<i+(j+1)):=by funext k;congr 2;omega
  simp only[runM,e]
  rw[if_pos (by simp)]
end
def befs:List Oper→List Nat→List Nat
 | [],acc=>acc
 | o::l,acc=>befs l (acc++[o.after.toList.foldl (fun s e=>if Region.binds .any e=true then s ||| 2 ^ e.on ||| acc.getD e.on 0 else s) 0])
theorem zUx {acc:List Nat} {i:Nat}:∀(es:List Edge) (s:Nat),(es.foldl (fun s e=>if Region.binds .any e=true then s ||| 2 ^ e.on ||| acc.getD e.on 0 else s) s).testBit i=true→s.testBit i=true∨∃e∈es,Region.binds .any e=true∧(e.on=i∨(acc.getD e.on 0).testBit i=true)
 | [],s,h=>.inl h
 | e::es,s,h=>by
  simp only[List.foldl_cons] at h
  rcases zUx es _ h with h | ⟨e',h1,h2⟩
  ·split at h
   ·rename_i hb
    simp only[Nat.testBit_or,Bool.or_eq_true,Nat.testBit_two_pow,decide_eq_true_eq] at h
    rcases h with (h | h) | h
    ·exact .inl h
    ·exact .inr ⟨e,by simp,hb,.inl h⟩
    ·exact .inr ⟨e,by simp,hb,.inr h⟩
   ·exact .inl h
  ·exact .inr ⟨e',by simp[h1],h2⟩
theorem zO9:∀(l:List Oper) (acc:List Nat),∃m,befs l acc=acc++m∧m.length=l.length
 | [],acc=>⟨[],by simp[befs],rfl⟩
 | o::l,acc=>by
  obtain ⟨m,h1,h2⟩:=zO9 l (acc++[o.after.toList.foldl (fun s e=>if Region.binds .any e=true then s ||| 2 ^ e.on ||| acc.getD e.on 0 else s) 0])
  refine ⟨o.after.toList.foldl (fun s e=>if Region.binds .any e=true then s ||| 2 ^ e.on ||| acc.getD e.on 0 else s) 0::m,?_,by simp[h2]⟩
  rw[befs,h1,List.append_assoc,List.singleton_append]
theorem zGw {i:Nat}:∀(l:List Oper) (acc:List Nat) (j:Nat) (o:Oper),l[j]?=some o→((befs l acc).getD (acc.length+j) 0).testBit i=true→∃e∈o.after.toList,Region.binds .any e=true∧(e.on=i∨((befs l acc).getD e.on 0).testBit i=true)
 | [],acc,j,o,h,_=>by simp at h
 | o0::l,acc,0,o,h,hb=>by
  simp only[List.getElem?_cons_zero,Option.some.injEq] at h
  subst h
  simp only[befs] at hb⊢
  obtain ⟨m,h1,h2⟩:=zO9 l (acc++[o0.after.toList.foldl (fun s e=>if Region.binds .any e=true then s ||| 2 ^ e.on ||| acc.getD e.on 0 else s) 0])
  rw[h1] at hb⊢
  have e1:((acc++[o0.after.toList.foldl (fun s e=>if Region.binds .any e=true then s ||| 2 ^ e.on ||| acc.getD e.on 0 else s) 0])++m).getD (acc.length+0) 0=o0.after.toList.foldl (fun s e=>if Region.binds .any e=true then s ||| 2 ^ e.on ||| acc.getD e.on 0 else s) 0:=by
   simp[List.getD_eq_getElem?_getD]
  rw[e1] at hb
  rcases zUx _ _ hb with h | ⟨e,he,h3,h4⟩
  ·simp at h
  ·refine ⟨e,he,h3,h4.imp id fun h4=>?_⟩
   by_cases hlt:e.on<acc.length
   ·have:(acc++[o0.after.toList.foldl (fun s e=>if Region.binds .any e=true then s ||| 2 ^ e.on ||| acc.getD e.on 0 else s) 0]++m).getD e.on 0=acc.getD e.on 0:=by
     simp[List.getD_eq_getElem?_getD,List.getElem?_append,hlt]
    rw[this];exact h4
   ·rw[List.getD_eq_getElem?_getD,List.getElem?_eq_none (by omega)] at h4
    simp at h4
 | o0::l,acc,j+1,o,h,hb=>by
  simp only[List.getElem?_cons_succ] at h
  simp only[befs] at hb⊢
  refine zGw l _ j o h ?_
  rw[List.length_append,List.length_singleton,show acc.length+1+j=acc.length+(j+1) by omega]
  exact hb
def zBT (all:List Oper) (o o' : Oper):Bool :=
 (match o.dst with | some d=>(zBY all o').contains d || o'.dst == some d | none=>false) ||
 (match o'.dst with | some d'=>(zBY all o).contains d' | none=>false)
def zAa (bs:List Nat) (i j:Nat):Bool:=(bs.getD j 0).testBit i
def anyB (N m:Nat) (all:List Oper):Bool :=
 let bs:=befs all []
 (all.all fun o=>zH N o && zAD o) &&
 (all.zipIdx.all fun (o,j)=>(o.after.toList.all fun e=>!Region.binds .any e || decide (e.on<j)) &&
  (all.zipIdx.all fun (o',i)=>!decide (i<j) || (!(decide (m≤j) || zBT all o' o)) || zAa bs i j))
structure AnyOk (N m:Nat) (all:List Oper):Prop where
 ok:∀(j:Nat) o,all[j]?=some o→zH N o=true∧zAD o=true
 back:∀(j:Nat) o,all[j]?=some o→∀e∈o.after.toList,Region.binds .any e=true→e.on<j
 ord:∀(i j:Nat) o' o,i<j→all[i]?=some o'→all[j]?=some o→(m≤j∨zBT all o' o=true)→zAa (befs all []) i j=true
theorem zEb {N m:Nat} {all:List Oper} (h:anyB N m all=true):AnyOk N m all:=by
 simp only[anyB,Bool.and_eq_true] at h
 obtain ⟨h1,h2⟩:=h
 rw[List.all_eq_true] at h1 h2
 have mem:∀{j:Nat} {o:Oper},all[j]?=some o→(o,j)∈all.zipIdx:=fun {j o} hj=>by
  rw[List.mem_zipIdx_iff_getElem?];exact hj
 refine ⟨fun j o hj=>?_,fun j o hj e he hb=>?_,fun i j o' o hij hi hj hc=>?_⟩
 ·have:=h1 o (List.mem_of_getElem? hj)
  simpa using this
 ·have:=h2 (o,j) (mem hj)
  simp only[Bool.and_eq_true,List.all_eq_true] at this
  have:=this.1 e he
  simp only[hb,Bool.not_true,Bool.false_or,decide_eq_true_eq] at this
  exact this
 ·have:=h2 (o,j) (mem hj)
  simp only[Bool.and_eq_true,List.all_eq_true] at this
  have:=this.2 (o',i) (mem hi)
  simp only[hij,decide_true,Bool.not_true,Bool.false_or,Bool.or_eq_true,Bool.not_eq_true',Bool.or_eq_false_iff,decide_eq_false_iff_not] at this
  rcases this with ⟨h3,h4⟩ | h
  ·rcases hc with hc | hc
   ·exact absurd hc h3
   ·rw[hc] at h4;cases h4
  ·exact h
def zCD (all:List Oper) (listed:Array Bool):Prop:=∀(j:Nat) o,all[j]?=some o→listed.getD j false=true→∀e∈o.after.toList,Region.binds .any e=true→listed.getD e.on false=true
theorem zAL {N m:Nat} {all:List Oper} {listed:Array Bool} (hA:AnyOk N m all) (hc:zCD all listed):∀(j i:Nat) (o:Oper),all[j]?=some o→(∀e∈o.after.toList,Region.binds .any e=true→listed.getD e.on false=true)→zAa (befs all []) i j=true→listed.getD i false=true:=by
 intro j
 induction j using Nat.strongRecOn with
 | _ j ih =>
  intro i o hj ha hm
  unfold zAa at hm
  obtain ⟨e,he,h1,h2⟩:=zGw all [] j o hj (by simpa using hm)
  rcases h2 with rfl | h2
  ·exact ha e he h1
  ·have hlt:=hA.back j o hj e he h1
   have hjl:=(List.getElem?_eq_some_iff.1 hj).1
   have hlt' : e.on<all.length:=by omega
   exact ih e.on hlt i _ (List.getElem?_eq_getElem hlt') (hc e.on _ (List.getElem?_eq_getElem hlt') (ha e he h1)) h2
section
variable {P:Program} {N L:Nat} {Q:Exit→KS} {H:Heap}
theorem zT {listed:Array Bool} {i k:Nat} {b:Bool} (h:(listed.setIfInBounds i true).getD k b=true):k=i∨listed.getD k b=true:=by
 by_cases e:k=i
 ·exact .inl e
 ·right
  simp only[Array.getD_eq_getD_getElem?,Array.getElem?_setIfInBounds_ne (Ne.symm e)] at h⊢
  exact h
theorem zAA {listed:Array Bool} {i k:Nat} (h:listed.getD k false=true):(listed.setIfInBounds i true).getD k false=true:=by
 by_cases e:k=i
 ·subst e
  have hlt:k<listed.size:=by
   rcases Nat.lt_or_ge k listed.size with h' | h'
   ·exact h'
   ·simp[Array.getD_eq_getD_getElem?,Array.getElem?_eq_none h'] at h
  simp[Array.getD_eq_getD_getElem?,hlt]
 ·simp only[Array.getD_eq_getD_getElem?,Array.getElem?_setIfInBounds_ne (Ne.symm e)] at h⊢
  exact h
theorem zAH {listed:Array Bool} {i:Nat} (h:i<listed.size):(listed.setIfInBounds i true).getD i false=true:=by
 simp[Array.getD_eq_getD_getElem?,h]
theorem zBD {all:List Oper} {listed:Array Bool} {i:Nat} (hc:zCD all listed) (hi:∀o,all[i]?=some o→∀e∈o.after.toList,Region.binds .any e=true→listed.getD e.on false=true):zCD all (listed.setIfInBounds i true):=by
 intro j o hj hl e he hb
 rcases zT hl with rfl | hl
 ·exact zAA (hi o hj e he hb)
 ·exact zAA (hc j o hj hl e he hb)
def left (listed:Array Bool):Nat:=(listed.toList.filter fun b=>!b).length
theorem zC9 {listed:Array Bool} {i:Nat} (hi:listed[i]?=some false):left (listed.setIfInBounds i true)+1=left listed:=by
 obtain ⟨l⟩:=listed
 simp only[left,List.setIfInBounds_toArray,List.getElem?_toArray] at hi⊢
 induction l generalizing i with
 | nil=>simp at hi
 | cons b l ih =>
  cases i with
  | zero =>
   simp only[List.getElem?_cons_zero,Option.some.injEq] at hi
   subst hi
   simp
  | succ i =>
   simp only[List.getElem?_cons_succ] at hi
   have:=ih hi
   simp only[List.set_cons_succ,List.filter_cons]
   cases b <;> simp <;> omega
theorem zBp {listed:Array Bool} (h:left listed=0):∀i,i<listed.size→listed.getD i false=true:=by
 intro i hi
 unfold left at h
 have h':=List.eq_nil_of_length_eq_zero h
 rw[List.filter_eq_nil_iff] at h'
 have:=h' listed[i] (by simp)
 simp only[Array.getD_eq_getD_getElem?,Array.getElem?_eq_getElem hi,Option.getD_some]
 cases hb:listed[i] <;> simp_all
section go
variable {m mm B:Nat} {ro:Option Nat} {all:List Oper} {Φ:Exit→Act→World→Prop}
theorem zAJ {listed:Array Bool} {i:Nat} (h:listed.getD i true=false):listed[i]?=some false:=by
 rw[Array.getD_eq_getD_getElem?] at h
 cases hi:listed[i]? with
 | none=>rw[hi] at h;simp at h
 | some b=>rw[hi] at h;simpa using h
theorem zAh (hA:AnyOk N m all) {listed:Array Bool} (hsz:listed.size=all.length) {i:Nat} (hi:i<all.length) (hn:listed.getD i false=false) (hl:∀k,k<i→listed.getD k false=true):i∈Region.ready .any all.toArray listed:=by
 refine mem_ready.2 ⟨?_,all[i],by simp[hi],fun e he hb=>hl e.on (hA.back i _ (List.getElem?_eq_getElem hi) e (by simpa using he) hb)⟩
 rw[Array.getD_eq_getD_getElem?,Array.getElem?_eq_getElem (by omega)] at hn⊢
 simpa using hn
theorem z6 (hA:AnyOk N m all) {listed:Array Bool} (hc:zCD all listed) {i j:Nat} (hr:j∈Region.ready .any all.toArray listed) (hm:zAa (befs all []) i j=true):listed.getD i false=true:=by
 obtain ⟨_,o,ho,ha⟩:=mem_ready.1 hr
 rw[List.getElem?_toArray] at ho
 exact zAL hA hc j i o ho (fun e he hb=>ha e (by simpa using he) hb) hm
theorem zFl (hA:AnyOk N m all):∀(l:List Oper) (k fuel:Nat) (listed:Array Bool) (a:Act) (w:World),all.drop k=l→m≤k→k≤all.length→listed.size=all.length→left listed≤fuel→zCD all listed→
  (∀i,i<all.length→(listed.getD i false=true↔i<k))→wpListIn (Wd ro) mm P all.toArray Φ l a w→wpAnyIn (Wd ro) mm P .any all.toArray Φ fuel listed a w
 | [],k,fuel,listed,a,w,hd,hm,hk,hsz,hf,hc,hl,h=>by
  have hk' : all.length≤k:=by
   have:=congrArg List.length hd
   simp at this;omega
  have hno:Region.ready .any all.toArray listed=[]:=by
   rw[List.eq_nil_iff_forall_not_mem]
   intro i hi
   obtain ⟨h1,o,ho,_⟩:=mem_ready.1 hi
   rw[List.getElem?_toArray] at ho
   have hi':=(List.getElem?_eq_some_iff.1 ho).1
   have h2:=(hl i hi').2 (by omega)
   have:=zAJ h1
   rw[Array.getD_eq_getD_getElem?,this] at h2
   simp at h2
  cases fuel with
  | zero=>exact ⟨hno,h⟩
  | succ fuel=>exact ⟨fun _=>h,fun i hi=>by rw[hno] at hi;simp at hi⟩
 | o::l,k,fuel,listed,a,w,hd,hm,hk,hsz,hf,hc,hl,h=>by
  have hk' : k<all.length:=by
   have:=congrArg List.length hd
   simp at this;omega
  have hko:all[k]?=some o:=by
   have:=congrArg (·[0]?) hd
   simpa [List.getElem?_drop] using this
  have hd' : all.drop (k+1)=l:=by rw[←List.drop_drop,hd];rfl
  have hkr:k∈Region.ready .any all.toArray listed:=zAh hA hsz hk' (by
   cases hx:listed.getD k false with
   | false=>rfl
   | true=>exact absurd ((hl k hk').1 hx) (by omega)) (fun j hj=>(hl j (by omega)).2 hj)
  cases fuel with
  | zero =>
   exfalso
   have:=zBp (Nat.le_zero.1 hf) k (by omega)
   exact absurd ((hl k hk').1 this) (by omega)
  | succ fuel =>
   refine ⟨fun h0=>by rw[h0] at hkr;simp at hkr,fun i hi=>?_⟩
   obtain ⟨h1,oi,hoi,ha⟩:=mem_ready.1 hi
   have hoi':=hoi
   rw[List.getElem?_toArray] at hoi
   have hil:=(List.getElem?_eq_some_iff.1 hoi).1
   have hnl:=zAJ h1
   have hik:i=k:=by
    rcases Nat.lt_trichotomy i k with h' | h' | h'
    ·have:=(hl i hil).2 h'
     rw[Array.getD_eq_getD_getElem?,hnl] at this
     simp at this
    ·exact h'
    ·have:=z6 hA hc hi (hA.ord k i o oi h' hko hoi (.inl (by omega)))
     exact absurd ((hl k hk').1 this) (by omega)
   subst hik
   rw[hko] at hoi
   cases hoi
   have hadd:=zC9 hnl
   have hcl:=zBD (i:=i) hc (fun o' ho' e he hb=>by rw[hko] at ho';cases ho';exact ha e (by simpa using he) hb)
   have hl' : ∀j,j<all.length→((listed.setIfInBounds i true).getD j false=true↔j<i+1):=by
    intro j hj
    constructor
    ·intro hx
     rcases zT hx with rfl | hx
     ·omega
     ·have:=(hl j hj).1 hx;omega
    ·intro hx
     by_cases e:j=i
     ·subst e;exact zAH (by omega)
     ·exact zAA ((hl j hj).2 (by omega))
   have ih:=fun a w=>zFl hA l (i+1) fuel (listed.setIfInBounds i true) a w hd' (by omega) (by omega) (by simpa using hsz) (by omega) hcl hl'
   unfold wpOpIn
   rw[hoi']
   simp only[wpListIn] at h
   simp only
   split at h
   ·rename_i hw
    rw[if_pos hw]
    exact Oper.wpIn_mono (fun a w h=>ih a w h) h
   ·rename_i hw
    rw[if_neg hw]
    exact ⟨h.1,ih _ _ h.2⟩
theorem zYa (hA:AnyOk N m all) {Z0:Nat→Prop} {G0:List (Option OG)} {FP0:Nat→List Nat} {ds:List Nat} {T0:Nat→HV} {xs:List HV} {w0:World} (hc0:zNj P H all (all.take m) T0 xs)
  (hend:∀Z G FP a w,St N B Z G FP ds (runM (fun _=>true) 0 (all.take m) xs T0) H a w→GLe G0 G→Evo Z0 FP0 w0 Z FP w→wpListIn (Wd ro) mm P all.toArray Φ (all.drop m) a w) :
  ∀(fuel:Nat) (listed:Array Bool) (Z:Nat→Prop) (G:List (Option OG)) (FP:Nat→List Nat) (a:Act) (w:World),listed.size=all.length→left listed≤fuel→zCD all listed→(∀j,m≤j→j<all.length→listed.getD j false=false)→
  St N B Z G FP ds (runM (fun k=>listed.getD k false) 0 (all.take m) xs T0) H a w→GLe G0 G→Evo Z0 FP0 w0 Z FP w→wpAnyIn (Wd ro) mm P .any all.toArray Φ fuel listed a w:=by
 intro fuel
 induction fuel with
 | zero =>
  intro listed Z G FP a w hsz hf hc hm hs hG hE
  have hall:=zBp (Nat.le_zero.1 hf)
  have hml:all.length≤m:=by
   rcases Nat.lt_or_ge m all.length with h | h
   ·have h1:=hm m (Nat.le_refl _) h
    rw[hall m (by omega)] at h1;cases h1
   ·exact h
  have hno:Region.ready .any all.toArray listed=[]:=by
   rw[List.eq_nil_iff_forall_not_mem]
   intro i hi
   obtain ⟨h1,o,ho,_⟩:=mem_ready.1 hi
   rw[List.getElem?_toArray] at ho
   have hi':=(List.getElem?_eq_some_iff.1 ho).1
   have h2:=hall i (by omega)
   rw[Array.getD_eq_getD_getElem?,zAJ h1] at h2
   simp at h2
  refine ⟨hno,?_⟩
  have hTe:runM (fun k=>listed.getD k false) 0 (all.take m) xs T0=runM (fun _=>true) 0 (all.take m) xs T0:=by
   funext t
   refine zBG _ _ _ _ _ rfl fun j hj=>?_
   have hjl:j<(all.take m).length:=by
    unfold zA8 at hj
    cases hx:(all.take m)[j]? with
    | none=>rw[hx] at hj;cases hj
    | some _=>exact (List.getElem?_eq_some_iff.1 hx).1
   rw[List.length_take] at hjl
   simp only[Nat.zero_add]
   exact hall j (by omega)
  have:=hend Z G FP a w (hTe▸hs) hG hE
  rw[List.drop_eq_nil_of_le hml] at this
  exact this
 | succ fuel ih =>
  intro listed Z G FP a w hsz hf hc hm hs hG hE
  by_cases hall:∀k,k<m→k<all.length→listed.getD k false=true
  ·
   have hTe:runM (fun k=>listed.getD k false) 0 (all.take m) xs T0=runM (fun _=>true) 0 (all.take m) xs T0:=by
    funext t
    refine zBG _ _ _ _ _ rfl fun j hj=>?_
    have hjl:j<(all.take m).length:=by
     unfold zA8 at hj
     cases hx:(all.take m)[j]? with
     | none=>rw[hx] at hj;cases hj
     | some _=>exact (List.getElem?_eq_some_iff.1 hx).1
    rw[List.length_take] at hjl
    simp only[Nat.zero_add]
    exact hall j (by omega) (by omega)
   have h:=hend Z G FP a w (hTe▸hs) hG hE
   by_cases hml:m≤all.length
   ·refine zFl hA (all.drop m) m (fuel+1) listed a w rfl (Nat.le_refl _) hml hsz hf hc (fun i hi=>⟨fun hx=>?_,fun hx=>hall i hx hi⟩) h
    rcases Nat.lt_or_ge i m with h' | h'
    ·exact h'
    ·rw[hm i h' hi] at hx;cases hx
   ·have hd:all.drop m=[]:=List.drop_eq_nil_of_le (by omega)
    rw[hd] at h
    have hno:Region.ready .any all.toArray listed=[]:=by
     rw[List.eq_nil_iff_forall_not_mem]
     intro i hi
     obtain ⟨h1,o,ho,_⟩:=mem_ready.1 hi
     rw[List.getElem?_toArray] at ho
     have hi':=(List.getElem?_eq_some_iff.1 ho).1
     have h2:=hall i (by omega) hi'
     rw[Array.getD_eq_getD_getElem?,zAJ h1] at h2
     simp at h2
    exact ⟨fun _=>h,fun i hi=>by rw[hno] at hi;simp at hi⟩
  ·
   have hex:∃k,k<m∧k<all.length∧listed.getD k false=false:=by
    apply Classical.byContradiction
    intro hn
    refine hall fun k h1 h2=>?_
    cases hx:listed.getD k false with
    | true=>rfl
    | false=>exact absurd ⟨k,h1,h2,hx⟩ hn
   obtain ⟨k,⟨hk1,hk2,hk3⟩,hkl⟩:=zU (p:=fun k=>k<m∧k<all.length∧listed.getD k false=false) hex
   have hkr:k∈Region.ready .any all.toArray listed:=zAh hA hsz hk2 hk3 (fun j hj=>by
    cases hx:listed.getD j false with
    | true=>rfl
    | false=>have:=hkl j ⟨by omega,by omega,hx⟩;omega)
   refine ⟨fun h0=>by rw[h0] at hkr;simp at hkr,fun i hi=>?_⟩
   obtain ⟨h1,o,ho,ha⟩:=mem_ready.1 hi
   rw[List.getElem?_toArray] at ho
   have hil:=(List.getElem?_eq_some_iff.1 ho).1
   have hnl:=zAJ h1
   have hnf:listed.getD i false=false:=by rw[Array.getD_eq_getD_getElem?,hnl];rfl
   have him:i<m:=by
    rcases Nat.lt_or_ge i m with h' | h'
    ·exact h'
    ·have:=z6 hA hc hi (hA.ord k i _ o (by omega) (List.getElem?_eq_getElem hk2) ho (.inl h'))
     rw[hk3] at this;cases this
   have hoT:(all.take m)[i]?=some o:=by rw[List.getElem?_take,if_pos him];exact ho
   obtain ⟨x,hx,hcert⟩:=zFm (all.take m) xs 0 i T0 o hc0 hoT
   obtain ⟨hok,hnd⟩:=hA.ok i o ho
   have dstm:∀{j t},zA8 (all.take m) j=some t→∃oj,all[j]?=some oj∧oj.dst=some t∧j<m:=by
    intro j t hj
    unfold zA8 at hj
    cases hx:(all.take m)[j]? with
    | none=>rw[hx] at hj;cases hj
    | some oj =>
     rw[hx] at hj
     have hlt:=(List.getElem?_eq_some_iff.1 hx).1
     rw[List.length_take] at hlt
     rw[List.getElem?_take,if_pos (by omega)] at hx
     exact ⟨oj,hx,hj,by omega⟩
   have hsee:∀t∈zBY all o,runM (fun k=>decide (k<0+i)) 0 (all.take m) xs T0 t=runM (fun k=>listed.getD k false) 0 (all.take m) xs T0 t:=by
    intro t ht
    refine zBG _ _ _ _ _ rfl fun j hj=>?_
    obtain ⟨oj,hoj,hd,hjm⟩:=dstm hj
    simp only[Nat.zero_add]
    rcases Nat.lt_trichotomy j i with h' | h' | h'
    ·have:=z6 hA hc hi (hA.ord j i oj o h' hoj ho (.inr (by simp[zBT,hd,ht])))
     rw[this];simp[h']
    ·subst h';rw[hnf];simp
    ·have hjl:=(List.getElem?_eq_some_iff.1 hoj).1
     cases hx:listed.getD j false with
     | false=>simp;omega
     | true =>
      have:=zAL hA hc j i oj hoj (hc j oj hoj hx) (hA.ord i j o oj h' ho hoj (.inr (by
       unfold zBT
       rw[hd]
       simp[ht])))
      rw[hnf] at this;cases this
   have hcert':=zBU hsee hcert
   have hdall:all.all (zBR N)=true:=by
    rw[List.all_eq_true]
    intro o' ho'
    obtain ⟨j',hj'⟩:=List.mem_iff_getElem?.1 ho'
    have:=(hA.ok j' o' hj').1
    simp only[zH,Bool.and_eq_true] at this
    exact this.1
   refine zE8 hdall ho hok hnd hcert' hs fun Z' G' FP' a' w' hs' hG' hE'=>?_
   have hadd:=zC9 hnl
   refine ih (listed.setIfInBounds i true) Z' G' FP' a' w' (by simpa using hsz) (by omega) (zBD hc (fun o' ho' e he hb=>by rw[ho] at ho';cases ho';exact ha e (by simpa using he) hb)) (fun j h1 h2=>?_) ?_ (hG.trans hG') (hE.trans hE')
   ·cases hx:(listed.setIfInBounds i true).getD j false with
    | false=>rfl
    | true =>
     rcases zT hx with rfl | hx
     ·omega
     ·rw[hm j h1 h2] at hx;cases hx
   ·have e:runM (fun k=>(listed.setIfInBounds i true).getD k false) 0 (all.take m) xs T0=updO (runM (fun k=>listed.getD k false) 0 (all.take m) xs T0) o.dst x:=by
     refine zBx (all.take m) xs 0 i T0 o x hoT hx ?_ ?_ ?_ ?_
     ·simp only[Nat.zero_add];exact zAH (by omega)
     ·simp only[Nat.zero_add];exact hnf
     ·intro k hk
      simp only[Nat.zero_add] at hk
      simp only[Array.getD_eq_getD_getElem?,Array.getElem?_setIfInBounds_ne (Ne.symm hk)]
     ·intro k hk hS t ht hdk
      simp only[Nat.zero_add] at hS
      obtain ⟨ok,hok',hd,_⟩:=dstm hdk
      have:=zAL hA hc k i ok hok' (hc k ok hok' hS) (hA.ord i k o ok hk ho hok' (.inr (by
       unfold zBT
       rw[ht]
       simp[hd])))
      rw[hnf] at this;cases this
    rw[e];exact hs'
end go
theorem HW.anyCore {id:Nat} {all:List Oper} {T:Nat→HV} {xs:List HV} {n' m:Nat} (hm:P.follows .mixedOrders=true) (hA:AnyOk N m all) (hc:zNj P H all (all.take m) T xs)
  (hex:ex P N L Q n' [.ops all (all.drop m)] (runM (fun _=>true) 0 (all.take m) xs T) H):HW P N L (.region id all.toArray true) Q T H:=by
 intro ro mm B Z G FP ds a w hB' hL hs
 have hEv:Evo Z FP w Z FP { w with drawn:=w.drawn+1 }:=⟨rfl,rfl,rfl,Nat.le_refl _,fun _ _ _=>rfl,fun _ h=>h,fun _ h=>.inl h,fun id b hb=>.inr ⟨id,hb⟩⟩
 have hi:HInv Z G FP H { w with drawn:=w.drawn+1 }:=hs.inv.keep (Nat.le_refl _) (fun _ _=>rfl)
 have hs':=hs.evo hi (GLe.refl _) hEv
 have hallok:(all.all fun o=>zH N o && zAD o)=true:=by
  rw[List.all_eq_true]
  intro o ho
  obtain ⟨j,hj⟩:=List.mem_iff_getElem?.1 ho
  have:=hA.ok j o hj
  simp[this.1,this.2]
 have hdrop:((all.drop m).all fun o=>zH N o && zAD o)=true:=by
  rw[List.all_eq_true]
  intro o ho
  exact List.all_eq_true.1 hallok o (List.mem_of_mem_drop ho)
 refine wpIn_region_any hm ?_
 refine zYa (m:=m) (B:=B) (Z0:=Z) (G0:=G) (FP0:=FP) (ds:=ds) (w0:=w) hA hc ?_ _ _ Z G FP _ _ (by simp) ?_ ?_ (fun j h1 h2=>?_) ?_ (GLe.refl _) hEv
 ·intro Z1 G1 FP1 a1 w1 hs1 hG1 hE1
  have:=zCV n' [.ops all (all.drop m)] _ H hex (by simp[zAq,hallok,hdrop]) ro mm B Z G FP w Z1 G1 FP1 ds a1 w1 (hB'.evo hE1) hs1 (GLt.of hL hG1) hE1
  simp only[M] at this
  exact this
 ·have:∀k:Nat,left (Array.replicate k false)=k:=by intro k;simp[left]
  rw[this];simp
 ·intro j o hj hl
  exfalso
  have hjl:=(List.getElem?_eq_some_iff.1 hj).1
  simp[Array.getD_eq_getD_getElem?,hjl] at hl
 ·simp[Array.getD_eq_getD_getElem?,h2]
 ·have e:runM (fun k=>(Array.replicate all.toArray.size false).getD k false) 0 (all.take m) xs T=T:=by
   funext t
   rw[zB2]
   intro j _
   simp only[Array.getD_eq_getD_getElem?]
   by_cases hlt:0+j<all.toArray.size
   ·have:0+j<all.length:=by simpa using hlt
    rw[Array.getElem?_eq_getElem (by simpa using hlt)]
    simp
   ·rw[Array.getElem?_eq_none (by simpa using hlt)];rfl
  rw[e]
  exact hs'
theorem HW.quiet {id:Nat} {all:List Oper} {T:Nat→HV} (n:Nat) (hm:P.follows .mixedOrders=true) (hB:anyB N all.length all=true)
  (h:ex P N L Q n [.quiet all all] T H):HW P N L (.region id all.toArray true) Q T H:=by
 obtain ⟨xs,n',hc,hex⟩:=zMt all 0 n T h
 have e:all.take all.length=all:=List.take_length
 refine HW.anyCore (m:=all.length) (n':=n'+1) (xs:=xs) hm (zEb hB) (by rw[e];exact hc) ?_
 rw[e,List.drop_length]
 exact hex
end
end Go.Proofs.YtoknohandclcbaaGreat
namespace Go.Proofs.YtoknohandclcbaaGreat
open Go.RowKit
section
variable {P:Program} {N L:Nat} {Q:Exit→KS} {n:Nat} {r:List Item} {T:Nat→HV} {H:Heap} {k:List Item→KS} {all l:List Oper} {d:Option Nat}
theorem z45:ex P N L Q (n+1) [] T H=Q .normal T H:=rfl
theorem z16 {b:Nat}:ex P N L Q (n+1) (.endB b::r) T H=ex P N L Q n r T H:=rfl
theorem zTr:ex P N L Q (n+1) (.ops all []::r) T H=ex P N L Q n r T H:=rfl
theorem yB4 {op:Op} {ty:TypeId} {pos:String} {af:Array Edge}:ex P N L Q (n+1) (.ops all (⟨d,op,ty,pos,af,none⟩::l)::r) T H=exO (ex P N L Q n) P all d op l r T H:=rfl
theorem z43 {op:Op} {ty:TypeId} {pos:String} {af:Array Edge} {j:Nat} {b:Bool}:ex P N L Q (n+1) (.ops all (⟨d,op,ty,pos,af,some (j,b)⟩::l)::r) T H=exB (ex P N L Q n) P (zA8 all j) b all d op l r T H:=rfl
theorem z12:ex P N L Q (n+1) (.code .skip::r) T H=ex P N L Q n r T H:=rfl
theorem zXe {b:Nat}:ex P N L Q (n+1) (.code (.label b)::r) T H=ex P N L Q n r T H:=rfl
theorem z4Z {x y:Code}:ex P N L Q (n+1) (.code (.seq x y)::r) T H=ex P N L Q n (.code x::.code y::r) T H:=rfl
theorem zTo {b:Nat}:ex P N L Q (n+1) (.code (.region b (List.toArray l) false)::r) T H=ex P N L Q n (.ops l l::r) T H:=rfl
theorem z18 {c:Operand} {x y:Code}:ex P N L Q (n+1) (.code (.cond c x y)::r) T H=exC2 (ex P N L Q n) (hev T c) x y r T H:=rfl
theorem zXf {b:Nat} {c:Code}:ex P N L Q (n+1) (.code (.block b c)::r) T H=ex P N L Q n (.code c::.endB b::r) T H:=rfl
theorem z15 {b:Nat}:ex P N L Q (n+1) (.code (.exit b)::r) T H=Kx (ex P N L Q n) Q r (.exit b) T H:=rfl
theorem z14 {b:Nat}:ex P N L Q (n+1) (.code (.goto b)::r) T H=Q (.goto b) T H:=rfl
theorem z40:ex P N L Q (n+1) (.code .ret::r) T H=Q .ret T H:=rfl
theorem z13 {c:Code}:ex P N L Q (n+1) (.code (.loop c)::r) T H=HW P N L (.loop c) (Kx (ex P N L Q n) Q r) T H:=rfl
theorem zXc {c:Code}:ex P N L Q (n+1) (.code (.scope c)::r) T H=HW P N L (.scope c) (Kx (ex P N L Q n) Q r) T H:=rfl
theorem zXd {f:Operand} {ps:Array Nat} {c c' : Code}:ex P N L Q (n+1) (.code (.rangeFunc f ps c c')::r) T H=HW P N L (.rangeFunc f ps c c') (Kx (ex P N L Q n) Q r) T H:=rfl
theorem z17 {b:Nat}:ex P N L Q (n+1) (.code (.region b (List.toArray l) true)::r) T H=HW P N L (.region b (List.toArray l) true) (Kx (ex P N L Q n) Q r) T H:=rfl
def Kd (k:List Item→KS) (o:Option (List Item)) (q:KS) (T:Nat→HV) (H:Heap):Prop:=match o with | some r=>k r T H | none=>q T H
theorem z2N {q:KS}:Kd k (some r) q T H=k r T H:=rfl
theorem z2O {q:KS}:Kd k none q T H=q T H:=rfl
theorem zVN:Kx k Q r .normal T H=k r T H:=rfl
theorem z2M {b:Nat}:Kx k Q r (.exit b) T H=Kd k (zAc b r) (Q (.exit b)) T H:=by
 simp only[Kx,Kd]
 cases hd:zAc b r <;> rfl
theorem z2L {b:Nat}:Kx k Q r (.goto b) T H=Q (.goto b) T H:=rfl
theorem z5E:Kx k Q r .ret T H=Q .ret T H:=rfl
theorem zQP {Qn:KS} {Q:Exit→KS}:fin Qn Q .normal T H=Qn T H:=rfl
theorem zX5 {Qn:KS} {Q:Exit→KS} {b:Nat}:fin Qn Q (.exit b) T H=Q (.exit b) T H:=rfl
theorem zX4 {Qn:KS} {Q:Exit→KS} {b:Nat}:fin Qn Q (.goto b) T H=Q (.goto b) T H:=rfl
theorem z1X {Qn:KS} {Q:Exit→KS}:fin Qn Q .ret T H=Q .ret T H:=rfl
theorem zXB {ks:List Nat} {i:Nat}:z0C ks T i=if ks.contains i=true then T i else .any:=rfl
theorem zQv {b:Nat}:zAc b []=none:=rfl
theorem zNQ {b c:Nat}:zAc b (.endB c::r)=if b=c then some r else zAc b r:=rfl
theorem zNR {b:Nat} {c:Code}:zAc b (.code c::r)=zAc b r:=rfl
theorem zQu {b:Nat}:zAc b (.ops all l::r)=zAc b r:=rfl
theorem zUc {c:Bool} {x y:Code}:exC2 k (.v (.bool c)) x y r T H=((c=true→k (.code x::r) T H)∧(c=false→k (.code y::r) T H)):=rfl
theorem z1b {p:Prop} {x:HV} {i:Nat}:exR k (rv H p x) all (some i) l r T=(p∧k (.ops all l::r) (upd T i x) H):=rfl
theorem zTz {p:Prop} {x:HV} {i:Nat}:exR k (some (p,x,H)) all (some i) l r T=(p∧k (.ops all l::r) (upd T i x) H):=rfl
theorem z1c {p:Prop} {x:HV}:exR k (rv H p x) all none l r T=(p∧k (.ops all l::r) T H):=rfl
theorem zUA {p:Prop} {x:HV}:exR k (some (p,x,H)) all none l r T=(p∧k (.ops all l::r) T H):=rfl
theorem zXi {p:Prop} {x:HV} {H' : Heap} {i:Nat}:exRq k (rv H' p x) all (some i) l r T H=(p∧k (.quiet all l::r) (upd T i x) H):=rfl
theorem zYK {t i:Nat} {op:Op}:exB2 k P (.v (.bool true)) t false all (some i) op l r T H=k (.ops all l::r) (upd T i (.v undef)) H:=by simp[exB2,updO]
theorem zYL {t i:Nat} {op:Op}:exB2 k P (.v (.bool false)) t true all (some i) op l r T H=k (.ops all l::r) (upd T i (.v undef)) H:=by simp[exB2,updO]
theorem zQq {c b:Bool} {t i:Nat} {op:Op}:exB2 k P (.v (.bool c)) t b all (some i) op l r T H=((c=b→exO k P all (some i) op l r T H)∧(c=(!b)→k (.ops all l::r) (upd T i (.v undef)) H)):=rfl
theorem zNJ {b:Bool} {t i:Nat} {op:Op}:exB2 k P (.v undef) t b all (some i) op l r T H=k (.ops all l::r) (upd T i (.v undef)) H:=rfl
theorem zUe {t i:Nat} {op:Op}:zDo k P (.v (.bool true)) t false all (some i) op l r T H=k (.quiet all l::r) (upd T i (.v undef)) H:=by simp[zDo,updO]
theorem zUf {t i:Nat} {op:Op}:zDo k P (.v (.bool false)) t true all (some i) op l r T H=k (.quiet all l::r) (upd T i (.v undef)) H:=by simp[zDo,updO]
theorem zNG {c b:Bool} {t i:Nat} {op:Op}:zDo k P (.v (.bool c)) t b all (some i) op l r T H=((c=b→exOq k P all (some i) op l r T H)∧(c=(!b)→k (.quiet all l::r) (upd T i (.v undef)) H)):=rfl
theorem zLM {b:Bool} {t i:Nat} {op:Op}:zDo k P (.v undef) t b all (some i) op l r T H=k (.quiet all l::r) (upd T i (.v undef)) H:=rfl
theorem zUB {x x' : Res} (h:x=x'):exR k x all d l r T=exR k x' all d l r T:=by rw[h]
theorem zQT {x x' : Res} (h:x=x'):exRq k x all d l r T H=exRq k x' all d l r T H:=by rw[h]
theorem zUh {t t' : Option Nat} {b:Bool} {op:Op} (h:t=t'):exB k P t b all d op l r T H=exB k P t' b all d op l r T H:=by rw[h]
theorem zQp {x x' : HV} {t:Nat} {b:Bool} {op:Op} (h:x=x'):exB2 k P x t b all d op l r T H=exB2 k P x' t b all d op l r T H:=by rw[h]
theorem zQm {t t' : Option Nat} {b:Bool} {op:Op} (h:t=t'):exBq k P t b all d op l r T H=exBq k P t' b all d op l r T H:=by rw[h]
theorem zNF {x x' : HV} {t:Nat} {b:Bool} {op:Op} (h:x=x'):zDo k P x t b all d op l r T H=zDo k P x' t b all d op l r T H:=by rw[h]
theorem zQl {v v' : HV} {x y:Code} (h:v=v'):exC2 k v x y r T H=exC2 k v' x y r T H:=by rw[h]
theorem zLI {f f' : HV} {args args' : List HV} (hf:f=f') (ha:args=args'):zCz k P f H args all d l r T=zCz k P f' H args' all d l r T:=by rw[hf,ha]
theorem zXk:exR k none all d l r T=False:=rfl
theorem zUa {fid:Nat} {caps args:List HV} (h:fid<4294967296):zCz k P (.fn fid caps) H args all d l r T=zFb k P fid H (args++caps) all d l r T:=by
 show zFb k P (fnF fid) H (fnA fid .any args caps) all d l r T=_
 rw[zGb h,zFV h]
theorem zNE {fid:Nat} {x:HV} {caps args:List HV} (h:¬fid<4294967296):zCz k P (.fn fid (x::caps)) H args all d l r T=zFb k P (fnF fid) H (x::(args++caps)) all d l r T:=by
 show zFb k P (fnF fid) H (fnA fid .any args (x::caps)) all d l r T=_
 rw[zGc h];rfl
theorem zXy {f:Operand} {args:List Operand} {tys:Array TypeId}:exO k P all d (.call { callee:=.value f,args:=List.toArray args,argTypes:=tys }) l r T H=zCz k P (hev T f) H (args.map (hev T)) all d l r T:=rfl
theorem zYJ {t:Nat} {b:Bool} {op:Op}:exB k P (some t) b all d op l r T H=exB2 k P (T t) t b all d op l r T H:=rfl
theorem z1n {t:Nat} {op:Op}:exB2 k P (.v (.bool true)) t true all d op l r T H=exO k P all d op l r T H:=by simp[exB2]
theorem z1o {t:Nat} {op:Op}:exB2 k P (.v (.bool false)) t false all d op l r T H=exO k P all d op l r T H:=by simp[exB2]
theorem zUb {x y:Code}:exC2 k (.v (.bool true)) x y r T H=k (.code x::r) T H:=by simp[exC2]
theorem zQk {x y:Code}:exC2 k (.v (.bool false)) x y r T H=k (.code y::r) T H:=by simp[exC2]
theorem zQs {o:Oper}:zA8 (o::all) 0=o.dst:=rfl
theorem zQt {o:Oper} {j:Nat}:zA8 (o::all) (j+1)=zA8 all j:=by simp[zA8]
theorem zRV {i:Nat} {x:HV}:updO T (some i) x=upd T i x:=rfl
theorem zRW {x:HV}:updO T none x=T:=rfl
theorem z2W {i:Nat} {x:HV}:upd T i x i=x:=by simp[upd]
theorem z2V {i j:Nat} {x:HV} (h:(j == i)=false):upd T i x j=T j:=by
 have:j≠i:=by simpa using h
 simp[upd,this]
theorem z0O {t:Nat}:hev T (.tmp t)=T t:=rfl
theorem zSH {f:Nat} {cs:List Operand}:ropQ P T H (.makeFunc (.func f) #[] (List.toArray cs))=rv H (f<4294967296) (.fn f (cs.map (hev T))):=rfl
theorem zSF {f:Nat} {x:Operand} {cs:List Operand}:ropQ P T H (.makeFunc (.func f) (List.toArray [x]) (List.toArray cs))=rv H True (.fn (f+4294967296) (hev T x::cs.map (hev T))):=rfl
theorem zNA {t:TypeId}:exO k P all d (.makeMap t none) l r T H=exR k (zIb H) all d l r T:=rfl
theorem zQd {t:TypeId} {m x:Operand} {ok:Bool}:exO k P all d (.lookup t m x ok) l r T H=exR k (zIc P H t (hev T m) (hev T x) ok) all d l r T:=rfl
theorem zJH {t:TypeId} {m x y:Operand}:exO k P all d (.mapUpdate t m x y) l r T H=exR k (zDJ P H t (hev T m) (hev T x) (hev T y)) all d l r T:=rfl
theorem zKz {t:TypeId} {m x:Operand}:exO k P all d (.mapEntry t m x) l r T H=exR k (zEI P H t (hev T m) (hev T x)) all d l r T:=rfl
theorem zHZ {t:TypeId} {m x y:Operand}:exO k P all d (.entryStore t m x y) l r T H=exR k (zC7 H (hev T m) (hev T x) (hev T y)) all d l r T:=rfl
theorem zUZ {s:Operand} {t:TypeId}:exO k P all d (.call { callee:=.builtin .clear,args:=#[s],argTypes:=#[t] }) l r T H=exR k (zOB P H t (hev T s)) all d l r T:=rfl
theorem zXw {s x:Operand} {t u:TypeId}:exO k P all d (.call { callee:=.builtin .copy,args:=#[s,x],argTypes:=#[t,u] }) l r T H=exR k (zW7 P H t (hev T s) (hev T x)) all d l r T:=rfl
theorem zP3 {t:TypeId} {id:Nat} {x:HV} {ok:Bool}:zIc P H t (.mp id) x ok=zF (getO H id) fun ob=>zF (zCw ob) fun es=>zF (zEv P t) fun ty=>zF (valOf x) fun key=>zF (zPq es.1 key ty.2.2) fun r=>rv H (zCR P ty.1 key) (if ok=true then .tu [cHV r.1,.v (.bool r.2)] else cHV r.1):=rfl
theorem zIa {t:TypeId} {id:Nat} {x y:HV}:zDJ P H t (.mp id) x y=zF (getO H id) fun ob=>zF (zCw ob) fun es=>zF (zEv P t) fun ty=>zF (valOf x) fun key=>zF (valOf y) fun val=>zF (putO es.1 es.2 key val) fun o=>some (zCR P ty.1 key∧keq key key=some true,.v undef,H.set id (some o)):=rfl
theorem zKK {t:TypeId} {id:Nat} {x:HV}:zEI P H t (.mp id) x=zF (getO H id) fun ob=>zF (zCw ob) fun es=>zF (zEv P t) fun ty=>zF (valOf x) fun key=>zF (entO es.1 es.2 key ty.2.2) fun r=>some (zCR P ty.1 key∧keq key key=some true,.tu [cHV r.1,.v (.int .i64 r.2.1)],H.set id (some r.2.2)):=rfl
theorem zHP {id:Nat} {b:Int} {x:HV}:zC7 H (.mp id) (.v (.int .i64 b)) x=zF (getO H id) fun ob=>zF (zCw ob) fun es=>zF (valOf x) fun val=>zF (stoO es.1 es.2 b val) fun o=>some (True,.v undef,H.set id (some o)):=rfl
theorem zS9 {t:TypeId} {id off len:Nat}:zOB P H t (.hd id off len)=zF (zO P t 3) fun e=>zF (zA e.2.2) fun cs=>zF (getO H id) fun ob=>some (e.2.2.size≠0∧tvs ob.rows.flatten=true∧off+len=ob.rows.length∧ob.e=e.2.1∧ob.sz=e.2.2.size,.tu [],H.set id (some { ob with rows:=ob.rows.take off++List.replicate len cs })):=rfl
theorem zW6 {t:TypeId} {id len:Nat} {x:HV}:zW7 P H t (.hd id 0 len) x=zF (zO P t 3) fun e=>zF (zAW H x) fun new=>zF (getO H id) fun ob=>some (e.2.2.size≠0∧tvs new.flatten=true∧tvs ob.rows.flatten=true∧z2 new e.2.2.size∧len=ob.rows.length∧new.length=len∧ob.e=e.2.1∧ob.sz=e.2.2.size,.v (.int .i64 len),H.set id (some { ob with rows:=new })):=rfl
theorem zZH {x:Value}:valOf (.v x)=some x:=rfl
theorem zRU {x y:Value}:valOf (.ag [.v x,.v y])=some (.agg #[x,y]):=rfl
theorem zTH {t:TypeId} {x:Int}:zCR P t (.int .i64 x)=(zAi P t=some .i64):=rfl
theorem zTI {t:TypeId} {x y:Int}:zCR P t (.agg #[.int .i64 x,.int .i64 y])=(zLa P t=some 2):=by simp[zCR,zBr]
theorem zTG {t:TypeId} {x:ByteArray}:zCR P t (.string x)=(zL P t 4=true):=rfl
theorem zIs {x y:Int}:keq (.int .i64 x) (.int .i64 y)=some (decide (x=y)):=rfl
theorem z0A {x y:ByteArray}:keq (.string x) (.string y)=some (decide (bl x=bl y)):=rfl
theorem zIt {x y u v:Int}:keq (.agg #[.int .i64 x,.int .i64 y]) (.agg #[.int .i64 u,.int .i64 v])=some (decide ((x,y)=(u,v))):=by simp[keq,zBr]
theorem zL4 {op:BinOp} {t:TypeId} {c:Bool} {rows:List (List HV)}:zBJ P op t c (.sl rows) (.v (.slice none 0 0))=if zL P t 3=true∧rows.isEmpty=false then zCn op false else none:=rfl
theorem zN1 {op:BinOp} {t:TypeId} {c:Bool} {n q:Nat}:zBJ P op t c (.v (.slice none n q)) (.v (.slice none 0 0))=if zL P t 3=true then zCn op true else none:=rfl
theorem zL3 {op:BinOp} {t:TypeId} {c:Bool} {a:Addr} {n q:Nat}:zBJ P op t c (.v (.slice (some a) n q)) (.v (.slice none 0 0))=if zL P t 3=true then zCn op false else none:=rfl
theorem zJt {a:Addr} {c:Nat}:zAW H (.v (.slice (some a) 0 c))=some []:=rfl
theorem zXS {f:Nat} (h:f<4294967296):hev T (.func f)=.fn f []:=if_pos h
theorem zT3 {x:Value}:hev T (.const x)=cHV x:=rfl
theorem z2G {h:HV} {t:List HV}:T0 (h::t) 0=h:=rfl
theorem z2H {h:HV} {t:List HV} {i:Nat}:T0 (h::t) (i+1)=T0 t i:=by simp[T0]
theorem z4t {i:Nat}:T0 [] i=.any:=rfl
theorem zXs {x:Operand}:exO k P all d (.move x) l r T H=exR k (rv H True (hev T x)) all d l r T:=rfl
theorem zQf {x:Operand}:exO k P all d (.assign x) l r T H=exR k (rv H True (hev T x)) all d l r T:=rfl
theorem zXr {c x y:Operand}:exO k P all d (.pick c x y) l r T H=exR k (zHL H (hev T c) (hev T x) (hev T y)) all d l r T:=rfl
theorem zU1 {t:TypeId}:exO k P all d (.alloc t) l r T H=exR k (zHi P H t) all d l r T:=rfl
theorem z1i {t:TypeId} {x:Operand}:exO k P all d (.box t x) l r T H=exR k (rbox P H t (hev T x)) all d l r T:=rfl
theorem zU0 {t:TypeId} {ps:List (Nat×Operand)}:exO k P all d (.build t (List.toArray ps)) l r T H=exR k (zGM P H t (ps.map fun p=>(p.1,hev T p.2))) all d l r T:=rfl
theorem zH0 {t:TypeId} {len:Nat} {ps:List (Nat×Operand)}:exO k P all d (.buildSlice t len (List.toArray ps)) l r T H=exR k (zAx P T H t len ps) all d l r T:=rfl
theorem zXu {t:TypeId} {a:Operand}:exO k P all d (.load t a) l r T H=exR k (zKO P H t (hev T a)) all d l r T:=rfl
theorem zUV {t:TypeId} {a x:Operand}:exO k P all d (.store t a x) l r T H=exR k (zKH P H t (hev T a) (hev T x)) all d l r T:=rfl
theorem zKy {x:Operand}:exO k P all d (.nilCheck x) l r T H=exR k (zGE H (hev T x)) all d l r T:=rfl
theorem z1j {op:BinOp} {t t' : TypeId} {x y:Operand}:exO k P all d (.binOp op t x y t') l r T H=exR k (rbin P H op t (isC x || isC y) (hev T x) (hev T y)) all d l r T:=rfl
theorem z47 {op:UnOp} {t:TypeId} {x:Operand}:exO k P all d (.unOp op t x) l r T H=exR k (run1 H op (hev T x)) all d l r T:=rfl
theorem zXx {s t:TypeId} {x:Operand}:exO k P all d (.convert s t x) l r T H=exR k (zEK P H s t (hev T x)) all d l r T:=rfl
theorem zUX {t:TypeId} {x:Operand}:exO k P all d (.makeInterface t x) l r T H=exR k (zGJ P H t (hev T x)) all d l r T:=rfl
theorem zXv {f:Nat} {cs:List Operand}:exO k P all d (.makeFunc (.func f) #[] (List.toArray cs)) l r T H=exR k (rv H (f<4294967296) (.fn f (cs.map (hev T)))) all d l r T:=rfl
theorem zXt {f:Nat} {x:Operand} {cs:List Operand}:exO k P all d (.makeFunc (.func f) (List.toArray [x]) (List.toArray cs)) l r T H=exR k (rv H True (.fn (f+4294967296) (hev T x::cs.map (hev T)))) all d l r T:=rfl
theorem zJI {t:TypeId} {x y:Operand}:exO k P all d (.makeSlice t x y) l r T H=exR k (zCP P H t (hev T x) (hev T y)) all d l r T:=rfl
theorem zQc {t:TypeId} {x lo hi:Operand}:exO k P all d (.slice t x (some lo) (some hi) none) l r T H=exR k (rcut P H t (hev T x) (some (hev T lo)) (some (hev T hi))) all d l r T:=rfl
theorem zQ9 {t:TypeId} {x lo:Operand}:exO k P all d (.slice t x (some lo) none none) l r T H=exR k (zMZ P H t (hev T x) (hev T lo)) all d l r T:=rfl
theorem zQb {t:TypeId} {x:Operand}:exO k P all d (.slice t x none none none) l r T H=exR k (rcut P H t (hev T x) none none) all d l r T:=rfl
theorem zQa {t:TypeId} {x hi:Operand}:exO k P all d (.slice t x none (some hi) none) l r T H=exR k (zP8 P H t (hev T x) (hev T hi)) all d l r T:=rfl
theorem zW2 {t:TypeId} {id len:Nat} {h:HV}:zP8 P H t (.hd id 0 len) h=zF (zO P t 3) fun e=>zF (zA5 (some h) 0) fun y=>zF (getO H id) fun ob =>
   some (len=ob.rows.length∧ob.sz=e.2.2.size∧0≤y∧y≤(len:Int),.hd H.length 0 y.toNat,H.set id none++[some { ob with rows:=ob.rows.take y.toNat }]):=rfl
theorem zW1 {t:TypeId} {rows:List (List HV)} {h:HV}:zP8 P H t (.sl rows) h=rcut P H t (.sl rows) none (some h):=rfl
theorem zS2 {t:TypeId} {a:List UInt8} {h:HV}:zP8 P H t (.v (str a)) h=rcut P H t (.v (str a)) none (some h):=rfl
theorem zJK {t:TypeId} {x:Operand} {i:Nat}:exO k P all d (.fieldAddr t x i) l r T H=exR k (zBf P H t (hev T x) i) all d l r T:=rfl
theorem zUY {t:TypeId} {x:Operand} {i:Nat}:exO k P all d (.field t x i) l r T H=exR k (zEJ P H t (hev T x) i) all d l r T:=rfl
theorem zJJ {t:TypeId} {x i:Operand}:exO k P all d (.indexAddr t x i) l r T H=exR k (zA7 P H t (hev T x) (hev T i)) all d l r T:=rfl
theorem zUW {t:TypeId} {x i:Operand}:exO k P all d (.index t x i) l r T H=exR k (zD2 P H t (hev T x) (hev T i)) all d l r T:=rfl
theorem zNB {x:Operand} {i:Nat}:exO k P all d (.extract x i) l r T H=exR k (zBa H (hev T x) i) all d l r T:=rfl
theorem z1h {x:Operand} {t:TypeId}:exO k P all d (.call { callee:=.builtin .len,args:=#[x],argTypes:=#[t] }) l r T H=exR k (rlen P H t (hev T x)) all d l r T:=rfl
theorem zQg {s x:Operand} {t:TypeId}:exO k P all d (.call { callee:=.builtin .append,args:=#[s,x],argTypes:=#[t,t] }) l r T H=exR k (zCv P H t (hev T s) (hev T x)) all d l r T:=by
 show exR k (if t=t then zCv P H t (hev T s) (hev T x) else none) all d l r T=_
 rw[if_pos rfl]
theorem zMs:ex P N L Q (n+1) (.quiet all []::r) T H=ex P N L Q n r T H:=rfl
theorem zTq {op:Op} {ty:TypeId} {pos:String} {af:Array Edge}:ex P N L Q (n+1) (.quiet all (⟨d,op,ty,pos,af,none⟩::l)::r) T H=exOq (ex P N L Q n) P all d op l r T H:=rfl
theorem zTp {op:Op} {ty:TypeId} {pos:String} {af:Array Edge} {j:Nat} {b:Bool}:ex P N L Q (n+1) (.quiet all (⟨d,op,ty,pos,af,some (j,b)⟩::l)::r) T H=exBq (ex P N L Q n) P (zA8 all j) b all d op l r T H:=rfl
theorem zTv:exRq k none all d l r T H=False:=rfl
theorem zUd {t:Nat} {b:Bool} {op:Op}:exBq k P (some t) b all d op l r T H=zDo k P (T t) t b all d op l r T H:=rfl
theorem zYD {t:Nat} {op:Op}:zDo k P (.v (.bool true)) t true all d op l r T H=exOq k P all d op l r T H:=by simp[zDo]
theorem zYE {t:Nat} {op:Op}:zDo k P (.v (.bool false)) t false all d op l r T H=exOq k P all d op l r T H:=by simp[zDo]
theorem zUD {x:Operand}:exOq k P all d (.move x) l r T H=exRq k (ropQ P T H (.move x)) all d l r T H:=rfl
theorem zMv {x:Operand}:exOq k P all d (.assign x) l r T H=exRq k (ropQ P T H (.assign x)) all d l r T H:=rfl
theorem zUC {c x y:Operand}:exOq k P all d (.pick c x y) l r T H=exRq k (ropQ P T H (.pick c x y)) all d l r T H:=rfl
theorem zQ0 {t:TypeId} {ps:Array (Nat×Operand)}:exOq k P all d (.build t ps) l r T H=exRq k (ropQ P T H (.build t ps)) all d l r T H:=rfl
theorem zUF {t:TypeId} {a:Operand}:exOq k P all d (.load t a) l r T H=exRq k (ropQ P T H (.load t a)) all d l r T H:=rfl
theorem zJF {x:Operand}:exOq k P all d (.nilCheck x) l r T H=exRq k (ropQ P T H (.nilCheck x)) all d l r T H:=rfl
theorem zXl {op:BinOp} {t t' : TypeId} {x y:Operand}:exOq k P all d (.binOp op t x y t') l r T H=exRq k (ropQ P T H (.binOp op t x y t')) all d l r T H:=rfl
theorem z1d {op:UnOp} {t:TypeId} {x:Operand}:exOq k P all d (.unOp op t x) l r T H=exRq k (ropQ P T H (.unOp op t x)) all d l r T H:=rfl
theorem zUH {s t:TypeId} {x:Operand}:exOq k P all d (.convert s t x) l r T H=exRq k (ropQ P T H (.convert s t x)) all d l r T H:=rfl
theorem zQY {t:TypeId} {x:Operand}:exOq k P all d (.makeInterface t x) l r T H=exRq k (ropQ P T H (.makeInterface t x)) all d l r T H:=rfl
theorem zUE {f:Nat} {x:Operand} {cs:List Operand}:exOq k P all d (.makeFunc (.func f) (List.toArray [x]) (List.toArray cs)) l r T H=exRq k (ropQ P T H (.makeFunc (.func f) (List.toArray [x]) (List.toArray cs))) all d l r T H:=rfl
theorem zUG {f:Nat} {cs:List Operand}:exOq k P all d (.makeFunc (.func f) #[] (List.toArray cs)) l r T H=exRq k (ropQ P T H (.makeFunc (.func f) #[] (List.toArray cs))) all d l r T H:=rfl
theorem zQW {t:TypeId} {x:Operand} {lo hi:Option Operand}:exOq k P all d (.slice t x lo hi none) l r T H=exRq k (ropQ P T H (.slice t x lo hi none)) all d l r T H:=rfl
theorem zHV {t:TypeId} {x:Operand} {i:Nat}:exOq k P all d (.fieldAddr t x i) l r T H=exRq k (ropQ P T H (.fieldAddr t x i)) all d l r T H:=rfl
theorem zQZ {t:TypeId} {x:Operand} {i:Nat}:exOq k P all d (.field t x i) l r T H=exRq k (ropQ P T H (.field t x i)) all d l r T H:=rfl
theorem zHU {t:TypeId} {x i:Operand}:exOq k P all d (.indexAddr t x i) l r T H=exRq k (ropQ P T H (.indexAddr t x i)) all d l r T H:=rfl
theorem zQX {t:TypeId} {x i:Operand}:exOq k P all d (.index t x i) l r T H=exRq k (ropQ P T H (.index t x i)) all d l r T H:=rfl
theorem zKs {x:Operand} {i:Nat}:exOq k P all d (.extract x i) l r T H=exRq k (ropQ P T H (.extract x i)) all d l r T H:=rfl
theorem zKu {b:Builtin} {args:Array Operand} {tys:Array TypeId}:exOq k P all d (.call { callee:=.builtin b,args:=args,argTypes:=tys }) l r T H=exRq k (ropQ P T H (.call { callee:=.builtin b,args:=args,argTypes:=tys })) all d l r T H:=rfl
theorem zUI {f:Operand} {args:List Operand} {tys:Array TypeId}:exOq k P all d (.call { callee:=.value f,args:=List.toArray args,argTypes:=tys }) l r T H=zDl k P (hev T f) H (args.map (hev T)) all d l r T:=rfl
theorem zMu {rv:Operand} {name:String} {args:List Operand} {tys:Array TypeId}:exOq k P all d (.call { callee:=.invoke rv name,args:=List.toArray args,argTypes:=tys }) l r T H=zHz k P (hev T rv) name H (args.map (hev T)) all d l r T:=rfl
theorem zQe {rv:Operand} {name:String} {args:List Operand} {tys:Array TypeId}:exO k P all d (.call { callee:=.invoke rv name,args:=List.toArray args,argTypes:=tys }) l r T H=zJP k P (hev T rv) name H (args.map (hev T)) all d l r T:=rfl
theorem zQh {fid:Nat} {caps args:List HV} (h:fid<4294967296):zDl k P (.fn fid caps) H args all d l r T=zJU k P fid H (args++caps) all d l r T:=by
 show zJU k P (fnF fid) H (fnA fid .any args caps) all d l r T=_
 rw[zGb h,zFV h]
theorem zLJ {fid:Nat} {x:HV} {caps args:List HV} (h:¬fid<4294967296):zDl k P (.fn fid (x::caps)) H args all d l r T=zJU k P (fnF fid) H (x::(args++caps)) all d l r T:=by
 show zJU k P (fnF fid) H (fnA fid .any args (x::caps)) all d l r T=_
 rw[zGc h];rfl
theorem zXz {t:TypeId} {x:HV} {name:String} {args:List HV}:zJP k P (.ic t x) name H args all d l r T=zE2 k P (zAe P t name) H (x::args) all d l r T:=rfl
theorem zND {fid:Nat} {args:List HV}:zE2 k P (some fid) H args all d l r T=zFb k P fid H args all d l r T:=rfl
theorem zU2 {t:TypeId} {x:HV} {name:String} {args:List HV}:zHz k P (.ic t x) name H args all d l r T=zFF k P (zAe P t name) H (x::args) all d l r T:=rfl
theorem zLB {fid:Nat} {args:List HV}:zFF k P (some fid) H args all d l r T=zJU k P fid H args all d l r T:=rfl
theorem zJQ {f f' : HV} {args args' : List HV} (hf:f=f') (ha:args=args'):zDl k P f H args all d l r T=zDl k P f' H args' all d l r T:=by rw[hf,ha]
theorem zNC {f f' : HV} {name:String} {args args' : List HV} (hf:f=f') (ha:args=args'):zJP k P f name H args all d l r T=zJP k P f' name H args' all d l r T:=by rw[hf,ha]
theorem zLA {f f' : HV} {name:String} {args args' : List HV} (hf:f=f') (ha:args=args'):zHz k P f name H args all d l r T=zHz k P f' name H args' all d l r T:=by rw[hf,ha]
theorem zLG {f f' : Option Nat} {args args' : List HV} (hf:f=f') (ha:args=args'):zE2 k P f H args all d l r T=zE2 k P f' H args' all d l r T:=by rw[hf,ha]
theorem zJM {f f' : Option Nat} {args args' : List HV} (hf:f=f') (ha:args=args'):zFF k P f H args all d l r T=zFF k P f' H args' all d l r T:=by rw[hf,ha]
theorem zO7 {fid:Nat} {args args' : List HV} {R:HV} (n:Nat) (spec:HFn P fid args' R) (hargs:args.map (fz n H)=args') (hnz:nz R=true) (hfz:fzo R=R) (h:k (.quiet all l::r) (updO T d R) H):zJU k P fid H args all d l r T:=by
 subst hargs
 exact ⟨n,R,_,spec,.inl ⟨rfl,hnz⟩,by rw[hfz];exact h⟩
theorem zY1 {fid:Nat} {args args' : List HV} {R:HV} (spec:HFn P fid args' R) (hargs:args=args') (hnm:nmL 0 args=true) (h:k (.quiet all l::r) (updO T d (fzo R)) H):zJU k P fid H args all d l r T :=
 ⟨0,R,_,spec,.inr ⟨hargs,hnm⟩,h⟩
theorem zGh {t:TypeId} {len:Nat} {ps:List (Nat×Operand)}:exOq k P all d (.buildSlice t len (List.toArray ps)) l r T H=exRq k (zAE P T H t len ps) all d l r T H:=rfl
theorem z1g {x y:Operand} {t u:TypeId}:exO k P all d (.call { callee:=.builtin .max,args:=#[x,y],argTypes:=#[t,u] }) l r T H=exR k (rmm true H (hev T x) (hev T y)) all d l r T:=rfl
theorem z1f {x y:Operand} {t u:TypeId}:exO k P all d (.call { callee:=.builtin .min,args:=#[x,y],argTypes:=#[t,u] }) l r T H=exR k (rmm false H (hev T x) (hev T y)) all d l r T:=rfl
theorem zWL {x y:Operand} {t u:TypeId}:ropQ P T H (.call { callee:=.builtin .max,args:=#[x,y],argTypes:=#[t,u] })=rmm true H (hev T x) (hev T y):=rfl
theorem zWK {x y:Operand} {t u:TypeId}:ropQ P T H (.call { callee:=.builtin .min,args:=#[x,y],argTypes:=#[t,u] })=rmm false H (hev T x) (hev T y):=rfl
theorem zZ6 {i:IntKind} {x y:Int}:rmm true H (.v (.int i x)) (.v (.int i y))=rv H True (.v (.int i (if y > x then y else x))):=rfl
theorem zZ5 {i:IntKind} {x y:Int}:rmm false H (.v (.int i x)) (.v (.int i y))=rv H True (.v (.int i (if y<x then y else x))):=rfl
def zS6 (P:Program) (H:Heap) (s t:TypeId) (a:List UInt8):Bool→Res
 | true=>zF (zO P t 3) fun e=>rv H (zL P s 4=true∧zAi P e.2.1=some .u8∧a.length≤140737488355328) (.sl (a.map zDr))
 | false=>zCu P H s t (.v (str a))
theorem zM0 {s t:TypeId} {a:List UInt8}:zS6 P H s t a true=zF (zO P t 3) fun e=>rv H (zL P s 4=true∧zAi P e.2.1=some .u8∧a.length≤140737488355328) (.sl (a.map zDr)):=rfl
theorem zKQ {s t:TypeId} {a:List UInt8}:zS6 P H s t a false=zCu P H s t (.v (str a)):=rfl
theorem zP9 {s t:TypeId} {a:List UInt8}:zEK P H s t (.v (str a))=zS6 P H s t a (zL P t 3):=by
 unfold zEK str
 dsimp only
 cases zL P t 3 <;> rfl
theorem zPb {s t:TypeId} {i:IntKind} {x:Int}:zEK P H s t (.v (.int i x))=zCu P H s t (.v (.int i x)):=rfl
theorem zS8 {s t:TypeId} {id o m:Nat}:zEK P H s t (.hd id o m)=zCu P H s t (.hd id o m):=rfl
theorem zS7 {s t:TypeId} {rows:List (List HV)}:zEK P H s t (.sl rows)=zCu P H s t (.sl rows):=rfl
theorem zPa {s t:TypeId}:zEK P H s t (.v (.slice none 0 0))=zCu P H s t (.v (.slice none 0 0)):=rfl
theorem zW4 {t:TypeId} {id m:Nat} {lo:HV}:zMZ P H t (.pt id m 0 0) lo=zF (zRI P t) fun m'=>zF (zA5 (some lo) 0) fun z=>zF (getO H id) fun ob=>zF (zOG ob.rows) fun row =>
   some (m=1∧row.length=m'∧m'≤140737488355328∧0≤z∧z≤(m' : Int),.sl (((fzoL row).map fun c=>[c]).drop z.toNat),H.set id none):=rfl
theorem zS3 {t:TypeId} {a:List UInt8} {lo:HV}:zMZ P H t (.v (str a)) lo=rcut P H t (.v (str a)) (some lo) none:=rfl
theorem zW5 {t:TypeId} {id o m:Nat} {lo:HV}:zMZ P H t (.hd id o m) lo=rcut P H t (.hd id o m) (some lo) none:=rfl
theorem zW3 {t:TypeId} {rows:List (List HV)} {lo:HV}:zMZ P H t (.sl rows) lo=rcut P H t (.sl rows) (some lo) none:=rfl
theorem zPm {r' : List HV}:zOG [r']=some r':=rfl
theorem zUw {op:BinOp} {t:TypeId} {c:Bool} {a b:List HV}:zBJ P op t c (.ag a) (.ag b)=(zBP P t).bind fun ks=>(eqK ks a b).bind fun r=>zCn op r:=rfl
theorem z1q:eqK [] [] []=some true:=rfl
theorem z1r {ks:List Nat} {i:IntKind} {x y:Int} {a b:List HV}:eqK (8::ks) (.v (.int i x)::a) (.v (.int i y)::b)=(eqK ks a b).map fun r=>decide (x=y) && r:=by simp[eqK]
theorem z1p {ks:List Nat} {x y:List UInt8} {a b:List HV}:eqK (4::ks) (.v (str x)::a) (.v (str y)::b)=(eqK ks a b).map fun r=>decide (x=y) && r:=rfl
theorem zYM {ks:List Nat} {x y:Bool} {a b:List HV}:eqK (7::ks) (.v (.bool x)::a) (.v (.bool y)::b)=(eqK ks a b).map fun r=>decide (x=y) && r:=by simp[eqK]
theorem zMc {α:Type} {b:List α}:List.append [] b=b:=rfl
theorem zK6 {α:Type} {x:α} {a b:List α}:List.append (x::a) b=x::List.append a b:=rfl
theorem zLO {b:Nat}:zAc b (.quiet all l::r)=zAc b r:=rfl
theorem zSE {x:Operand}:ropQ P T H (.move x)=rv H True (hev T x):=rfl
theorem zMU {x:Operand}:ropQ P T H (.assign x)=rv H True (hev T x):=rfl
theorem zSD {c x y:Operand}:ropQ P T H (.pick c x y)=zHL H (hev T c) (hev T x) (hev T y):=rfl
theorem zP2 {t:TypeId} {ps:List (Nat×Operand)}:ropQ P T H (.build t (List.toArray ps))=zGM P H t (ps.map fun p=>(p.1,hev T p.2)):=rfl
theorem zSG {t:TypeId} {a:Operand}:ropQ P T H (.load t a)=zF (ti P t) fun x=>zGH x H (hev T a):=rfl
theorem zI9 {x:Operand}:ropQ P T H (.nilCheck x)=zGE H (hev T x):=rfl
theorem zWN {op:BinOp} {t t' : TypeId} {x y:Operand}:ropQ P T H (.binOp op t x y t')=rbin P H op t (isC x || isC y) (hev T x) (hev T y):=rfl
theorem zZ2 {op:UnOp} {t:TypeId} {x:Operand}:ropQ P T H (.unOp op t x)=run1 H op (hev T x):=rfl
theorem zSI {s t:TypeId} {x:Operand}:ropQ P T H (.convert s t x)=zCu P H s t (hev T x):=rfl
theorem zP0 {t:TypeId} {x:Operand}:ropQ P T H (.makeInterface t x)=zGJ P H t (hev T x):=rfl
theorem zPY {t:TypeId} {x:Operand} {lo hi:Option Operand}:ropQ P T H (.slice t x lo hi none)=rcut P H t (hev T x) (lo.map (hev T)) (hi.map (hev T)):=rfl
theorem zHN {t:TypeId} {x:Operand} {i:Nat}:ropQ P T H (.fieldAddr t x i)=zBf P H t (hev T x) i:=rfl
theorem zP1 {t:TypeId} {x:Operand} {i:Nat}:ropQ P T H (.field t x i)=zEJ P H t (hev T x) i:=rfl
theorem zHM {t:TypeId} {x i:Operand}:ropQ P T H (.indexAddr t x i)=zA7 P H t (hev T x) (hev T i):=rfl
theorem zPZ {t:TypeId} {x i:Operand}:ropQ P T H (.index t x i)=zD2 P H t (hev T x) (hev T i):=rfl
theorem zKI {x:Operand} {i:Nat}:ropQ P T H (.extract x i)=zBa H (hev T x) i:=rfl
theorem zWM {x:Operand} {t:TypeId}:ropQ P T H (.call { callee:=.builtin .len,args:=#[x],argTypes:=#[t] })=rlen P H t (hev T x):=rfl
theorem zPX {x y:HV}:zHL H (.v (.bool true)) x y=rv H True x:=rfl
theorem zMS {x y:HV}:zHL H (.v (.bool false)) x y=rv H True y:=rfl
theorem zWE {b:Bool}:run1 H .not (.v (.bool b))=rv H True (.v (.bool (!b))):=rfl
theorem zWF {i:IntKind} {z:Int}:run1 H .neg (.v (.int i z))=rv H True (.v (.int i (i.wrap (0-z)))):=rfl
theorem zMY {vs:List HV} {i:Nat}:zBa H (.tu vs) i=zF vs[i]? fun v=>rv H True v:=rfl
theorem zS5 {s t:TypeId} {i:IntKind} {z:Int}:zCu P H s t (.v (.int i z))=zF (zAi P s) fun _=>zF (zAi P t) fun k'=>rv H True (.v (.int k' (k'.wrap z))):=rfl
theorem zS4 {s t:TypeId} {a:List UInt8}:zCu P H s t (.v (str a))=rv H (zL P s 4=true∧zL P t 4=true) (.v (str a)):=rfl
theorem zW9 {s t:TypeId} {id o len:Nat}:zCu P H s t (.hd id o len)=zF (zO P s 3) fun e=>zF (zAW H (.hd id o len)) fun rows=>zF (zB4 rows) fun l=>rv H (zAi P e.2.1=some .u8∧zL P t 4=true) (.v (str l)):=rfl
theorem zW8 {s t:TypeId} {rows:List (List HV)}:zCu P H s t (.sl rows)=zF (zO P s 3) fun e=>zF (zAW H (.sl rows)) fun rows=>zF (zB4 rows) fun l=>rv H (zAi P e.2.1=some .u8∧zL P t 4=true) (.v (str l)):=rfl
theorem zWI {rows:List (List HV)} {i o:Nat}:zGE H (.fp rows i o)=rv H True (.fp rows i o):=rfl
theorem zWG {id m i o:Nat}:zGE H (.pt id m i o)=rv H (zB7 H (.pt id m i o)=true) (.pt id m i o):=rfl
theorem zWJ {f:Nat} {cs:List HV}:zGE H (.fn f cs)=rv H True (.fn f cs):=rfl
theorem zWH {t:TypeId} {x:HV}:zGE H (.ic t x)=rv H True (.ic t x):=rfl
theorem zSw {rows:List (List HV)} {i o:Nat}:zB7 H (.fp rows i o)=true:=rfl
theorem zSv {id m i o:Nat}:zB7 H (.pt id m i o)=(match getO H id with | some ob=>m == ob.rows.length && ob.rows.length != 0 | none=>false):=by
 simp only[zB7,getO]
 cases h:H[id]? with
 | none=>rfl
 | some o'=>cases o' <;> rfl
theorem zSR {cs:List HV} {t:TypeId} {i:Nat}:zEJ P H t (.ag cs) i=zF (zM P t i) fun f=>rv H (okTI f.2=true∧f.1+f.2.size≤cs.length) (mkV f.2 ((cs.drop f.1).take f.2.size)):=rfl
theorem zIe {rows:List (List HV)} {t:TypeId} {i:IntKind} {z:Int}:zA7 P H t (.sl rows) (.v (.int i z))=zF (zO P t 3) fun e=>rv H (0≤z∧z<(rows.length:Int)∧z2 rows e.2.2.size) (.fp rows z.toNat 0):=rfl
theorem zIg {id o len:Nat} {t:TypeId} {i:IntKind} {z:Int}:zA7 P H t (.hd id o len) (.v (.int i z))=zF (zO P t 3) fun e=>zF (getO H id) fun ob=>rv H (o+len=ob.rows.length∧ob.sz=e.2.2.size∧0≤z∧z<(len:Int)) (.pt id ob.rows.length (o+z.toNat) 0):=rfl
theorem zIf {id m r' o:Nat} {t:TypeId} {i:IntKind} {z:Int}:zA7 P H t (.pt id m r' o) (.v (.int i z))=zF (zO P t 2) fun e=>rv H (zB7 H (.pt id m r' o)=true∧0≤z∧z<(e.1.num:Int)) (.pt id m r' (o+z.toNat*e.2.2.size)):=rfl
theorem zIh {rows:List (List HV)} {j o:Nat} {t:TypeId} {i:IntKind} {z:Int}:zA7 P H t (.fp rows j o) (.v (.int i z))=zF (zO P t 2) fun e=>rv H (0≤z∧z<(e.1.num:Int)) (.fp rows j (o+z.toNat*e.2.2.size)):=rfl
theorem zP4 {a:List UInt8} {t:TypeId} {i:IntKind} {z:Int}:zD2 P H t (.v (str a)) (.v (.int i z))=zF a[z.toNat]? fun b=>rv H (zL P t 4=true∧0≤z) (.v (.int .u8 (b.toNat:Int))):=rfl
theorem zSQ {cs:List HV} {t:TypeId} {i:IntKind} {z:Int}:zD2 P H t (.ag cs) (.v (.int i z))=zF (zO P t 2) fun e=>rv H (okTI e.2.2=true∧0≤z∧z<(e.1.num:Int)∧z.toNat*e.2.2.size+e.2.2.size≤cs.length) (mkV e.2.2 ((cs.drop (z.toNat*e.2.2.size)).take e.2.2.size)):=rfl
theorem z2A {z:Int}:zA5 none z=some z:=rfl
theorem z4k {i:IntKind} {y z:Int}:zA5 (some (.v (.int i y))) z=some y:=rfl
theorem zMr (a:List UInt8) (i j:Nat):Value.string ((⟨a.toArray⟩:ByteArray).extract i j)=str ((a.take j).drop i):=by
 unfold str
 congr 1
 apply ByteArray.ext
 apply Array.ext'
 simp[ByteArray.data_extract,List.extract_eq_take_drop,List.drop_take]
theorem zW0 {a:List UInt8} {t:TypeId} {lo hi:Option HV}:rcut P H t (.v (str a)) lo hi=zF (zA5 lo 0) fun x=>zF (zA5 hi (a.length:Int)) fun y=>rv H (zL P t 4=true∧0≤x∧x≤y∧y≤(a.length:Int)) (.v (str ((a.take y.toNat).drop x.toNat))):=by
 have e:∀x y:Nat,Value.string ((⟨a.toArray⟩:ByteArray).extract x y)=str ((a.take y).drop x):=zMr a
 have e2:(⟨a.toArray⟩:ByteArray).size=a.length:=by simp[ByteArray.size]
 show zF (zA5 lo 0) (fun x=>zF (zA5 hi ((⟨a.toArray⟩:ByteArray).size:Int)) fun y=>rv H (zL P t 4=true∧0≤x∧x≤y∧y≤((⟨a.toArray⟩:ByteArray).size:Int)) (.v (.string ((⟨a.toArray⟩:ByteArray).extract x.toNat y.toNat))))=_
 rw[e2]
 simp only[e]
theorem zZg {rows:List (List HV)} {t:TypeId} {lo hi:Option HV}:rcut P H t (.sl rows) lo hi=zF (zO P t 3) fun e=>zF (zA5 lo 0) fun l=>zF (zA5 hi (rows.length:Int)) fun h=>rv H (z2 rows e.2.2.size∧0≤l∧l≤h∧h≤(rows.length:Int)) (.sl ((rows.drop l.toNat).take (h.toNat-l.toNat))):=rfl
theorem zZh {id o len:Nat} {t:TypeId} {lo hi:Option HV}:rcut P H t (.hd id o len) lo hi=zF (zO P t 3) fun e=>zF (zA5 lo 0) fun l=>zF (zA5 hi (len:Int)) fun h=>zF (getO H id) fun ob =>
   rv H (o+len=ob.rows.length∧ob.sz=e.2.2.size∧0≤l∧l≤h∧h=(len:Int)) (.hd id (o+l.toNat) (len-l.toNat)):=rfl
theorem zWP {a:List UInt8} {t:TypeId}:rlen P H t (.v (str a))=rv H (zL P t 4=true) (.v (.int .i64 (a.length:Int))):=by
 have e2:(⟨a.toArray⟩:ByteArray).size=a.length:=by simp[ByteArray.size]
 show rv H (zL P t 4=true) (.v (.int .i64 ((⟨a.toArray⟩:ByteArray).size:Int)))=_
 rw[e2]
theorem zWQ {t:TypeId}:rlen P H t (.v (.slice none 0 0))=rv H (zL P t 3=true) (.v (.int .i64 0)):=rfl
theorem zZ7 {rows:List (List HV)} {t:TypeId}:rlen P H t (.sl rows)=rv H (zL P t 3=true) (.v (.int .i64 (rows.length:Int))):=rfl
theorem zZ8 {id o len:Nat} {t:TypeId}:rlen P H t (.hd id o len)=zF (getO H id) fun ob=>rv H (o+len=ob.rows.length∧zL P t 3=true) (.v (.int .i64 (len:Int))):=rfl
theorem zMX {x:TI} {ob:HObj} {row:List HV} {id m i o:Nat}:zHg x H ob row id m i o true=rv H (okTI x=true∧m=ob.rows.length∧o+x.size≤ob.sz) (mkV x ((row.drop o).take x.size)):=rfl
theorem zKM {x:TI} {ob:HObj} {row:List HV} {id m i o:Nat}:zHg x H ob row id m i o false=zF (if okTI x=true then some () else none) fun _=>zKL x (zD4 H id i o x.size) (.pt id m i o):=rfl
theorem zSM {x:TI} {id m i o:Nat}:zKN x H (.pt id m i o)=zF (getO H id) fun ob=>zF ob.rows[i]? fun row=>zHg x H ob row id m i o (tvs ((row.drop o).take x.size)):=rfl
theorem zSN {x:TI} {rows:List (List HV)} {i o:Nat}:zKN x H (.fp rows i o)=zF rows[i]? fun row=>rv H (okTI x=true∧o+x.size≤row.length∧tvs ((row.drop o).take x.size)=true) (mkV x ((row.drop o).take x.size)):=rfl
theorem zSL {x:TI} {id m r' o:Nat}:zKL x H (.pt id m r' o)=zF (getO H id) fun ob=>zF ob.rows[r']? fun row=>rv H (m=ob.rows.length∧o+x.size≤ob.sz∧tvs ((row.drop o).take x.size)=true) (mkV x ((row.drop o).take x.size)):=rfl
theorem zSJ {x:TI} {id m r' o:Nat}:zGH x H (.pt id m r' o)=zF (getO H id) fun ob=>zF ob.rows[r']? fun row=>rv H (okTI x=true∧m=ob.rows.length∧o+x.size≤ob.sz∧tvs ((row.drop o).take x.size)=true) (mkV x ((row.drop o).take x.size)):=rfl
theorem zSK {x:TI} {rows:List (List HV)} {i o:Nat}:zGH x H (.fp rows i o)=zF rows[i]? fun row=>rv H (okTI x=true∧o+x.size≤row.length∧tvs ((row.drop o).take x.size)=true) (mkV x ((row.drop o).take x.size)):=rfl
theorem zSB {t:TypeId} {id m r' o:Nat} {v:HV}:zKH P H t (.pt id m r' o) v=zF (ti P t) fun x=>zF (getO H id) fun ob=>zF ob.rows[r']? fun row =>
   some (m=ob.rows.length∧(zY v).length=x.size∧(zY v).all c1=true∧o+x.size≤ob.sz,.any,H.set id (some { ob with rows:=ob.rows.set r' (row.take o++zY v++row.drop (o+x.size)) })):=rfl
theorem zHO {t:TypeId} {i j:IntKind} {x y:Int}:zCP P H t (.v (.int i x)) (.v (.int j y))=zF (zO P t 3) fun e=>zF (zA e.2.2) fun cs =>
  some (0≤x∧x≤y∧(e.2.2.bytes:Int)*y≤281474976710656∧y≤9223372036854775807,.hd H.length 0 x.toNat,H++[some ⟨e.2.1,e.2.2.size,List.replicate x.toNat cs⟩]):=rfl
theorem zM1 {t:TypeId} {x:HV}:zCv P H t (.v (.slice none 0 0)) x=zF (zO P t 3) fun e=>zF (zAW H x) fun new =>
  some (e.2.2.size≠0∧(zA e.2.2).isSome=true∧tvs new.flatten=true∧z2 new e.2.2.size∧new.length≤140737488355328∧new.length*e.2.2.bytes≤140737488355328,.hd H.length 0 new.length,H++[some ⟨e.2.1,e.2.2.size,new⟩]):=rfl
theorem zPc {t:TypeId} {id len:Nat} {x:HV}:zCv P H t (.hd id 0 len) x=zF (zO P t 3) fun e=>zF (zAW H x) fun new=>zF (getO H id) fun ob =>
  some (e.2.2.size≠0∧(zA e.2.2).isSome=true∧tvs new.flatten=true∧z2 new e.2.2.size∧len=ob.rows.length∧ob.e=e.2.1∧ob.sz=e.2.2.size∧len+new.length≤140737488355328∧(len+new.length)*e.2.2.bytes≤140737488355328,
   .hd id 0 (len+new.length),H.set id (some { ob with rows:=ob.rows++new })):=rfl
theorem zMJ:zAW H (.v (.slice none 0 0))=some []:=rfl
theorem zPI {rows:List (List HV)}:zAW H (.sl rows)=some rows:=rfl
theorem zPJ {id o len:Nat}:zAW H (.hd id o len)=(getO H id).bind fun ob=>if o+len=ob.rows.length then some (ob.rows.drop o) else none:=by
 simp only[zAW,getO]
 cases h:H[id]? with
 | none=>rfl
 | some o'=>cases o' <;> rfl
theorem zRH {op:BinOp} {t:TypeId} {c:Bool} {i:IntKind} {x y:Int}:zBJ P op t c (.v (.int i x)) (.v (.int i y))=zB8 op i x y:=by simp[zBJ]
theorem zN4 {op:BinOp} {t:TypeId} {c:Bool} {x y:Bool}:zBJ P op t c (.v (.bool x)) (.v (.bool y))=if zL P t 7=true then zCn op (decide (x=y)) else none:=rfl
theorem zL5 {op:BinOp} {t u:TypeId} {c:Bool} {x:HV}:zBJ P op t c (.ic u x) (.v .nilIface)=if zL P t 9=true then zCn op false else none:=rfl
theorem zJW {op:BinOp} {t:TypeId} {c:Bool}:zBJ P op t c (.v .nilIface) (.v .nilIface)=if zL P t 9=true∧c=true then zCn op true else none:=rfl
theorem z3O {i:IntKind} {x y:Int}:zB8 .add i x y=some (.int i (i.wrap (x+y))):=rfl
theorem z3D {i:IntKind} {x y:Int}:zB8 .sub i x y=some (.int i (i.wrap (x-y))):=rfl
theorem z3I {i:IntKind} {x y:Int}:zB8 .mul i x y=some (.int i (i.wrap (x*y))):=rfl
theorem z3G {i:IntKind} {x y:Int}:zB8 .quo i x y=if y=0 then none else some (.int i (i.wrap (x.tdiv y))):=rfl
theorem z3F {i:IntKind} {x y:Int}:zB8 .rem i x y=if y=0 then none else some (.int i (x.tmod y)):=rfl
theorem z3N {i:IntKind} {x y:Int}:zB8 .eql i x y=some (.bool (decide (x=y))):=rfl
theorem z3H {i:IntKind} {x y:Int}:zB8 .neq i x y=some (.bool (!decide (x=y))):=rfl
theorem z3J {i:IntKind} {x y:Int}:zB8 .lss i x y=some (.bool (decide (x<y))):=rfl
theorem z3K {i:IntKind} {x y:Int}:zB8 .leq i x y=some (.bool (decide (x≤y))):=rfl
theorem z3L {i:IntKind} {x y:Int}:zB8 .gtr i x y=some (.bool (decide (y<x))):=rfl
theorem z3E {i:IntKind} {x y:Int}:zB8 .shr i x y=if y<0 then none else some (.int i (x.fdiv (2 ^ min y.toNat i.bits))):=rfl
theorem z3M {i:IntKind} {x y:Int}:zB8 .geq i x y=some (.bool (decide (y≤x))):=rfl
theorem z4b {b:Bool}:zCn .eql b=some (.bool b):=rfl
theorem z4a {b:Bool}:zCn .neq b=some (.bool (!b)):=rfl
theorem zN3 {t:TypeId} {c:Bool} {a b:List UInt8}:zBJ P .eql t c (.v (str a)) (.v (str b))=some (.bool (decide (a=b))):=rfl
theorem zN2 {t:TypeId} {c:Bool} {a b:List UInt8}:zBJ P .neq t c (.v (str a)) (.v (str b))=some (.bool (!decide (a=b))):=rfl
theorem zXj {t:TypeId} {c:Bool} {a b:List UInt8}:exR k (zF (zBJ P .add t c (.v (str a)) (.v (str b))) fun v=>rv H True (.v v)) all d l r T=(a.length+b.length≤9223372036854775807∧k (.ops all l::r) (updO T d (.v (str (a++b)))) H):=by
 have e1:(⟨a.toArray⟩:ByteArray).size=a.length:=by simp[ByteArray.size]
 have e2:(⟨b.toArray⟩:ByteArray).size=b.length:=by simp[ByteArray.size]
 have e3:(⟨a.toArray⟩:ByteArray)++(⟨b.toArray⟩:ByteArray)=⟨(a++b).toArray⟩:=by
  apply ByteArray.ext
  apply Array.ext'
  simp[ByteArray.data_append]
 have e4:zBJ P .add t c (.v (str a)) (.v (str b))=if a.length+b.length≤9223372036854775807 then some (str (a++b)) else none:=by
  show (if (⟨a.toArray⟩:ByteArray).size+(⟨b.toArray⟩:ByteArray).size≤9223372036854775807 then some (Value.string ((⟨a.toArray⟩:ByteArray)++(⟨b.toArray⟩:ByteArray))) else none)=_
  rw[e1,e2,e3];rfl
 rw[e4]
 by_cases h:a.length+b.length≤9223372036854775807
 ·simp only[h,if_true,zDS,true_and]
  show (True∧_)=_
  simp
 ·simp only[h,if_false,zFM,false_and]
  rfl
theorem zYO {res:List Nat} {L:Nat} {Q:HV→Heap→Prop}:endQ res L Q .ret T H=endP L Q (zAp L (retV res T) H):=rfl
theorem zNN {res:List Nat} {L:Nat} {Q:HV→Heap→Prop}:endQ res L Q .normal T H=endP L Q (zAp L (retV res T) H):=rfl
theorem zUi {Q:HV→Heap→Prop} {x:HV} {H:Heap}:endP 0 Q (x,H)=Q x []:=by simp[endP,nmH]
theorem zWR {i:Nat}:retV [i] T=T i:=rfl
theorem zWS:retV [] T=.tu []:=rfl
theorem zST {i j:Nat} {l:List Nat}:retV (i::j::l) T=.tu ((i::j::l).map T):=rfl
theorem zJ {fid:Nat} {args args' : List HV} {R:HV} {r:List Item} (n:Nat) (spec:HFn P fid args' R) (hargs:args.map (fz n H)=args') (hnz:nz R=true) (h:k (.ops all l::r) (updO T d (zAO R H).1) (zAO R H).2):zFb k P fid H args all d l r T:=by
 subst hargs
 refine ⟨_,HCalls.lend n spec (fun r hr=>by rw[hr];exact hnz),fun x H' hq _=>?_⟩
 obtain ⟨rfl,rfl⟩:=hq
 exact h
theorem z1x {i:IntKind} {z:Int}:cHV (.int i z)=.v (.int i z):=rfl
theorem zY3 {b:Bool}:cHV (.bool b)=.v (.bool b):=rfl
theorem zRG {a:List UInt8}:cHV (.string ⟨List.toArray a⟩)=.v (str a):=rfl
theorem zL0:cHV (.slice none 0 0)=.v (.slice none 0 0):=rfl
theorem zL1:cHV .nilIface=.v .nilIface:=rfl
theorem zNX:cHV .nilFunc=.v .nilFunc:=rfl
theorem z1y {cs:List Value}:cHV (.agg (List.toArray cs))=.ag (cs.map .v):=rfl
end
attribute [congr] zJQ zNC zLA zLG zJM zUB zQT zUh zQp zQm zNF zQl zLI
attribute [go_sem high] z2W z1n z1o zYK zYL zYD zYE zUe zUf zUb zQk z1b zTz z1c zUA zXi zNJ zLM
attribute [go_sem] zJt zIb zP3 zIa zKK zHP zW6 zS9 zSu zZH zRU zTH zTI zTG zIs zIt z0A zL4 zN1 zL3
attribute [go_sem] zQh zLJ zNE zTj zSH zSF zXz zND zU2 zLB zWL zWK zZ6 zZ5 zM0 zKQ zP9 zPb zS8 zS7 zPa zW4 zS3 zW5 zW3 zPm zUw z1q z1r z1p zYM z2N z2O zXB Int.toNat_natCast Bool.not_eq_true' Bool.not_eq_false'
 zUc zXk zUa zYJ zQq zRV zRW z2V z0O zXS zT3 z2G z2H z4t
 zW2 zW1 zS2
 zUi zWR zWS zST zAp zEr List.forall_mem_cons decide_true decide_false decide_eq_true_eq decide_eq_false_iff_not
 z1x zY3 zRG zL0 zL1 zNX z1y
 zDS zFM zT9 zTa rbin zGJ zBf zKO zHi rbox zGM zAx isC zTv zUd zNG zSE zMU zSD zP2 zSG zI9 zWN zZ2 zSI zP0 zPY zHN zP1 zHM zPZ zKI zWM zPX zMS zWE zWF zMY zS5 zS4 zW9 zW8 zWI zWG zWJ zWH zSw zSv zSR zIe zIg zIf zIh zP4 zSQ z2A z4k zW0 zZg zZh zWP zWQ zZ7 zZ8 zMX zKM zSM zSN zSL zSJ zSK zSB zHO zM1 zPc zMJ zPI zPJ zRH zN4 zL5 zJW z3O z3D z3I z3G z3F z3N z3H z3J z3K z3L z3M z3E z4b z4a zN3 zN2 zXj
 zNa zLf zH4 zAz Option.bind_some Option.bind_none Nat.zero_add Nat.add_zero false_implies false_and and_false not_false_eq_true not_true_eq_false Option.isSome_some zJA zGT tvs tv nmR nmL nm nmH nz nzL nzR
 true_and and_true if_true if_false true_implies forall_const Option.map_some Option.map_none List.map_cons List.map_nil List.cons_append List.nil_append List.length_cons List.length_nil
 List.getElem?_cons_zero List.getElem?_cons_succ List.set_cons_zero List.set_cons_succ List.take_succ_cons List.drop_succ_cons List.take_zero List.drop_zero List.take_nil List.drop_nil List.headD_cons zY Bool.not_true Bool.not_false Bool.or_true Bool.or_false Bool.true_or Bool.false_or
 zAO zDY mkV zMa okTI TI.agg
attribute [go_sem] fzo fzoL fzoR zAE
attribute [go_sem ↓] zGh zUI zMu zQe z1g z1f zMc zK6 zUD zMv zUC zQ0 zUF zJF zXl z1d zUH zQY zUG zUE zQW zHV zQZ zHU zQX zKs zKu zQs zQt zQv zNQ zNR zQu zLO z45 z16 zTr yB4 z43 z12 zXe z4Z zTo z18 zXf z15 z14 z40 z13 zXc zXd z17 zXy zXs zQf zXr zU1 z1i zU0 zH0 zXu zUV zKy z1j z47 zXx zUX zNA zQd zJH zKz zHZ zXw zUZ zXv zXt zJI zQc zQb zQa zQ9 zJK zUY zJJ zUW zNB z1h zQg zMs zTq zTp zVN z2M z2L z5E zQP zX5 zX4 z1X zYO zNN
end Go.Proofs.YtoknohandclcbaaGreat
