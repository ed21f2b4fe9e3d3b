/- Parts of the proof: HiW, HiX, HiMp, Ca, Sc, HiDf, Sd. -/
import Derived.Test.YtoknohandclcbaaGreatZb08
import Derived.RangeFuncNested
import Derived.Test.YtoknohandclcbaaGreatZb05
import Derived.Test.YtoknohandclcbaaGreatZb07
open Nat renaming reduceAdd → nA, reduceSub → nS, reduceMul → nM, reduceBEq → nB
open Int renaming reduceToNat → nT
set_option linter.unusedSectionVars false
set_option linter.unusedVariables false
set_option linter.unusedSimpArgs false
namespace Go.Proofs.YtoknohandclcbaaGreat
open Go.RowKit
mutual
theorem zM8 {m m' : Nat} (h:m≤m'):∀x:HV,nm m x=true→nm m' x=true
 | .hd ..,hx=>by simp only[nm,decide_eq_true_eq] at hx⊢;omega
 | .pt ..,hx=>by simp only[nm,decide_eq_true_eq] at hx⊢;omega
 | .mp _,hx=>by simp only[nm,decide_eq_true_eq] at hx⊢;omega
 | .yl _,hx=>by simp only[nm,decide_eq_true_eq] at hx⊢;omega
 | .ag cs,hx=>by simp only[nm] at hx⊢;exact zEO h cs hx
 | .tu cs,hx=>by simp only[nm] at hx⊢;exact zEO h cs hx
 | .fn _ cs,hx=>by simp only[nm] at hx⊢;exact zEO h cs hx
 | .ic _ x,hx=>by simp only[nm] at hx⊢;exact zM8 h x hx
 | .any,_=>rfl
 | .v _,_=>rfl
 | .sl _,_=>rfl
 | .ow ..,_=>rfl
 | .fp ..,_=>rfl
 | .bx ..,_=>rfl
 | .ob _,_=>rfl
 | .om ..,_=>rfl
 | .gv _,_=>rfl
theorem zEO {m m' : Nat} (h:m≤m'):∀l:List HV,nmL m l=true→nmL m' l=true
 | [],_=>rfl
 | x::l,hx=>by
  simp only[nmL,Bool.and_eq_true] at hx⊢
  exact ⟨zM8 h x hx.1,zEO h l hx.2⟩
end
theorem zIp {m m' : Nat} (h:m≤m'):∀l:List (List HV),nmR m l=true→nmR m' l=true
 | [],_=>rfl
 | x::l,hx=>by
  simp only[nmR,Bool.and_eq_true] at hx⊢
  exact ⟨zEO h x hx.1,zIp h l hx.2⟩
def tvT (T:Nat→HV):Nat→HV:=fun i=>if tv (T i)=true then T i else .any
theorem z2X (T:Nat→HV) (i:Nat):tv (tvT T i)=true:=by
 unfold tvT
 split
 ·assumption
 ·rfl
theorem zRX {f:Nat→HV} (h:∀i,tv (f i)=true):∀l:List Nat,tvs (l.map f)=true
 | []=>rfl
 | a::l=>by simp only[List.map_cons,tvs,h a,zRX h l,Bool.and_self]
def recO (N:Nat) (T:Nat→HV) (r:Loop):HObj:=⟨0,N+1,[.ob (.loop { r with tmps:=#[] })::(List.range N).map (tvT T)]⟩
def zFw (T:Nat→HV):List Nat→List HV→Nat→HV
 | p::ps,h::hs=>zFw (upd T p h) ps hs
 | _,_=>T
section
variable {Z:Nat→Prop} {G:List (Option OG)} {FP:Nat→List Nat} {H:Heap} {w:World} {P:Program} {N:Nat} {T:Nat→HV}
theorem zHb:∀(ps:List Nat) (hs:List HV) (vs:List Value) (T:Nat→HV) (tm:Array Value),RL Z G w hs vs []→tm.size=N→(∀i,i<N→RV Z G w (T i) (tm.getD i undef) [])→
  ((ps.zip vs).foldl (fun t (p:Nat×Value)=>t.setIfInBounds p.1 p.2) tm).size=N∧∀i,i<N→RV Z G w (zFw T ps hs i) (((ps.zip vs).foldl (fun t (p:Nat×Value)=>t.setIfInBounds p.1 p.2) tm).getD i undef) []
 | [],hs,vs,T,tm,_,hsz,h=>by simp only[zFw,List.zip_nil_left,List.foldl_nil];exact ⟨hsz,h⟩
 | p::ps,[],vs,T,tm,hr,hsz,h=>by
  simp only[RL] at hr
  obtain ⟨rfl,_⟩:=hr
  simp only[zFw,List.zip_nil_right,List.foldl_nil];exact ⟨hsz,h⟩
 | p::ps,x::hs,vs,T,tm,hr,hsz,h=>by
  simp only[RL] at hr
  obtain ⟨y,ys,f1,f2,rfl,hf,h1,h2⟩:=hr
  obtain ⟨rfl,rfl⟩:=List.append_eq_nil_iff.1 hf.symm
  simp only[zFw,List.zip_cons_cons,List.foldl_cons]
  refine zHb ps hs ys (upd T p x) (tm.setIfInBounds p y) h2 (by simp[hsz]) (fun i hi=>?_)
  unfold upd
  by_cases e:i=p
  ·subst e
   rw[if_pos rfl]
   simpa [Array.getD_eq_getD_getElem?,hsz,hi] using h1
  ·rw[if_neg e]
   have:=h i hi
   simpa [Array.getD_eq_getD_getElem?,Array.getElem?_setIfInBounds_ne (Ne.symm e)] using this
theorem zOh {tm:Array Value} (hsz:tm.size=N) (h:∀i,i<N→RV Z G w (T i) (tm.getD i undef) []):RL Z G w ((List.range N).map T) tm.toList []:=by
 have key:∀(l:List Nat),(∀i∈l,i<N)→RL Z G w (l.map T) (l.map fun i=>tm.getD i undef) []:=by
  intro l
  induction l with
  | nil=>intro _;simp[RL]
  | cons a l ih =>
   intro hl
   simp only[List.map_cons,RL]
   exact ⟨_,_,[],[],rfl,rfl,h a (hl a (by simp)),ih (fun i hi=>hl i (by simp[hi]))⟩
 have e:tm.toList=(List.range N).map fun i=>tm.getD i undef:=by
  apply List.ext_getElem?
  intro i
  by_cases hi:i<N
  ·have h1:i<tm.size:=by omega
   simp[hi,h1]
  ·have h1:¬i<tm.size:=by omega
   simp[hi,h1]
 rw[e]
 exact key _ (fun i hi=>by simpa using hi)
theorem zLh {tm:Array Value} (h:RL Z G w ((List.range N).map T) tm.toList []):tm.size=N∧∀i,i<N→RV Z G w (T i) (tm.getD i undef) []:=by
 have hl:=zZ _ _ _ h
 have hsz:tm.size=N:=by simpa using hl
 refine ⟨hsz,fun i hi=>?_⟩
 obtain ⟨y,f,hy,hr,hsub⟩:=zOj _ _ _ h i (T i) (by simp[hi])
 have:f=[]:=List.eq_nil_of_sublist_nil hsub
 subst this
 have:tm.getD i undef=y:=by
  rw[Array.getElem?_toList] at hy
  simp[Array.getD_eq_getD_getElem?,hy]
 rw[this];exact hr
theorem zYp {Hi:Heap} {rc:Loop} (hi:HInv Z G FP (Hi++[some (recO N T rc)]) w) :
  ∃l tm,G[Hi.length]?=some (some ⟨none,0,N+1,1,l⟩)∧FP Hi.length=[l]∧w.heap[l]?=some (.loop { rc with tmps:=tm })∧RL Z G w ((List.range N).map (tvT T)) tm.toList []:=by
 obtain ⟨g,hg,hob⟩:=hi.live Hi.length (recO N T rc) (by simp)
 rcases hob.at_ with ⟨_,e,_⟩ | ⟨b,cells,f,_,_,_,_,_,_,e⟩ | ⟨x,hs,obj,f,e1,e2,e3,e4,e5,e6⟩
 ·simp[recO] at e
 ·simp only[recO,RR,RC,RV] at e
  obtain ⟨_,_,_,⟨_,_,_,_,_,_,h,_⟩,_⟩:=e
  exact h.elim
 ·simp only[recO,List.cons.injEq,HV.ob.injEq,and_true] at e2
  obtain ⟨rfl,rfl⟩:=e2
  have hf:f=[]:=zD9 _ _ _ (zRX (z2X T) _) e6
  subst hf
  obtain ⟨tm,rfl⟩:∃tm,obj=.loop { rc with tmps:=tm }:=by
   cases obj <;> simp[zOH] at e5
   rename_i r
   cases r;cases rc
   simp at e5
   simp[e5]
  have ge:g=⟨none,0,N+1,1,g.cap⟩:=by
   have h1:=hob.e;have h2:=hob.sz;have h3:=hob.n
   cases g
   simp[recO] at h1 h2 h3 e1
   simp[h1,h2,h3,e1]
  refine ⟨g.cap,tm,by rw[hg,←ge],e3,e4,e6⟩
theorem St.putRec {B:Nat} {ds:List Nat} {a:Act} {l:Nat} {r:Loop} {o' : Obj} (hs:St N B Z G FP ds T H a w) (hz:¬Z l) (hf:∀id,l∉FP id) (hl:w.heap[l]?=some (.loop r)):St N B Z G FP ds T H a (w.putObj l o'):=by
 have hk:∀b,b≠l→(w.putObj l o').heap[b]?=w.heap[b]?:=fun b hb=>World.putObj_heap_other hb
 refine ⟨hs.inv.keep (by simp) (fun b hb=>hk b ?_),hs.size,fun i hi=>RV.nil_keep (fun b hb=>hk b (fun e=>hz (e▸hb))) (fun _ h=>h) (GLe.refl _) (hs.tmps i hi),hs.defers,hs.dsn,fun d hd=>?_⟩
 ·rintro rfl
  rcases hb with hb | ⟨id,hb⟩
  ·exact hz hb
  ·exact hf id hb
 ·obtain ⟨h1,h2,h3,h4⟩:=hs.dsat d hd
  refine ⟨h1,(hk d ?_).trans h2,h3,h4⟩
  rintro rfl
  rw[hl] at h2;cases h2
def RQ (N L:Nat) (I:Heap→Prop) (X:Code→Heap→Prop):Exit→KS
 | .normal=>GQ N L fun _ H=>H.length=L∧I H
 | .ret=>GQ N L fun _ H=>H.length=L∧X .ret H
 | .exit i=>GQ N L fun _ H=>H.length=L∧X (.exit i) H
 | .goto t=>GQ N L fun _ H=>H.length=L∧X (.goto t) H
 | _=>fun _ _=>False
theorem zLk {Hi:Heap} {rc:Loop} {x:List HV} {I:Heap→Prop} {X:Code→Heap→Prop} (hr:rc.state=.ready) (hx:x.length=rc.params.size) (hnm:nmH Hi.length Hi=true) (hxn:nmL Hi.length x=true)
  (hT:∀i,i<N→nm Hi.length (tvT T i)=true)
  (round:HW P N Hi.length rc.assign (fin (HW P N Hi.length rc.body (RQ N Hi.length I X)) (fun _ _ _=>False)) (zFw (tvT T) rc.params.toList x) Hi) :
  HYield P Hi.length (Hi++[some (recO N T rc)]) x (fun b H'=>if b=true then ∃H2,H'=H2++[some (recO N T { rc with state:=.ready,pending:=none })]∧H2.length=Hi.length∧nmH Hi.length H2=true∧I H2
   else ∃H2 c,H'=H2++[some (recO N T { rc with state:=.done,pending:=some c })]∧H2.length=Hi.length∧nmH Hi.length H2=true∧X c H2):=by
 intro ro m Z G FP w l vals hi hy ha
 obtain ⟨l',tm,hg,hfp,hl,hrl⟩:=zYp hi
 simp only[RV] at hy
 obtain ⟨_,hlt,l2,hl2,hcap⟩:=hy
 cases hl2
 have hll:l=l':=(hcap _ hg).2 rfl rfl
 subst hll
 have hlen:=hi.len
 simp only[List.length_append,List.length_cons,List.length_nil] at hlen
 obtain ⟨hsz,htm⟩:=zLh hrl
 have hnm' : nmH Hi.length (Hi++[some (recO N T rc)])=true:=by
  have:(Hi++[some (recO N T rc)]).take Hi.length=Hi.take Hi.length:=by simp
  unfold nmH at hnm⊢
  rw[this];exact hnm
 have hic:=hi.trunc Hi.length hnm'
 rw[List.take_left] at hic
 have htm' : ∀i,i<N→RV Z (G.take Hi.length) w (tvT T i) (tm.getD i undef) []:=fun i hi'=>zBN _ _ G _ [] (hT i hi') (htm i hi')
 have hxr:RL Z (G.take Hi.length) w x vals []:=zAs _ _ G _ [] hxn ha
 have hvl:=zZ _ _ _ ha
 obtain ⟨hsz2,htm2⟩:=zHb rc.params.toList x vals (tvT T) tm hxr hsz htm'
 have efold:(rc.params.zip vals.toArray).foldl (fun tmps (t,a)=>tmps.setIfInBounds t a) tm=(rc.params.toList.zip vals).foldl (fun t (p:Nat×Value)=>t.setIfInBounds p.1 p.2) tm:=by
  rw[←Array.foldl_toList]
  simp[Array.toList_zip]
 obtain ⟨FPt,hFPt⟩:∃FPt:Nat→List Nat,FPt=fun j=>if j<Hi.length then FP j else []:=⟨_,rfl⟩
 rw[←hFPt] at hic
 have hlFP:∀id,l∉FPt id:=fun id hc=>by
  rw[hFPt] at hc
  by_cases e:id<Hi.length
  ·simp only[if_pos e] at hc
   have:=hi.disj id Hi.length l hc (by rw[hfp];simp)
   omega
  ·simp[e] at hc
 have hlZ:¬Z l:=hi.zfp Hi.length l (by rw[hfp];simp)
 have hlw:l<w.heap.size:=(Array.getElem?_eq_some_iff.1 hl).1
 have hst:St N 0 Z (G.take Hi.length) FPt [] (zFw (tvT T) rc.params.toList x) Hi { tmps:=(rc.params.zip vals.toArray).foldl (fun tmps (t,a)=>tmps.setIfInBounds t a) tm,defers:=[] } w:=by
  rw[efold]
  exact ⟨hic,hsz2,htm2,rfl,by simp,by simp⟩
 have hGl:(G.take Hi.length).length=Hi.length:=by simp;omega
 refine ⟨rc.fn,_,rc.assign,rc.body,run_yield (P:=P) (r:={ rc with tmps:=tm }) (args:=vals.toArray) hl (by simp[hvl,hx]),roundIn_of_wpIn trivial ?_⟩
 refine wpIn_mono (round (some l) m 0 Z _ FPt [] _ w ⟨Nat.zero_le _,fun l' e=>by cases e;exact ⟨_,hl,hlFP⟩⟩ (by rw[hGl];exact Nat.le_refl _) hst) ?_
 rintro e a1 w1 ⟨T1,H1,Z1,G1,FP1,ds1,hq,hs1,hG1,hE1⟩
 cases e with
 | normal =>
  have keepl:∀{Za Zb:Nat→Prop} {FPa FPb:Nat→List Nat} {wa wb:World} {ob:Obj},Evo Za FPa wa Zb FPb wb→wa.heap[l]?=some ob→¬Za l→(∀id,l∉FPa id)→wb.heap[l]?=some ob∧¬Zb l∧∀id,l∉FPb id:=by
   intro Za Zb FPa FPb wa wb ob hE h1 h2 h3
   have hlt:l<wa.heap.size:=(Array.getElem?_eq_some_iff.1 h1).1
   refine ⟨(hE.keep l hlt h3).trans h1,fun hc=>?_,fun id hc=>?_⟩
   ·rcases hE.znew l hc with k | k | ⟨id,k⟩
    ·exact h2 k
    ·omega
    ·exact h3 id k
   ·rcases hE.fnew id l hc with k | ⟨id',k⟩
    ·omega
    ·exact h3 id' k
  obtain ⟨hl1,hlZ1,hlF1⟩:=keepl hE1 hl hlZ hlFP
  refine ⟨_,run_beginRound hl1 hr,?_⟩
  have hs1':=hs1.putRec (o':=.loop { rc with tmps:=tm,state:=.busy }) hlZ1 hlF1 hl1
  have hl1' : (w1.putObj l (.loop { rc with tmps:=tm,state:=.busy })).heap[l]?=some (.loop { rc with tmps:=tm,state:=.busy }):=World.putObj_heap_same (Array.getElem?_eq_some_iff.1 hl1).1
  have hE1' : ∀b,b≠l→(w1.putObj l (.loop { rc with tmps:=tm,state:=.busy })).heap[b]?=w1.heap[b]?:=fun b hb=>World.putObj_heap_other hb
  refine wpIn_mono (hq (some l) m 0 Z1 G1 FP1 ds1 a1 _ ⟨Nat.zero_le _,fun l' e=>by cases e;exact ⟨_,hl1',hlF1⟩⟩ hG1.len hs1') ?_
  have fin:∀(jump:Option Code) (T3:Nat→HV) (H3:Heap) (Z3:Nat→Prop) (G3:List (Option OG)) (FP3:Nat→List Nat) (ds3:List Nat) (a3:Act) (w3:World),St N 0 Z3 G3 FP3 ds3 T3 H3 a3 w3→H3.length=Hi.length→GLt Hi.length G1 G3→
    Evo Z1 FP1 (w1.putObj l (.loop { rc with tmps:=tm,state:=.busy })) Z3 FP3 w3→(∀K:Bool→Heap→Prop,K jump.isNone (H3++[some (recO N T { rc with state:=if jump.isNone then .ready else .done,pending:=jump })])→
    ∃v w',(Instr.endRound l jump).run P w3=.ok v w'∧Post Z G FP (Hi++[some (recO N T rc)]) w (fun r H'=>∃b,r=.v (.bool b)∧K b H') (.returned v) w'):=by
   intro jump T3 H3 Z3 G3 FP3 ds3 a3 w3 hs3 hlen3 hG3 hE3 K hK
   obtain ⟨hl3,hlZ3,hlF3⟩:=keepl hE3 hl1' hlZ1 hlF1
   have hl3lt:=(Array.getElem?_eq_some_iff.1 hl3).1
   refine ⟨_,_,run_endRound jump hl3,?_⟩
   have hk4:∀b,b≠l→(w3.putObj l (.loop { rc with tmps:=tm,state:=if jump.isNone then .ready else .done,pending:=jump })).heap[b]?=w3.heap[b]?:=fun b hb=>World.putObj_heap_other hb
   have hs4:=hs3.putRec (o':=.loop { rc with tmps:=tm,state:=if jump.isNone then .ready else .done,pending:=jump }) hlZ3 hlF3 hl3
   have hG3l:G3.length=Hi.length:=hs3.inv.len.trans hlen3
   have hGt3:GLe (G.take Hi.length) G3:=by
    have:=hG1.trans hG3
    exact ⟨by omega,fun id hid=>this.at_ id (by omega)⟩
   have hZall:∀b,Z b→b≠l:=fun b hb e=>hlZ (e▸hb)
   have kept:∀b,b<w.heap.size→(∀id,b∉FPt id)→b≠l→(w3.putObj l (.loop { rc with tmps:=tm,state:=if jump.isNone then .ready else .done,pending:=jump })).heap[b]?=w.heap[b]?:=by
    intro b hb hf hne
    rw[hk4 b hne]
    have hf1:∀id,b∉FP1 id:=fun id hc=>by
     rcases hE1.fnew id b hc with k | ⟨id',k⟩
     ·omega
     ·exact hf id' k
    have hb1:b<(w1.putObj l (.loop { rc with tmps:=tm,state:=.busy })).heap.size:=by simp;exact Nat.lt_of_lt_of_le hb hE1.size
    exact ((hE3.keep b hb1 hf1).trans (hE1' b hne)).trans (hE1.keep b hb hf)
   have hZk:∀b,Z b→(w3.putObj l (.loop { rc with tmps:=tm,state:=if jump.isNone then .ready else .done,pending:=jump })).heap[b]?=w.heap[b]?:=fun b hb =>
    kept b (hi.zlt b hb) (fun id hc=>by
     rw[hFPt] at hc
     by_cases e:id<Hi.length
     ·simp only[if_pos e] at hc;exact hi.zfp id b hc hb
     ·simp[e] at hc) (hZall b hb)
   have hnew:=hs4.inv.new (w':=w3.putObj l (.loop { rc with tmps:=tm,state:=if jump.isNone then .ready else .done,pending:=jump })) (o:=recO N T { rc with state:=if jump.isNone then .ready else .done,pending:=jump }) (g:=⟨none,0,N+1,1,l⟩) (fp:=[l])
    (Nat.le_refl _) (fun _ _=>rfl) ⟨rfl,rfl,rfl,by simp[recO],.inr (.inr ⟨_,_,.loop { rc with tmps:=tm,state:=if jump.isNone then .ready else .done,pending:=jump },[],rfl,rfl,rfl,World.putObj_heap_same hl3lt,rfl,zOh hsz fun i hi' =>
     RV.nil_keep hZk (fun b hb=>hE3.zle b (hE1.zle b hb)) (hGt3.trans (GLe.more _)) (htm' i hi')⟩)⟩ (by simp) (by simp only[List.mem_singleton];rintro b rfl;exact ⟨hlZ3,by simpa using hl3lt,hlF3⟩)
   refine ⟨_,.v (.bool jump.isNone),_,Z3,_,_,[],rfl,⟨_,rfl,hK⟩,by simp[hlen3],hnew,by simp[RV],by simp,by simp,by simp,?_,⟨?_,?_,?_,?_,fun b hb hf=>?_,fun b hb=>hE3.zle b (hE1.zle b hb),fun b hb=>?_,fun j b hb=>?_⟩⟩
   ·refine ⟨by simp;omega,fun id hid=>?_⟩
    by_cases e:id<Hi.length
    ·rw[List.getElem?_append_left (by omega)]
     have k:=hGt3.at_ id (by omega)
     simp only[zAV (l:=G) e] at k
     exact k
    ·have:id=Hi.length:=by omega
     subst this
     right;left
     rw[hg,List.getElem?_append_right (by omega)]
     simp[hG3l]
   ·exact hE3.os.trans hE1.os
   ·exact hE3.tape.trans hE1.tape
   ·exact hE3.output.trans hE1.output
   ·have:=hE3.size;have:=hE1.size;simp only[World.putObj_size] at *;omega
   ·refine kept b hb (fun id hc=>?_) (fun e=>hf Hi.length (by rw[hfp,e];simp))
    rw[hFPt] at hc
    by_cases e:id<Hi.length
    ·simp only[if_pos e] at hc;exact hf id hc
    ·simp[e] at hc
   ·rcases hE3.znew b hb with k | k | ⟨id,k⟩
    ·rcases hE1.znew b k with k | k | ⟨id,k⟩
     ·exact .inl k
     ·exact .inr (.inl k)
     ·rw[hFPt] at k
      by_cases e:id<Hi.length
      ·simp only[if_pos e] at k;exact .inr (.inr ⟨id,k⟩)
      ·simp[e] at k
    ·simp only[World.putObj_size] at k
     exact .inr (.inl (Nat.le_trans hE1.size k))
    ·rcases hE1.fnew id b k with k | ⟨id',k⟩
     ·exact .inr (.inl k)
     ·rw[hFPt] at k
      by_cases e:id' < Hi.length
      ·simp only[if_pos e] at k;exact .inr (.inr ⟨id',k⟩)
      ·simp[e] at k
   ·by_cases e:j=H3.length
    ·simp only[if_pos e] at hb
     exact .inr ⟨Hi.length,by rw[hfp];exact hb⟩
    ·simp only[if_neg e] at hb
     rcases hE3.fnew j b hb with k | ⟨id,k⟩
     ·simp only[World.putObj_size] at k
      exact .inl (Nat.le_trans hE1.size k)
     ·rcases hE1.fnew id b k with k | ⟨id',k⟩
      ·exact .inl k
      ·rw[hFPt] at k
       by_cases e:id' < Hi.length
       ·simp only[if_pos e] at k;exact .inr ⟨id',k⟩
       ·simp[e] at k
  rintro e a2 w2 ⟨T2,H2,Z2,G2,FP2,ds2,hq2,hs2,hG2,hE2⟩
  cases e with
  | normal =>
   obtain ⟨T3,H3,gh,hlen3,hI⟩:=hq2
   obtain ⟨Z3,G3,FP3,hs3,hG3,hE3⟩:=gh 0 Z2 G2 FP2 ds2 a2 w2 hG2.len hs2
   have hnm3:=hs3.inv.nm
   rw[hlen3] at hnm3
   exact fin none T3 H3 Z3 G3 FP3 ds2 a2 w2 hs3 hlen3 (hG2.trans hG3) (hE2.trans hE3) _ (by simp only[Option.isNone_none,if_true];exact ⟨H3,rfl,hlen3,hnm3,hI⟩)
  | ret =>
   obtain ⟨T3,H3,gh,hlen3,hI⟩:=hq2
   obtain ⟨Z3,G3,FP3,hs3,hG3,hE3⟩:=gh 0 Z2 G2 FP2 ds2 a2 w2 hG2.len hs2
   have hnm3:=hs3.inv.nm
   rw[hlen3] at hnm3
   exact fin (some .ret) T3 H3 Z3 G3 FP3 ds2 a2 w2 hs3 hlen3 (hG2.trans hG3) (hE2.trans hE3) _ (by simp only[Option.isNone_some,Bool.false_eq_true,if_false];exact ⟨H3,_,rfl,hlen3,hnm3,hI⟩)
  | exit i =>
   obtain ⟨T3,H3,gh,hlen3,hI⟩:=hq2
   obtain ⟨Z3,G3,FP3,hs3,hG3,hE3⟩:=gh 0 Z2 G2 FP2 ds2 a2 w2 hG2.len hs2
   have hnm3:=hs3.inv.nm
   rw[hlen3] at hnm3
   exact fin (some (.exit i)) T3 H3 Z3 G3 FP3 ds2 a2 w2 hs3 hlen3 (hG2.trans hG3) (hE2.trans hE3) _ (by simp only[Option.isNone_some,Bool.false_eq_true,if_false];exact ⟨H3,_,rfl,hlen3,hnm3,hI⟩)
  | goto t =>
   obtain ⟨T3,H3,gh,hlen3,hI⟩:=hq2
   obtain ⟨Z3,G3,FP3,hs3,hG3,hE3⟩:=gh 0 Z2 G2 FP2 ds2 a2 w2 hG2.len hs2
   have hnm3:=hs3.inv.nm
   rw[hlen3] at hnm3
   exact fin (some (.goto t)) T3 H3 Z3 G3 FP3 ds2 a2 w2 hs3 hlen3 (hG2.trans hG3) (hE2.trans hE3) _ (by simp only[Option.isNone_some,Bool.false_eq_true,if_false];exact ⟨H3,_,rfl,hlen3,hnm3,hI⟩)
  | panic ch=>exact hq2.elim
  | outgrown=>exact hq2.elim
 | exit i=>exact hq.elim
 | goto t=>exact hq.elim
 | ret=>exact hq.elim
 | panic ch=>exact hq.elim
 | outgrown=>exact hq.elim
theorem zQr {ro:Option Nat} {B:Nat} {ds:List Nat} {a:Act} (hs:St N B Z G FP ds T H a w) (hB:Bo ro B FP w) (fn:FuncId) (ps:Array Tmp) (assign body:Code) :
  ∃l mk ds1 W1 rc,(Instr.enterLoop fn a.tmps ps assign body ro).run P w=.ok (l,mk) W1∧rc.state=.ready∧rc.pending=none∧rc.params=ps∧rc.assign=assign∧rc.body=body∧rc.tmps=a.tmps∧
   W1.heap[l]?=some (.loop rc)∧w.heap.size≤l∧(∀d∈ds1,d≠l)∧St N B Z G FP ds1 T H { a with defers:=mk++a.defers } W1∧Evo Z FP w Z FP W1:=by
 have lift:∀(W1:World),W1.os=w.os→W1.tape=w.tape→W1.output=w.output→w.heap.size≤W1.heap.size→(∀b,b<w.heap.size→W1.heap[b]?=w.heap[b]?)→St N B Z G FP ds T H a W1∧Evo Z FP w Z FP W1:=by
  intro W1 h1 h2 h3 h4 h5
  have hE:Evo Z FP w Z FP W1:=⟨h1,h2,h3,h4,fun b hb _=>h5 b hb,fun _ h=>h,fun _ h=>.inl h,fun id b hb=>.inr ⟨id,hb⟩⟩
  refine ⟨hs.evo (hs.inv.keep h4 (fun b hb=>h5 b ?_)) (GLe.refl _) hE,hE⟩
  rcases hb with hb | ⟨id,hb⟩
  ·exact hs.inv.zlt b hb
  ·exact hs.inv.flt id b hb
 have dlt:∀d∈ds,d<w.heap.size:=fun d hd=>(Array.getElem?_eq_some_iff.1 (hs.dsat d hd).2.1).1
 cases ro with
 | none =>
  obtain ⟨rc,hrc⟩:∃rc:Loop,rc = { state:=.ready,pending:=none,fn,tmps:=a.tmps,params:=ps,assign,body,defers:=w.heap.size }:=⟨_,rfl⟩
  have hrun:=run_enterLoop_outer (P:=P) (w:=w) fn a.tmps ps assign body
  rw[←hrc] at hrun
  have hl1:((w.alloc (.deferred (some []))).alloc (.loop rc)).heap[w.heap.size+1]?=some (.loop rc):=by
   have:=World.alloc_heap_new (w.alloc (.deferred (some []))) (.loop rc);rwa [World.size_alloc] at this
  have hd1:((w.alloc (.deferred (some []))).alloc (.loop rc)).heap[w.heap.size]?=some (.deferred (some [])) :=
   (Below.heap_alloc _ _ _ (by simp)).trans (World.alloc_heap_new w _)
  obtain ⟨hs1,hE2⟩:=lift ((w.alloc (.deferred (some []))).alloc (.loop rc)) rfl rfl rfl (by simp;omega) (fun b hb=>(Below.heap_alloc _ _ _ (by simp;omega)).trans (Below.heap_alloc _ _ _ hb))
  refine ⟨_,_,w.heap.size::ds,_,rc,hrun,by rw[hrc],by rw[hrc],by rw[hrc],by rw[hrc],by rw[hrc],by rw[hrc],hl1,by omega,fun d hd=>?_,?_,hE2⟩
  ·rcases List.mem_cons.1 hd with rfl | hd
   ·omega
   ·have:=dlt d hd;omega
  ·refine ⟨hs1.inv,hs1.size,hs1.tmps,by simp[zF7,hs.defers],List.nodup_cons.2 ⟨fun hc=>?_,hs.dsn⟩,fun d hd=>?_⟩
   ·have:=dlt _ hc;omega
   ·rcases List.mem_cons.1 hd with rfl | hd
    ·exact ⟨hB.1,hd1,fun hz=>by have:=hs.inv.zlt _ hz;omega,fun id hc=>by have:=hs.inv.flt id _ hc;omega⟩
    ·exact hs1.dsat d hd
 | some l0 =>
  obtain ⟨r0,h0,_⟩:=hB.2 l0 rfl
  obtain ⟨rc,hrc⟩:∃rc:Loop,rc = { state:=.ready,pending:=none,fn,tmps:=a.tmps,params:=ps,assign,body,defers:=r0.defers }:=⟨_,rfl⟩
  have hrun:=run_enterLoop_inner (P:=P) h0 fn a.tmps ps assign body
  rw[←hrc] at hrun
  obtain ⟨hs1,hE2⟩:=lift (w.alloc (.loop rc)) rfl rfl rfl (by simp) (fun b hb=>Below.heap_alloc _ _ _ hb)
  exact ⟨_,_,ds,_,rc,hrun,by rw[hrc],by rw[hrc],by rw[hrc],by rw[hrc],by rw[hrc],by rw[hrc],World.alloc_heap_new w _,Nat.le_refl _,fun d hd=>by have:=dlt d hd;omega,by simpa using hs1,hE2⟩
def XQ (Q:Exit→KS):Code→KS
 | .ret=>Q .ret
 | .exit i=>Q (.exit i)
 | .goto t=>Q (.goto t)
 | _=>fun _ _=>False
theorem HW.rangeFunc {L:Nat} {Q:Exit→KS} {g:Operand} {ps:Array Tmp} {assign body:Code} {gf:Nat} {caps:List HV} (hgok:zBK N g=true) (hgf:gf<4294967296) (hg:hev T g=.fn gf caps)
  (xs:List (List HV)) (H0:Heap) (I:Nat→Heap→Prop) (X:Code→Heap→Prop) (hH0:H0.length=H.length∧∀(j:Nat) (o:HObj),H0[j]?=some (some o)→H[j]?=some (some o))
  (hxs:∀x∈xs,x.length=ps.size∧nmL H.length x=true)
  (hseq:∀o,HSeq P gf (H++[some o]) caps (H0++[some o]) xs) (h0:I 0 H0)
  (round:∀i x Hi,xs[i]?=some x→Hi.length=H.length→I i Hi→HW P N H.length assign (fin (HW P N H.length body (RQ N H.length (I (i+1)) X)) (fun _ _ _=>False)) (zFw (tvT T) ps.toList x) Hi)
  (done:∀Hf,Hf.length=H.length→I xs.length Hf→Q .normal T Hf) (stop:∀c Hf,Hf.length=H.length→X c Hf→XQ Q c T Hf):HW P N L (.rangeFunc g ps assign body) Q T H:=by
 intro ro n B Z G FP ds a w hB hL hs
 refine wpIn_rangeFunc ?_
 intro fn hfn
 obtain ⟨l,mk,ds1,W1,rc,hrun,r1,r2,r3,r4,r5,r6,hl1,hlge,hlds,hs1,hE1⟩:=zQr (P:=P) hs hB fn ps assign body
 have hgv:=hs.hev g hgok
 rw[hg] at hgv
 simp only[RV] at hgv
 obtain ⟨lb,hge,hcl⟩:=hgv
 rw[zKn hgf] at hge
 have hk:G.length=H.length:=hs.inv.len
 have hlnZ:¬Z l:=fun hz=>by have:=hs.inv.zlt _ hz;omega
 have hlnF:∀id,l∉FP id:=fun id hc=>by have:=hs.inv.flt id _ hc;omega
 have hlW:l<W1.heap.size:=(Array.getElem?_eq_some_iff.1 hl1).1
 have hT:∀i,i<N→RV Z G W1 (tvT T i) (a.tmps.getD i undef) []:=fun i hi=>by
  unfold tvT
  split
  ·exact hs1.tmps i hi
  ·simp[RV]
 have hTn:∀i,i<N→nm H.length (tvT T i)=true:=fun i hi=>by rw[←hk];exact zVD _ _ _ _ (hT i hi)
 have hrc0:({ rc with state:=.ready,pending:=none }:Loop)=rc:=by cases rc;simp_all
 have hrls:RL Z (G++[some (⟨none,0,N+1,1,l⟩:OG)]) W1 ((List.range N).map (tvT T)) rc.tmps.toList []:=by
  rw[r6]
  exact zOh hs.size fun i hi=>RV.nil_keep (fun _ _=>rfl) (fun _ h=>h) (GLe.more _) (hT i hi)
 have hinv1:=hs1.inv.new (w':=W1) (o:=recO N T rc) (g:=⟨none,0,N+1,1,l⟩) (fp:=[l]) (Nat.le_refl _) (fun _ _=>rfl)
  ⟨rfl,rfl,rfl,by simp[recO],.inr (.inr ⟨_,_,.loop rc,[],rfl,rfl,rfl,hl1,rfl,hrls⟩)⟩ (by simp) (by simp only[List.mem_singleton];rintro b rfl;exact ⟨hlnZ,hlW,hlnF⟩)
 have hZ1:∀b,Z b→W1.heap[b]?=w.heap[b]?:=fun b hb=>hE1.keep b (hs.inv.zlt b hb) (fun id hc=>hs.inv.zfp id b hc hb)
 have hargs:RL Z (G++[some (⟨none,0,N+1,1,l⟩:OG)]) W1 (.yl H.length::caps) (.func (.yield l) #[] #[]::lb.toList) []:=by
  simp only[RL]
  refine ⟨_,_,[],[],rfl,rfl,?_,RL.keep hZ1 (fun _ h=>h) (GLe.more _) _ _ _ (by simp) hcl⟩
  simp only[RV]
  refine ⟨trivial,by simp;omega,l,rfl,fun g hg=>?_⟩
  rw[←hk] at hg
  simp at hg
  subst hg
  exact ⟨Nat.le_refl _,fun _ _=>rfl⟩
 have hnmH:nmH H.length H0=true:=by
  have h1:=hs.inv.nm
  unfold nmH at h1⊢
  rw[List.take_length] at h1
  rw[←hH0.1,List.take_length,List.all_eq_true]
  intro o ho
  cases o with
  | none=>rfl
  | some ob =>
   obtain ⟨i,hi⟩:=List.mem_iff_getElem?.1 ho
   have:=List.all_eq_true.1 h1 _ (List.mem_of_getElem? (hH0.2 i ob hi))
   rw[hH0.1];exact this
 have hrowm:∀r:Loop,nmR (H.length+1) (recO N T r).rows=true:=fun r=>by
  simp only[recO,nmR,nmL,nm,Bool.true_and,Bool.and_true]
  have:∀l:List Nat,(∀i∈l,i<N)→nmL (H.length+1) (l.map (tvT T))=true:=by
   intro l
   induction l with
   | nil=>intro _;rfl
   | cons a l ih=>intro h;simp only[List.map_cons,nmL,zM8 (Nat.le_succ _) _ (hTn a (h a (by simp))),ih (fun i hi=>h i (by simp[hi])),Bool.and_self]
  exact this _ (fun i hi=>by simpa using hi)
 have hnmx:∀(Hi:Heap) (r:Loop),Hi.length=H.length→nmH H.length Hi=true→nmH (H++[some (recO N T rc)]).length (Hi++[some (recO N T r)])=true:=by
  intro Hi r hlen hnm
  have e:(H++[some (recO N T rc)]).length=(Hi++[some (recO N T r)]).length:=by simp[hlen]
  unfold nmH at hnm⊢
  rw[e,List.take_length,List.all_append,Bool.and_eq_true]
  rw[←hlen,List.take_length] at hnm
  refine ⟨?_,?_⟩
  ·rw[List.all_eq_true] at hnm⊢
   intro o ho
   have:=hnm o ho
   cases o with
   | none=>rfl
   | some ob=>simp only at this⊢;exact zIp (by simp) _ this
  ·simp only[List.all_cons,List.all_nil,Bool.and_true,List.length_append,List.length_cons,List.length_nil,hlen]
   exact hrowm r
 have hc:=hseq (recO N T rc) H.length (fun i Hx=>∃Hi,Hx=Hi++[some (recO N T rc)]∧Hi.length=H.length∧nmH H.length Hi=true∧I i Hi)
  (fun i Hx=>∃Hi c,Hx=Hi++[some (recO N T { rc with state:=.done,pending:=some c })]∧Hi.length=H.length∧nmH H.length Hi=true∧X c Hi) (by simp)
  (by
   rintro i Hx ⟨Hi,rfl,hlen,hnm,_⟩
   exact ⟨by simp[hlen],hnmx Hi rc hlen hnm⟩)
  (by
   rintro i Hx ⟨Hi,c,rfl,hlen,hnm,_⟩
   exact hnmx Hi _ hlen hnm)
  (by
   rintro i x Hx hx ⟨Hi,rfl,hlen,hnm,hI⟩
   have hx2:=hxs x (List.mem_of_getElem? hx)
   have:=zLk (P:=P) (N:=N) (T:=T) (rc:=rc) (x:=x) (I:=I (i+1)) (X:=X) r1 (by rw[r3];exact hx2.1) (by rw[hlen];exact hnm) (by rw[hlen];exact hx2.2) (by rw[hlen];exact hTn) (by rw[hlen,r3,r4,r5];exact round i x Hi hx hlen hI)
   rw[hlen,hrc0] at this
   exact this)
  ⟨H0,rfl,hH0.1,hnmH,h0⟩
 refine ⟨l,mk,W1,{ target:=.fn (.func gf) lb,args:=#[.func (.yield l) #[] #[]] },W1,gf,#[.func (.yield l) #[] #[]]++lb,W1,?_,?_,fun _ _=>trivial,?_,fun h=>by cases ro <;> simp[Wd,Fence.wide] at h,?_⟩
 ·exact hrun
 ·simp only[resolve,hge]
  simp[go_sem]
 ·have:=hc.1 (.func (.yield l) #[] #[]::lb.toList).toArray W1
  have earr:(Value.func (.yield l) #[] #[]::lb.toList).toArray = #[.func (.yield l) #[] #[]]++lb:=by apply Array.ext';simp
  rw[earr] at this
  simp only[invoke]
  exact this
 have hcall:=hc.2 Z _ _ W1 _ hinv1 hargs
 have earr:(Value.func (.yield l) #[] #[]::lb.toList).toArray = #[.func (.yield l) #[] #[]]++lb:=by apply Array.ext';simp
 rw[earr] at hcall
 refine zCY (Calls.mono hcall ?_)
 rintro e w' ⟨v,r,Hf,Z',G',FP',fr,rfl,hQ,hlen,hi',hr,hnd,hfr1,hfr2,hG,hE⟩
 have hF1:∀b,b≠l→(∀id,b∉FP id)→∀id,b∉(if id=H.length then [l] else FP id):=fun b hb hf id hc=>by
  by_cases e:id=H.length
  ·simp only[if_pos e,List.mem_singleton] at hc;exact hb hc
  ·simp only[if_neg e] at hc;exact hf id hc
 have hZW:∀b,Z b→w'.heap[b]?=W1.heap[b]?:=fun b hb=>hE.keep b (hs1.inv.zlt b hb) (hF1 b (fun e=>hlnZ (e▸hb)) (fun id hc=>hs.inv.zfp id b hc hb))
 have key:∀(st:LoopState) (pe:Option Code) (Hi:Heap),st≠.busy→Hf=Hi++[some (recO N T { rc with state:=st,pending:=pe })]→Hi.length=H.length→nmH H.length Hi=true→
   ∃w4,(Instr.endLoop l).run P w'=.ok pe w4∧∃Z4 G4 FP4,St N B Z4 G4 FP4 ds1 T Hi { a with defers:=mk++a.defers } w4∧GLt L G G4∧Evo Z FP w Z4 FP4 w4:=by
  rintro st pe Hi hst rfl hlenI hnm
  obtain ⟨l2,tm,hg2,hfp2,hl2,hrl2⟩:=zYp hi'
  have hll:l2=l:=by
   have h1:(G++[some (⟨none,0,N+1,1,l⟩:OG)])[H.length]?=some (some ⟨none,0,N+1,1,l⟩):=by rw[←hk];simp
   rw[hlenI] at hg2
   rcases hG.at_ H.length (by simp;omega) with k | k | ⟨g1,g2,k1,k2,k3⟩
   ·rw[hg2] at k;cases k
   ·rw[hg2,h1] at k;cases k;rfl
   ·rw[h1] at k1;rw[hg2] at k2;cases k1;cases k2;exact absurd k3 (Nat.lt_irrefl _)
  subst hll
  have hlZ' : ¬Z' l2:=hi'.zfp Hi.length l2 (by rw[hfp2];simp)
  have hnm' : nmH H.length (Hi++[some (recO N T { rc with state:=st,pending:=pe })])=true:=by
   have:(Hi++[some (recO N T { rc with state:=st,pending:=pe })]).take H.length=Hi.take H.length:=by rw[←hlenI];simp
   unfold nmH at hnm⊢
   rw[this];exact hnm
  have htr:=hi'.trunc H.length hnm'
  have etk:(Hi++[some (recO N T { rc with state:=st,pending:=pe })]).take H.length=Hi:=by rw[←hlenI];simp
  rw[etk] at htr
  have hlF' : ∀id,l2∉(if id<H.length then FP' id else []):=fun id hc=>by
   by_cases e:id<H.length
   ·simp only[if_pos e] at hc
    have:=hi'.disj id Hi.length l2 hc (by rw[hfp2];simp)
    omega
   ·simp[e] at hc
  have hGG:GLe G G':=(GLe.more _).trans hG
  have hst' : St N B Z' (G'.take H.length) (fun id=>if id<H.length then FP' id else []) ds1 T Hi { a with defers:=mk++a.defers } w':=by
   refine ⟨htr,hs.size,fun i hi=>zBN _ _ G' _ [] ?_ (RV.nil_keep hZW hE.zle hGG (hs1.tmps i hi)),hs1.defers,hs1.dsn,fun d hd=>?_⟩
   ·rw[←hk];exact zVD _ _ _ _ (hs1.tmps i hi)
   ·obtain ⟨h1,h2,h3,h4⟩:=hs1.dsat d hd
    have hne:=hlds d hd
    have hdlt:d<W1.heap.size:=(Array.getElem?_eq_some_iff.1 h2).1
    refine ⟨h1,(hE.keep d hdlt (hF1 d hne h4)).trans h2,fun hz=>?_,fun id hc=>?_⟩
    ·rcases hE.znew d hz with k | k | ⟨id,k⟩
     ·exact h3 k
     ·omega
     ·exact hF1 d hne h4 id k
    ·by_cases e:id<H.length
     ·simp only[if_pos e] at hc
      rcases hE.fnew id d hc with k | ⟨id',k⟩
      ·omega
      ·exact hF1 d hne h4 id' k
     ·simp[e] at hc
  have hend:=run_endLoop (P:=P) (w:=w') (r:={ rc with state:=st,pending:=pe,tmps:=tm }) hl2 hst
  have hst4:=hst'.putRec (o':=.loop { rc with state:=.exhausted,pending:=pe,tmps:=tm }) hlZ' hlF' hl2
  refine ⟨_,hend,Z',G'.take H.length,_,hst4,⟨by have:=hGG.len;rw[List.length_take];omega,fun id hid=>?_⟩,⟨?_,?_,?_,?_,fun b hb hf=>?_,hE.zle,fun b hb=>?_,fun j b hb=>?_⟩⟩
  ·have k:=hGG.at_ id (by omega)
   rw[zAV (l:=G') (m:=H.length) (i:=id) (by omega)]
   exact k
  ·exact hE.os.trans hE1.os
  ·exact hE.tape.trans hE1.tape
  ·exact hE.output.trans hE1.output
  ·have:=hE.size;have:=hE1.size;simp only[World.putObj_size];omega
  ·have hne:b≠l2:=by omega
   rw[World.putObj_heap_other hne]
   exact (hE.keep b (Nat.lt_of_lt_of_le hb hE1.size) (hF1 b hne hf)).trans (hE1.keep b hb hf)
  ·rcases hE.znew b hb with k | k | ⟨id,k⟩
   ·exact .inl k
   ·exact .inr (.inl (Nat.le_trans hE1.size k))
   ·by_cases e:id=H.length
    ·simp only[if_pos e,List.mem_singleton] at k;exact .inr (.inl (k▸hlge))
    ·simp only[if_neg e] at k;exact .inr (.inr ⟨id,k⟩)
  ·by_cases e:j<H.length
   ·simp only[if_pos e] at hb
    rcases hE.fnew j b hb with k | ⟨id,k⟩
    ·exact .inl (Nat.le_trans hE1.size k)
    ·by_cases e:id=H.length
     ·simp only[if_pos e,List.mem_singleton] at k;exact .inl (k▸hlge)
     ·simp only[if_neg e] at k;exact .inr ⟨id,k⟩
   ·simp[e] at hb
 rcases hQ with ⟨Hi,e,hlenI,hnm,hI⟩ | ⟨i,Hi,c,e,hlenI,hnm,hX⟩
 ·rw[←hrc0] at e
  obtain ⟨w4,h1,Z4,G4,FP4,h2,h3,h4⟩:=key .ready none Hi (by simp) e hlenI hnm
  exact ⟨none,w4,h1,T,Hi,Z4,G4,FP4,ds1,done Hi hlenI hI,h2,h3,h4⟩
 ·obtain ⟨w4,h1,Z4,G4,FP4,h2,h3,h4⟩:=key .done (some c) Hi (by simp) e hlenI hnm
  refine ⟨some c,w4,h1,?_⟩
  have hq:=stop c Hi hlenI hX
  cases c with
  | ret=>exact wpIn_ret ⟨T,Hi,Z4,G4,FP4,ds1,hq,h2,h3,h4⟩
  | exit i=>exact wpIn_exit ⟨T,Hi,Z4,G4,FP4,ds1,hq,h2,h3,h4⟩
  | goto t=>exact wpIn_goto ⟨T,Hi,Z4,G4,FP4,ds1,hq,h2,h3,h4⟩
  | _=>exact hq.elim
end
end Go.Proofs.YtoknohandclcbaaGreat
namespace Go.Proofs.YtoknohandclcbaaGreat
open Go.RowKit
section
variable {P:Program} {N L:Nat} {T:Nat→HV} {H:Heap} {k:List Item→KS} {all l:List Oper} {d:Option Nat} {r:List Item}
theorem Ghost.move (i n j q o:Nat) (ob:HObj) (hi:T i=.pt n j q o) (ho:H[n]?=some (some ob)):Ghost N L T H (upd T i (.pt H.length j q o)) (H.set n none++[some ob]):=fun B Z G FP ds a w hL hs=>by
 obtain ⟨g,hg,hob⟩:=hs.inv.live n ob ho
 have hk:=hs.inv.kill n
 have hlt:=hs.inv.lt ho
 have hnew:=hk.new (w':=w) (o:=ob) (g:=g) (fp:=FP n) (Nat.le_refl _) (fun _ _=>rfl) (hob.keep (fun _ _=>rfl) (fun _ h=>h) ((GLe.kill n).trans (GLe.more _)) (fun _ _=>rfl)) (hs.inv.nodup n)
  (fun b hb=>⟨hs.inv.zfp n b hb,hs.inv.flt n b hb,fun j hj=>by
   by_cases e:j=n
   ·simp[e] at hj
   ·simp only[if_neg e] at hj;exact e (hs.inv.disj j n b hj hb)⟩)
 have hG:GLe G (G.set n none++[some g]):=(GLe.kill n).trans (GLe.more _)
 have hE:Evo Z FP w Z (fun j=>if j=(H.set n none).length then FP n else if j=n then [] else FP j) w:=⟨rfl,rfl,rfl,Nat.le_refl _,fun _ _ _=>rfl,fun _ h=>h,fun _ h=>.inl h,fun j b hb=>by
  by_cases e:j=(H.set n none).length
  ·simp only[if_pos e] at hb;exact .inr ⟨n,hb⟩
  ·simp only[if_neg e] at hb
   by_cases e2:j=n
   ·simp[e2] at hb
   ·simp only[if_neg e2] at hb;exact .inr ⟨j,hb⟩⟩
 have hs':=hs.evo hnew hG hE
 refine ⟨Z,_,_,⟨hs'.inv,hs'.size,fun c hc=>?_,hs'.defers,hs'.dsn,hs'.dsat⟩,GLt.of hL hG,hE⟩
 unfold upd
 split
 ·rename_i e
  subst e
  have h0:=hs.tmps c hc
  rw[hi] at h0
  simp only[RV] at h0⊢
  obtain ⟨h1,h2,h3,h4⟩:=h0
  refine ⟨h1,h2,by simp[hs.inv.len],fun g' hg'=>?_⟩
  rw[←hs.inv.len] at hg'
  have:g'=g:=by
   rw[List.getElem?_append_right (by simp)] at hg'
   simp at hg';exact hg'.symm
  subst this
  exact h4 g' hg
 ·exact hs'.tmps c hc
theorem zCo {id m:Nat} {Hq own:Heap} {args:List HV} {Kb:Bool→Heap→Prop} (hm:Hq.length=m) (hid:id<m) (hnm:nmH m Hq=true) (hargs:nmL m args=true) (hy:HYield P id Hq args Kb)
  (h:∀b Hq',Kb b Hq'→Hq'.length=m→k (.ops all l::r) (updO T d (.v (.bool b))) (Hq'++own)):zJb k P id (Hq++own) args all d l r T:=by
 subst hm
 have hnm' : nmH Hq.length (Hq++own)=true:=by
  unfold nmH at hnm⊢
  rw[List.take_length] at hnm
  rw[List.take_left]
  exact hnm
 have hy' : HYield P id ((Hq++own).take Hq.length) args Kb:=by rw[List.take_left];exact hy
 refine ⟨_,HYield.frame (H:=Hq++own) Hq.length hy' hid (by simp) hnm' hargs,?_⟩
 rintro b H' ⟨Hc,rfl,hlen,hK⟩ _
 rw[List.drop_left]
 exact h b Hc hK hlen
def zT8 (H:Heap) (id r c:Nat) (ob:HObj) (row:List HV):Option HV→Heap
 | some (.ow e sz rows)=>H.set id (some { ob with rows:=ob.rows.set r (row.set c (.hd H.length 0 rows.length)) })++[some ⟨e,sz,rows⟩]
 | some (.bx e sz rw)=>H.set id (some { ob with rows:=ob.rows.set r (row.set c (.pt H.length 1 0 0)) })++[some ⟨e,sz,[rw]⟩]
 | some (.om x hs)=>H.set id (some { ob with rows:=ob.rows.set r (row.set c (.mp H.length)) })++[some ⟨0,hs.length+1,[.ob x::hs]⟩]
 | _=>H
def onOb (H:Heap) (o:Option HObj) (r:Nat) (f:HObj→List HV→Heap):Heap :=
 match o with
 | some ob=>match ob.rows[r]? with
  | some row=>f ob row
  | none=>H
 | none=>H
theorem zB0 {ob:HObj} {r:Nat} {f:HObj→List HV→Heap}:onOb H (some ob) r f=match ob.rows[r]? with
  | some row=>f ob row
  | none=>H:=rfl
theorem zXY {id r c:Nat}:zD0 H id r c=onOb H (getO H id) r fun ob row=>zT8 H id r c ob row row[c]?:=by
 unfold zD0 getO onOb zT8
 repeat' split
 all_goals first | rfl | simp_all
theorem zMo {id r c:Nat}:zD4 H id r c 0=H:=rfl
theorem zXX {id r c:Nat}:zD4 H id r c 1=zD0 H id r c:=rfl
theorem zXW {id r c:Nat}:zD4 H id r c 2=zD0 (zD0 H id r c) id r (c+1):=rfl
theorem zXV {id r c:Nat}:zD4 H id r c 3=zD0 (zD0 (zD0 H id r c) id r (c+1)) id r (c+1+1):=rfl
def z4s (H:Heap) (id r c:Nat) (ob:HObj) (row:List HV) (j len:Nat):Option HObj→Heap
 | some oj=>if j≠id∧len=oj.rows.length∧nmR 0 oj.rows=true then (H.set j none).set id (some { ob with rows:=ob.rows.set r (row.set c (.ow oj.e oj.sz oj.rows)) }) else H
 | none=>H
def z4q (H:Heap) (id r c:Nat) (ob:HObj) (row:List HV) (j:Nat):Option HObj→Heap
 | some ⟨e,sz,[rw]⟩=>if j≠id∧nmL 0 rw=true then (H.set j none).set id (some { ob with rows:=ob.rows.set r (row.set c (.bx e sz rw)) }) else H
 | _=>H
def z4r (H:Heap) (id r c:Nat) (ob:HObj) (row:List HV) (j:Nat):Option HObj→Heap
 | some ⟨_,_,[.ob x::hs]⟩=>if j≠id∧nmL 0 hs=true then (H.set j none).set id (some { ob with rows:=ob.rows.set r (row.set c (.om x hs)) }) else H
 | _=>H
def abs1 (H:Heap) (id r c:Nat) (ob:HObj) (row:List HV):Option HV→Heap
 | some (.hd j 0 len)=>z4s H id r c ob row j len (getO H j)
 | some (.pt j 1 0 0)=>z4q H id r c ob row j (getO H j)
 | some (.mp j)=>z4r H id r c ob row j (getO H j)
 | _=>H
theorem zB1 {id r c:Nat}:absorb H id r c=onOb H (getO H id) r fun ob row=>abs1 H id r c ob row row[c]?:=by
 unfold absorb
 cases hH:H[id]? with
 | none=>simp only[getO,hH,onOb]
 | some o =>
  cases o with
  | none=>simp only[getO,hH,onOb]
  | some ob =>
   have e1:getO H id=some ob:=by simp only[getO,hH]
   simp only[e1,onOb]
   cases hr:ob.rows[r]? with
   | none=>rfl
   | some row =>
    simp only
    have gg:∀j,getO H j=match H[j]? with | some (some ob)=>some ob | _=>none:=fun j=>rfl
    cases hc:row[c]? with
    | none=>rfl
    | some x =>
     cases x with
     | hd j off len =>
      cases off with
      | zero =>
       simp only[abs1,gg]
       cases hj:H[j]? with
       | none=>rfl
       | some o=>cases o <;> rfl
      | succ n=>rfl
     | pt j a b c' =>
      by_cases h:a=1∧b=0∧c'=0
      ·obtain ⟨rfl,rfl,rfl⟩:=h
       simp only[abs1,gg]
       cases hj:H[j]? with
       | none=>rfl
       | some o =>
        cases o with
        | none=>rfl
        | some oj =>
         obtain ⟨e,sz,rows⟩:=oj
         cases rows with
         | nil=>rfl
         | cons a t=>cases t <;> rfl
      ·rcases a with _ | _ | a
       ·rfl
       ·rcases b with _ | b
        ·rcases c' with _ | c'
         ·exact absurd ⟨rfl,rfl,rfl⟩ h
         ·rfl
        ·rfl
       ·rfl
     | mp j =>
      simp only[abs1,gg]
      cases hj:H[j]? with
      | none=>rfl
      | some o =>
       cases o with
       | none=>rfl
       | some oj =>
        obtain ⟨e,sz,rows⟩:=oj
        cases rows with
        | nil=>rfl
        | cons a t =>
         cases a with
         | nil=>cases t <;> rfl
         | cons x a=>cases x <;> cases t <;> rfl
     | _=>rfl
def Conv (x h:HV):Prop:=∀(Z:Nat→Prop) (G:List (Option OG)) (w:World) (y:Value),RV Z G w x y []→RV Z G w h y []
theorem Conv.nilOw (e:TypeId) (sz:Nat):Conv (.v (.slice none 0 0)) (.ow e sz []):=fun Z G w y h=>by
 simp only[RV] at h⊢
 exact .inl ⟨trivial,h.2,trivial⟩
theorem Conv.nilSl:Conv (.v (.slice none 0 0)) (.sl []):=fun Z G w y h=>by
 simp only[RV] at h⊢
 exact ⟨trivial,none,0,h.2,Nat.le_refl _,by simp[maxLen],.inl trivial⟩
theorem Conv.any (x:HV):Conv x .any:=fun Z G w y h=>by simp[RV]
theorem Ghost.cell (id i c:Nat) (h' : HV) {ob:HObj} {row:List HV} {x:HV} (ho:H[id]?=some (some ob)) (hr:ob.rows[i]?=some row) (hc:row[c]?=some x) (htv:tv x=true) (hx:Conv x h') (hnb:∀u,x≠.ob u) :
  Ghost N L T H T (H.set id (some { ob with rows:=ob.rows.set i (row.set c h') })):=fun B Z G FP ds a w hL hs=>by
 obtain ⟨g,hg,hob⟩:=hs.inv.live id ob ho
 obtain ⟨y,fx,fa,hv,hperm,hsw⟩:=hob.swap hr hc hnb
 have hfx:fx=[]:=zDF x y fx htv hv
 subst hfx
 simp only[List.nil_append] at hperm
 obtain ⟨fp',hob',hp'⟩:=hsw G h' [] (GLe.refl _) (hx Z G w y hv)
 simp only[List.nil_append] at hp'
 have hpp:=hp'.trans hperm.symm
 have hi:=hs.inv.say ho hg hob' (hpp.nodup_iff.2 (hs.inv.nodup id)) (fun b hb=>by
  have hb':=hpp.mem_iff.1 hb
  exact ⟨hs.inv.zfp id b hb',hs.inv.flt id b hb',fun j hj hc=>hj (hs.inv.disj j id b hc hb')⟩)
 have hE:Evo Z FP w Z (fun j=>if j=id then fp' else FP j) w:=⟨rfl,rfl,rfl,Nat.le_refl _,fun _ _ _=>rfl,fun _ h=>h,fun _ h=>.inl h,fun j b hb=>by
  by_cases e:j=id
  ·simp only[if_pos e] at hb;exact .inr ⟨id,hpp.mem_iff.1 hb⟩
  ·simp only[if_neg e] at hb;exact .inr ⟨j,hb⟩⟩
 exact ⟨Z,G,_,hs.evo hi (GLe.refl _) hE,GLt.refl hL,hE⟩
theorem Ghost.tmp (i:Nat) (h' : HV) (hx:Conv (T i) h'):Ghost N L T H (upd T i h') H:=fun B Z G FP ds a w hL hs=>by
 refine ⟨Z,G,FP,⟨hs.inv,hs.size,fun j hj=>?_,hs.defers,hs.dsn,hs.dsat⟩,GLt.refl hL,Evo.refl _ _ _⟩
 unfold upd
 split
 ·rename_i e;subst e;exact hx _ _ _ _ (hs.tmps j hj)
 ·exact hs.tmps j hj
theorem HCalls.conv {f:FuncId} {args:List HV} {Q Q' : HV→Heap→Prop} (h:HCalls P f H args Q) (hq:∀x H',Q x H'→∃x',Q' x' H'∧(x'=x∨(tv x=true∧Conv x x'))):HCalls P f H args Q':=by
 refine ⟨h.1,fun Z G FP w vals hi ha=>Calls.mono (h.2 Z G FP w vals hi ha) ?_⟩
 rintro e w' ⟨v,x,H',Z',G',FP',fr,he,hQ,hlen,hi',hr,hnd,hf1,hf2,hG,hE⟩
 obtain ⟨x',hQ',hx⟩:=hq x H' hQ
 rcases hx with rfl | ⟨htv,hc⟩
 ·exact ⟨v,x',H',Z',G',FP',fr,he,hQ',hlen,hi',hr,hnd,hf1,hf2,hG,hE⟩
 ·have:=zDF x v fr htv hr
  subst this
  exact ⟨v,x',H',Z',G',FP',[],he,hQ',hlen,hi',hc _ _ _ _ hr,hnd,hf1,hf2,hG,hE⟩
theorem zU9 {id:Nat} {args:List HV}:zCz k P (.yl id) H args all d l r T=zJb k P id H args all d l r T:=rfl
theorem yBL {id:Nat} {n:Nat}:fz (n+1) H (.yl id)=.any:=rfl
theorem yBQ {id:Nat} {n:Nat}:fz (n+1) H (.mp id)=.any:=rfl
theorem yBl {id:Nat}:c1 (.yl id)=true:=rfl
theorem yBo {id:Nat}:c1 (.mp id)=true:=rfl
theorem zPN {p:Nat} {ps:List Nat} {h:HV} {hs:List HV}:zFw T (p::ps) (h::hs)=zFw (upd T p h) ps hs:=rfl
theorem zRs {hs:List HV}:zFw T [] hs=T:=rfl
theorem z2Y {i:Nat}:tvT T i=if tv (T i)=true then T i else .any:=rfl
theorem zBO {A B:Heap} {m i:Nat} (h:A.length=m):getO (A++B) (m+i)=getO B i:=by
 subst h
 unfold getO
 rw[List.getElem?_append_right (by omega)]
 simp
theorem zA0 {A B:Heap} {m:Nat} (h:A.length=m):getO (A++B) m=getO B 0:=zBO (i:=0) h
theorem zCN {A B:Heap} {m i:Nat} {x:Option HObj} (h:A.length=m):(A++B).set (m+i) x=A++B.set i x:=by
 subst h
 rw[List.set_append_right _ _ (by omega)]
 simp
end
def SubH:Heap→Heap→Prop
 | [],[]=>True
 | none::a,_::b=>SubH a b
 | some o::a,x::b=>x=some o∧SubH a b
 | _,_=>False
theorem SubH.spec:∀{H0 H:Heap},SubH H0 H→H0.length=H.length∧∀(j:Nat) (o:HObj),H0[j]?=some (some o)→H[j]?=some (some o)
 | [],[],_=>⟨rfl,fun _ _ h=>h⟩
 | none::a,x::b,h=>by
  obtain ⟨h1,h2⟩:=SubH.spec (H0:=a) (H:=b) h
  refine ⟨by simp[h1],fun j o hj=>?_⟩
  cases j with
  | zero=>simp at hj
  | succ j=>exact h2 j o hj
 | some o::a,x::b,h=>by
  obtain ⟨h1,h2⟩:=SubH.spec (H0:=a) (H:=b) h.2
  refine ⟨by simp[h1],fun j o' hj=>?_⟩
  cases j with
  | zero=>simp at hj;subst hj;simp[h.1]
  | succ j=>exact h2 j o' hj
 | none::a,[],h=>h.elim
 | some o::a,[],h=>h.elim
 | [],x::b,h=>h.elim
theorem zVH {N L:Nat} {I:Heap→Prop} {X:Code→Heap→Prop} {T:Nat→HV} {H:Heap}:RQ N L I X .normal T H=GQ N L (fun _ H=>H.length=L∧I H) T H:=rfl
theorem z4y {N L:Nat} {I:Heap→Prop} {X:Code→Heap→Prop} {T:Nat→HV} {H:Heap}:RQ N L I X .ret T H=GQ N L (fun _ H=>H.length=L∧X .ret H) T H:=rfl
theorem z2J {N L i:Nat} {I:Heap→Prop} {X:Code→Heap→Prop} {T:Nat→HV} {H:Heap}:RQ N L I X (.exit i) T H=GQ N L (fun _ H=>H.length=L∧X (.exit i) H) T H:=rfl
theorem z2I {N L i:Nat} {I:Heap→Prop} {X:Code→Heap→Prop} {T:Nat→HV} {H:Heap}:RQ N L I X (.goto i) T H=GQ N L (fun _ H=>H.length=L∧X (.goto i) H) T H:=rfl
theorem zAb {L:Nat} {Q:HV→Heap→Prop} {x:HV} {A B:Heap} (hl:A.length=L) (hn:nmH L A=true) (hq:Q x A):endP L Q (x,A++B):=by
 subst hl
 refine ⟨?_,by simpa using hq⟩
 unfold nmH at hn⊢
 rw[List.take_length] at hn
 simpa using hn
attribute [go_sem] zB1 abs1 z4s z4q z4r zXY zMo zXX zXW zXV zB0 zT8
attribute [go_sem] zU9 yBl yBo yBL yBQ zPN zRs z2Y
attribute [go_sem ↓] zVH z4y z2J z2I
end Go.Proofs.YtoknohandclcbaaGreat
namespace Go.Proofs.YtoknohandclcbaaGreat
open Go.RowKit
section
variable {α:Type} [DecidableEq α]
def getM (kv:List (α×Int)) (k:α):Int:=((kv.find? fun e=>decide (k=e.1)).map (·.2)).getD 0
def inM (kv:List (α×Int)) (k:α):Bool:=kv.any fun e=>decide (k=e.1)
def setM (kv:List (α×Int)) (k:α) (v:Int):List (α×Int) :=
 match kv with
 | []=>[(k,v)]
 | e::r=>if k=e.1 then (k,v)::r else e::setM r k v
def entM (kv:List (α×Int)) (k:α):List (α×Int):=if inM kv k=true then kv else kv++[(k,0)]
def idxM (kv:List (α×Int)) (k:α):Nat:=(kv.findIdx fun e=>decide (k=e.1))
def esL (kf:α→Value):Nat→List (α×Int)→List MapEntry
 | _,[]=>[]
 | n,e::r=>⟨kf e.1,.int .i64 e.2,n⟩::esL kf (n+1) r
def esG (kf:α→Value) (kv:List (α×Int)):Array MapEntry:=(esL kf 0 kv).toArray
def mapG (kf:α→Value) (kv:List (α×Int)):HObj:=zAn (esG kf kv) kv.length
def zCc (k:α):List (α×Int)→Nat→Option (Nat×Value)
 | [],_=>none
 | e::r,i=>if k=e.1 then some (i,.int .i64 e.2) else zCc k r (i+1)
variable {kf:α→Value} (hk:∀x y,keq (kf x) (kf y)=some (decide (x=y)))
include hk
theorem zE1 (k:α):∀(kv:List (α×Int)) (n i:Nat),zCU (kf k) (esL kf n kv) i=some (zCc k kv i)
 | [],_,_=>rfl
 | e::r,n,i=>by
  simp only[esL,zCU,hk,Option.bind_some,zCc,decide_eq_true_eq,zE1 k r (n+1) (i+1)]
  split <;> rfl
omit hk in
theorem zGg (k:α):∀(kv:List (α×Int)) (i:Nat),((zCc k kv i).map (·.2)).getD (.int .i64 0)=.int .i64 (getM kv k)∧(zCc k kv i).isSome=inM kv k
 | [],_=>⟨rfl,rfl⟩
 | e::r,i=>by
  have ih:=zGg k r (i+1)
  simp only[zCc,getM,inM,List.find?_cons,List.any_cons] at ih⊢
  by_cases h:k=e.1
  ·simp[h]
  ·simpa [h] using ih
theorem zK3 (k:α) (kv:List (α×Int)):zPq (esG kf kv) (kf k) (.int .i64 0)=some (.int .i64 (getM kv k),inM kv k):=by
 unfold zPq esG
 rw[List.toList_toArray,zE1 hk]
 simp only[Option.map_some,(zGg k kv 0).1,(zGg k kv 0).2]
omit hk in
theorem zFI:∀(kv r:List (α×Int)) (n:Nat),esL kf n (kv++r)=esL kf n kv++esL kf (n+kv.length) r
 | [],r,n=>by simp[esL]
 | e::l,r,n=>by simp only[List.cons_append,esL,zFI l r (n+1),List.length_cons];rw[show n+1+l.length=n+(l.length+1) by omega]
omit hk in
theorem zDR:∀(kv:List (α×Int)) (n:Nat),(esL kf n kv).length=kv.length
 | [],_=>rfl
 | e::r,n=>by simp[esL,zDR r]
omit hk in
theorem zKA (k:α) (v:Int):∀(kv:List (α×Int)) (i:Nat),zCc k kv i=none→setM kv k v=kv++[(k,v)]
 | [],_,_=>rfl
 | e::r,i,h=>by
  simp only[zCc] at h
  split at h
  ·cases h
  ·rename_i hne;simp only[setM,if_neg hne,zKA k v r (i+1) h,List.cons_append]
omit hk in
theorem zJz (k:α) (v:Int):∀(kv:List (α×Int)) (n i j:Nat) (x:Value),zCc k kv i=some (i+j,x)→(esL kf n kv).modify j (fun e=>{ e with key:=kf k,val:=.int .i64 v })=esL kf n (setM kv k v)∧(setM kv k v).length=kv.length
 | [],n,i,j,x,h=>by simp[zCc] at h
 | e::r,n,i,j,x,h=>by
  simp only[zCc] at h
  split at h
  ·rename_i he
   have:j=0:=by simp at h;omega
   subst this
   simp only[esL,setM,if_pos he,List.modify_zero_cons,List.length_cons,and_self]
  ·rename_i hne
   cases j with
   | zero =>
    exfalso
    have key:∀(l:List (α×Int)) (m:Nat),∀q y,zCc k l m=some (q,y)→m≤q:=by
     intro l
     induction l with
     | nil=>intro m q y h;simp[zCc] at h
     | cons a l ih =>
      intro m q y h
      simp only[zCc] at h
      split at h
      ·simp at h;omega
      ·have:=ih _ _ _ h;omega
    have:=key _ _ _ _ h
    omega
   | succ j =>
    have:=zJz k v r (n+1) (i+1) j x (by rw[show i+1+j=i+(j+1) by omega];exact h)
    simp only[esL,setM,if_neg hne,List.modify_succ_cons,this.1,List.length_cons,this.2,and_self]
theorem zOC (k:α) (v:Int) (kv:List (α×Int)):putO (esG kf kv) kv.length (kf k) (.int .i64 v)=some (mapG kf (setM kv k v)):=by
 unfold putO
 have e:(esG kf kv).toList=esL kf 0 kv:=by unfold esG;rw[List.toList_toArray]
 rw[e,zE1 hk]
 simp only[Option.map_some,Option.some.injEq]
 cases h:zCc k kv 0 with
 | none =>
  simp only[putE]
  rw[zKA k v kv 0 h]
  unfold mapG
  have:(esG kf kv).push ⟨kf k,.int .i64 v,kv.length⟩=esG kf (kv++[(k,v)]):=by
   apply Array.ext'
   simp[esG,zFI,esL]
  rw[this];simp
 | some r =>
  obtain ⟨j,x⟩:=r
  obtain ⟨h1,h2⟩:=zJz (kf:=kf) k v kv 0 0 j x (by rw[Nat.zero_add];exact h)
  simp only[putE]
  unfold mapG
  rw[h2]
  have:(esG kf kv).modify j (fun e=>{ e with key:=kf k,val:=.int .i64 v })=esG kf (setM kv k v):=by
   apply Array.ext'
   rw[Array.toList_modify,e,h1];simp[esG]
  rw[this]
end
abbrev kI (x:Int):Value:=.int .i64 x
abbrev kP (x:Int×Int):Value:=.agg #[.int .i64 x.1,.int .i64 x.2]
def mapI (kv:List (Int×Int)):HObj:=mapG kI kv
def mapP (kv:List ((Int×Int)×Int)):HObj:=mapG kP kv
theorem zZw {kv:List (Int×Int)}:zCw (mapI kv)=some (esG kI kv,kv.length):=rfl
theorem zZv {kv:List ((Int×Int)×Int)}:zCw (mapP kv)=some (esG kP kv,kv.length):=rfl
theorem zZy {kv:List (Int×Int)} {k:Int}:zPq (esG kI kv) (.int .i64 k) (.int .i64 0)=some (.int .i64 (getM kv k),inM kv k):=zK3 (fun _ _=>zIs) k kv
theorem zZx {kv:List ((Int×Int)×Int)} {a b:Int}:zPq (esG kP kv) (.agg #[.int .i64 a,.int .i64 b]) (.int .i64 0)=some (.int .i64 (getM kv (a,b)),inM kv (a,b)):=zK3 (kf:=kP) (fun _ _=>zIt) (a,b) kv
theorem z2p {kv:List (Int×Int)} {k v:Int}:putO (esG kI kv) kv.length (.int .i64 k) (.int .i64 v)=some (mapI (setM kv k v)):=zOC (fun _ _=>zIs) k v kv
theorem z2o {kv:List ((Int×Int)×Int)} {a b v:Int}:putO (esG kP kv) kv.length (.agg #[.int .i64 a,.int .i64 b]) (.int .i64 v)=some (mapP (setM kv (a,b) v)):=zOC (kf:=kP) (fun _ _=>zIt) (a,b) v kv
attribute [go_sem] zZw zZv zZy zZx z2p z2o
end Go.Proofs.YtoknohandclcbaaGreat
namespace Go.Proofs.YtoknohandclcbaaGreat
open Go.RowKit
set_option maxRecDepth 8000
theorem zOs {P:Program} {f:FuncId} {rows:List (List HV)} {R:HV} (h1:rows.isEmpty=false→HFn P f [.sl rows] R) (h0:rows=[]→∀a c,HFn P f [.v (.slice a 0 c)] R):HFn P f [.sl rows] R:=by
 cases hr:rows.isEmpty with
 | false=>exact h1 hr
 | true =>
  obtain rfl:rows=[]:=List.isEmpty_iff.1 hr
  refine ⟨(h0 rfl none 0).1,fun Z G FP w vals hi ha=>?_⟩
  simp only[RL,RV] at ha
  obtain ⟨y,ys,f1,f2,rfl,_,⟨_,a,c,rfl,_⟩,rfl,_⟩:=ha
  exact (h0 rfl a c).2 Z G FP w _ hi (by simp only[RL,RV];exact ⟨_,_,[],[],rfl,rfl,⟨rfl,rfl⟩,rfl,rfl⟩)
set_option maxHeartbeats 4000000 in
theorem zAj (l:List Int) (hl:l.length≤100000000):HFn Tryz.prog 154 [.sl (ints l)] (zBn l):=by
 refine zOs (fun hr=>?_) (fun hr a c=>?_)
 ·refine zB (fn:=Tryz.f154) 8 [2] (by kernel_rfl) rfl (by kernel_rfl) (HW.run 400 (by kernel_rfl) ?_)
  simp +decide only[go_sem,nT,nA,nS,nM,nB,reduceIte,reduceCtorEq,hr]
  (with_reducible and_intros) <;> first | omega | rfl
 ·obtain rfl:l=[]:=by cases l with | nil=>rfl | cons a l=>cases hr
  refine HCalls.conv (Q:=fun x _=>x=.v (.slice none 0 0)∨x=zBn []) ?_ ?_
  ·refine zB (fn:=Tryz.f154) 8 [2] (by kernel_rfl) rfl (by kernel_rfl) (HW.run 400 (by kernel_rfl) ?_)
   cases a with
   | none=>simp +decide only[go_sem,nT,nA,nS,nM,nB,reduceIte,reduceCtorEq]
   | some a=>simp +decide only[go_sem,nT,nA,nS,nM,nB,reduceIte,reduceCtorEq];exact .inr rfl
  ·rintro x H' (rfl | rfl)
   ·exact ⟨_,rfl,.inr ⟨rfl,Conv.nilOw _ _⟩⟩
   ·exact ⟨_,rfl,.inl rfl⟩
set_option maxHeartbeats 4000000 in
theorem zLW (l:List Thd) (hl:l.length≤100000000):HFn Tryz.prog 155 [.sl (thds l)] (.ow 106 4 (thds l)):=by
 refine zOs (fun hr=>?_) (fun hr a c=>?_)
 ·refine zB (fn:=Tryz.f155) 8 [2] (by kernel_rfl) rfl (by kernel_rfl) (HW.run 400 (by kernel_rfl) ?_)
  simp +decide only[go_sem,nT,nA,nS,nM,nB,reduceIte,reduceCtorEq,hr]
  (with_reducible and_intros) <;> first | omega | rfl
 ·obtain rfl:l=[]:=by cases l with | nil=>rfl | cons a l=>cases hr
  refine HCalls.conv (Q:=fun x _=>x=.v (.slice none 0 0)∨x=.ow 106 4 (thds [])) ?_ ?_
  ·refine zB (fn:=Tryz.f155) 8 [2] (by kernel_rfl) rfl (by kernel_rfl) (HW.run 400 (by kernel_rfl) ?_)
   cases a with
   | none=>simp +decide only[go_sem,nT,nA,nS,nM,nB,reduceIte,reduceCtorEq]
   | some a=>simp +decide only[go_sem,nT,nA,nS,nM,nB,reduceIte,reduceCtorEq]
  ·rintro x H' (rfl | rfl)
   ·exact ⟨_,rfl,.inr ⟨rfl,Conv.nilOw _ _⟩⟩
   ·exact ⟨_,rfl,.inl rfl⟩
set_option maxHeartbeats 4000000 in
theorem zCX (l:List (Int×Int)) (hl:l.length≤100000000):HFn Tryz.prog 156 [.sl (wrts l)] (.ow 144 2 (wrts l)):=by
 refine zOs (fun hr=>?_) (fun hr a c=>?_)
 ·refine zB (fn:=Tryz.f156) 8 [2] (by kernel_rfl) rfl (by kernel_rfl) (HW.run 400 (by kernel_rfl) ?_)
  simp +decide only[go_sem,nT,nA,nS,nM,nB,reduceIte,reduceCtorEq,hr]
  (with_reducible and_intros) <;> first | omega | rfl
 ·obtain rfl:l=[]:=by cases l with | nil=>rfl | cons a l=>cases hr
  refine HCalls.conv (Q:=fun x _=>x=.v (.slice none 0 0)∨x=.ow 144 2 (wrts [])) ?_ ?_
  ·refine zB (fn:=Tryz.f156) 8 [2] (by kernel_rfl) rfl (by kernel_rfl) (HW.run 400 (by kernel_rfl) ?_)
   cases a with
   | none=>simp +decide only[go_sem,nT,nA,nS,nM,nB,reduceIte,reduceCtorEq]
   | some a=>simp +decide only[go_sem,nT,nA,nS,nM,nB,reduceIte,reduceCtorEq]
  ·rintro x H' (rfl | rfl)
   ·exact ⟨_,rfl,.inr ⟨rfl,Conv.nilOw _ _⟩⟩
   ·exact ⟨_,rfl,.inl rfl⟩
end Go.Proofs.YtoknohandclcbaaGreat
namespace Go.Proofs.YtoknohandclcbaaGreat
open Go.RowKit
set_option maxRecDepth 8000
theorem zPu {b:List (Int×Int)} {m:Nat} {w:Int×Int} (loc:Int) (h:b[m]?=some w):zCx (b.take (m+1)) loc=if w.1=loc then some w.2 else zCx (b.take m) loc:=by
 unfold zCx
 rw[List.take_add_one,h]
 simp only[Option.toList_some,List.reverse_append,List.reverse_cons,List.reverse_nil,List.nil_append,List.cons_append,List.find?_cons]
 by_cases e:w.1=loc <;> simp[e]
theorem zPv (loc:Int):zCx [] loc=none:=rfl
def zTD (b:List (Int×Int)) (loc:Int):Int×Bool:=match zCx b loc with | some n=>(n,true) | none=>(0,false)
theorem zZe (b:List (Int×Int)) (loc:Int) (hb:b.length≤1000000):HFn Tryz.prog 131 [.sl (wrts b),.v (.int .i64 loc)] (.tu [.v (.int .i64 (zTD b loc).1),.v (.bool (zTD b loc).2)]):=by
 refine zB (fn:=Tryz.f131) 26 [4,5] (by kernel_rfl) rfl (by kernel_rfl) (HW.run 400 (by kernel_rfl) ?_)
 simp +decide only[go_sem,nT,nA,nS,nM,nB,reduceIte,reduceCtorEq]
 refine HW.loopG (fun k T H=>∃m:Nat,k=m∧m≤b.length∧zCx b loc=zCx (b.take m) loc∧T 0=.sl (wrts b)∧T 1=.v (.int .i64 loc)∧T 6=.v (.int .i64 ((m:Int)-1))∧H=[]) b.length ⟨_,_,Ghost.refl,b.length,rfl,Nat.le_refl _,by rw[List.take_length],rfl,rfl,?_,rfl⟩ ?_
 ·simp +decide only[go_sem,nB,reduceIte];rw[w64 (by omega) (by omega)]
 rintro m T H ⟨_,rfl,hm,he,h0,h1,h6,rfl⟩
 refine HW.run 200 (by kernel_rfl) ?_
 cases m with
 | zero =>
  have hlt' : ((0:Int)≤((0:Nat):Int)-1)=False:=by simp
  simp +decide only[go_sem,nT,nA,nS,nM,nB,reduceIte,reduceCtorEq,h0,h1,h6,hlt']
  rw[List.take_zero,zPv] at he
  unfold zTD;rw[he]
 | succ m =>
  have hlt' : ((0:Int)≤((m+1:Nat):Int)-1)=True:=by simp only[eq_iff_iff,iff_true];omega
  have hx:b[m]?=some b[m]:=List.getElem?_eq_getElem (by omega)
  generalize b[m]=w at hx
  have hn:(((m+1:Nat):Int)-1).toNat=m:=by omega
  have hc:(((m+1:Nat):Int)-1<(b.length:Int))=True:=by simp only[eq_iff_iff,iff_true];omega
  rw[zPu loc hx] at he
  by_cases hw:w.1=loc
  ·rw[if_pos hw] at he
   simp +decide only[go_sem,nT,nA,nS,nM,nB,reduceIte,reduceCtorEq,h0,h1,h6,hlt',hx,hn,hc,hw]
   unfold zTD;rw[he]
  ·rw[if_neg hw] at he
   simp +decide only[go_sem,nT,nA,nS,nM,nB,reduceIte,reduceCtorEq,h0,h1,h6,hlt',hx,hn,hc,hw]
   refine ⟨_,_,Ghost.refl,m,by omega,m,rfl,by omega,he,?_,?_,?_,rfl⟩
   all_goals first | (simp +decide only[go_sem,nB,reduceIte,h0,h1];done) | (simp +decide only[go_sem,nB,reduceIte];rw[w64 (by omega) (by omega)];exact congrArg (fun z=>HV.v (.int .i64 z)) (by omega))
theorem zSW (b:List (Int×Int)) (mem:List Int) (loc:Int) (hb:b.length≤1000000):HFn Tryz.prog 100 [.sl (wrts b),.sl (ints mem),.v (.int .i64 loc)] (.tu [.v (.int .i64 (zHI b mem loc).1),.v (.bool (zHI b mem loc).2)]):=by
 refine zB (fn:=Tryz.f100) 30 [6,7] (by kernel_rfl) rfl (by kernel_rfl) (HW.run 400 (by kernel_rfl) ?_)
 simp +decide only[go_sem,nT,nA,nS,nM,nB,reduceIte,reduceCtorEq]
 refine zJ 3 (zZe b loc hb) (by simp only[go_sem]) rfl ?_
 unfold zHI zTD
 cases hl:zCx b loc with
 | some n=>simp +decide only[go_sem,nT,nA,nS,nM,nB,reduceIte,reduceCtorEq,hl]
 | none =>
  by_cases c1:0≤loc
  case neg =>
   have c1' : (loc<0)=True:=by simp only[eq_iff_iff,iff_true];omega
   rw[if_neg (fun h=>c1 h.1)]
   simp +decide only[go_sem,nT,nA,nS,nM,nB,reduceIte,reduceCtorEq,hl,c1']
  have c1' : (loc<0)=False:=by simp only[eq_iff_iff,iff_false];omega
  by_cases c2:loc<mem.length
  case neg =>
   have c2' : ((mem.length:Int)≤loc)=True:=by simp only[eq_iff_iff,iff_true];omega
   rw[if_neg (fun h=>c2 h.2)]
   simp +decide only[go_sem,nT,nA,nS,nM,nB,reduceIte,reduceCtorEq,hl,c1',c2']
  have c2' : ((mem.length:Int)≤loc)=False:=by simp only[eq_iff_iff,iff_false];omega
  rw[if_pos ⟨c1,c2⟩]
  have c1t:(0≤loc)=True:=by simp[c1]
  have c2t:(loc<(mem.length:Int))=True:=by simp[c2]
  have hx:mem[loc.toNat]?=some (mem[loc.toNat]'(by omega)):=List.getElem?_eq_getElem (by omega)
  have hg:getI mem loc=mem[loc.toNat]'(by omega):=by unfold getI;rw[hx];rfl
  rw[hg]
  simp +decide only[go_sem,nT,nA,nS,nM,nB,reduceIte,reduceCtorEq,hl,c1',c2',c1t,c2t,hx]
theorem zIi (b:List (Int×Int)) (x y:Int) (hb:b.length≤1000000):HFn Tryz.prog 101 [.sl (wrts b),.ag [.v (.int .i64 x),.v (.int .i64 y)]] (zOF (b++[(x,y)])):=by
 refine zB (fn:=Tryz.f101) 11 [4] (by kernel_rfl) rfl (by kernel_rfl) (HW.run 400 (by kernel_rfl) ?_)
 simp +decide only[go_sem,nT,nA,nS,nM,nB,reduceIte,reduceCtorEq]
 refine HW.mixed 80 7 (1,0) [0,2,5] follows (by kernel_rfl) (by decide) ?_
 simp +decide only[go_sem,nT,nA,nS,nM,nB,reduceIte,reduceCtorEq]
 (with_reducible and_intros) <;> first | omega | rfl
theorem zE4 {w:Int×Int} {r:List (Int×Int)} {mem:List Int} (h:¬(0≤w.1∧w.1<mem.length)):zAI (w::r) mem=(w::r,mem,false):=if_neg h
theorem zID {w:Int×Int} {r:List (Int×Int)} {mem:List Int} (h:0≤w.1∧w.1<mem.length):zAI (w::r) mem=(r,setI mem w.1 w.2,true):=if_pos h
theorem zWX (b:List (Int×Int)) (mem:List Int) (hb:b.length≤1000000) (hm:mem.length≤1000000):HFn Tryz.prog 97 [.sl (wrts b),.sl (ints mem)] (.tu [zOF (zAI b mem).1,zBn (zAI b mem).2.1,.v (.bool (zAI b mem).2.2)]):=by
 refine zB (fn:=Tryz.f97) 49 [4,5,6] (by kernel_rfl) rfl (by kernel_rfl) (HW.run 400 (by kernel_rfl) ?_)
 cases b with
 | nil =>
  have e:zAI [] mem=([],mem,false):=rfl
  simp +decide only[go_sem,nT,nA,nS,nM,nB,reduceIte,reduceCtorEq,e]
  (with_reducible and_intros) <;> first | omega | rfl
 | cons w r =>
  rw[List.length_cons] at hb
  have c0:(((r.length+1:Nat):Int)=0)=False:=by simp only[eq_iff_iff,iff_false];omega
  have c0' : ((0:Int)<((r.length+1:Nat):Int))=True:=by simp only[eq_iff_iff,iff_true];omega
  have c1s:((1:Int)≤((r.length+1:Nat):Int))=True:=by simp only[eq_iff_iff,iff_true];omega
  have hx:(w::r)[(0:Int).toNat]?=some w:=rfl
  by_cases c1:0≤w.1
  case neg =>
   have c1' : (w.1<0)=True:=by simp only[eq_iff_iff,iff_true];omega
   have e:=zE4 (r:=r) (fun h=>c1 h.1:¬(0≤w.1∧w.1<mem.length))
   simp +decide only[go_sem,nT,nA,nS,nM,nB,reduceIte,reduceCtorEq,c0,c0',hx,c1',e]
   (with_reducible and_intros) <;> first | omega | rfl
  have c1' : (w.1<0)=False:=by simp only[eq_iff_iff,iff_false];omega
  by_cases c2:w.1<mem.length
  case neg =>
   have c2' : ((mem.length:Int)≤w.1)=True:=by simp only[eq_iff_iff,iff_true];omega
   have e:=zE4 (r:=r) (fun h=>c2 h.2:¬(0≤w.1∧w.1<mem.length))
   simp +decide only[go_sem,nT,nA,nS,nM,nB,reduceIte,reduceCtorEq,c0,c0',hx,c1',c2',e]
   (with_reducible and_intros) <;> first | omega | rfl
  have c2' : ((mem.length:Int)≤w.1)=False:=by simp only[eq_iff_iff,iff_false];omega
  have e:=zID (r:=r) ⟨c1,c2⟩
  have c1t:(0≤w.1)=True:=by simp[c1]
  have c2t:(w.1<(mem.length:Int))=True:=by simp[c2]
  have hy:mem[w.1.toNat]?=some (mem[w.1.toNat]'(by omega)):=List.getElem?_eq_getElem (by omega)
  simp +decide only[go_sem,nT,nA,nS,nM,nB,reduceIte,reduceCtorEq,c0,c0',hx,c1',c2',c1t,c2t,e,hy]
  repeat (with_reducible refine And.intro ?_ ?_;·(with_reducible and_intros) <;> omega)
  refine HW.anyLate 80 10 follows (by kernel_rfl) (by decide) ?_
  simp +decide only[go_sem,nT,nA,nS,nM,nB,reduceIte,reduceCtorEq,c0,c0',c1s,hx,c1',c2',c1t,c2t,e,hy,Nat.add_sub_cancel,List.length_set]
  repeat (with_reducible refine And.intro ?_ ?_;·(with_reducible and_intros) <;> omega)
  rfl
end Go.Proofs.YtoknohandclcbaaGreat
namespace Go.Proofs.YtoknohandclcbaaGreat
open Go.RowKit
section
variable {N L:Nat} {T:Nat→HV} {H:Heap}
theorem Ghost.open (id r c:Nat):Ghost N L T H T (zD0 H id r c):=fun B Z G FP ds a w hL hs=>by
 obtain ⟨G',FP',h1,h2,h3⟩:=zKh hs.inv id r c
 exact ⟨Z,G',FP',hs.evo h1 h2 h3,GLt.of hL h2,h3⟩
theorem Ghost.to {T' : Nat→HV} {H1 H2:Heap} (g:Ghost N L T H T' H1) (e:H1=H2):Ghost N L T H T' H2:=e▸g
theorem zVC {id r c j len:Nat} {ob oj:HObj} {row:List HV} (ho:H[id]?=some (some ob)) (hr:ob.rows[r]?=some row) (hc:row[c]?=some (.hd j 0 len)) (hj:H[j]?=some (some oj)) (h1:j≠id) (h2:len=oj.rows.length) (h3:nmR 0 oj.rows=true) :
  absorb H id r c=(H.set j none).set id (some { ob with rows:=ob.rows.set r (row.set c (.ow oj.e oj.sz oj.rows)) }):=by
 unfold absorb
 simp only[ho,hr,hc,hj]
 rw[if_pos ⟨h1,h2,h3⟩]
theorem Ghost.absorbHd (id r c:Nat) {j len:Nat} {ob oj:HObj} {row:List HV} (ho:H[id]?=some (some ob)) (hr:ob.rows[r]?=some row) (hc:row[c]?=some (.hd j 0 len)) (hj:H[j]?=some (some oj)) (h1:j≠id) (h2:len=oj.rows.length) (h3:nmR 0 oj.rows=true) :
  Ghost N L T H T ((H.set j none).set id (some { ob with rows:=ob.rows.set r (row.set c (.ow oj.e oj.sz oj.rows)) })):=(Ghost.absorb id r c).to (zVC ho hr hc hj h1 h2 h3)
theorem zI8 {A:List (List HV)} {r:List HV} {i:Nat} (h:A.length=i):(A++[r])[i]?=some r:=by subst h;simp
theorem zI1 {A:List (List HV)} {r x:List HV} {i:Nat} (h:A.length=i):(A++[r]).set i x=A++[x]:=by subst h;simp
variable {R:(Nat→HV)→Heap→Prop} {T' : Nat→HV} {H' : Heap}
theorem GQ.step (g:Ghost N L T H T' H') (h:GQ N L R T' H'):GQ N L R T H:=by
 obtain ⟨T2,H2,g2,hR⟩:=h
 exact ⟨T2,H2,g.trans g2,hR⟩
theorem GQ.done (h:R T H):GQ N L R T H:=⟨T,H,Ghost.refl,h⟩
end
theorem zXU {H:Heap} {id r c:Nat}:zD4 H id r c 4=zD0 (zD0 (zD0 (zD0 H id r c) id r (c+1)) id r (c+1+1)) id r (c+1+1+1):=rfl
theorem zC5 {A:List (List HV)} {i:Nat} (h:i<A.length) (X:List HV):(A.set i X)[i]?=some X:=by simp[h]
theorem set_set {A:List (List HV)} {i:Nat} (X Y:List HV):(A.set i X).set i Y=A.set i Y:=by simp
theorem yBP {k:Nat} {H:Heap} {e:TypeId} {sz:Nat} {rows:List (List HV)}:fz (k+1) H (.ow e sz rows)=.sl (fzoR rows):=rfl
attribute [go_sem] yBP zXU set_set Option.getD_some Option.getD_none Option.isSome_none List.length_set
end Go.Proofs.YtoknohandclcbaaGreat
namespace Go.Proofs.YtoknohandclcbaaGreat
open Go.RowKit
set_option maxRecDepth 8000
def thdB:Thd:=⟨0,[0,0,0,0],false,[]⟩
theorem zL8 (p:Prg):zI p=⟨p.init,List.replicate p.thr.length thdB⟩:=by
 unfold zI thdB
 rw[List.map_const']
set_option maxHeartbeats 1000000 in
theorem zWZ (p:Prg) (hp:p.thr.length≤1000) (hi:p.init.length≤1000):HFn Tryz.prog 62 [prgH p] (staH (zI p)):=by
 rw[zL8]
 refine zAk (fn:=Tryz.f62) 3 25 [.cell 2 79] (by kernel_rfl) rfl rfl (by kernel_rfl) (HW.run 400 (by kernel_rfl) ?_)
 simp +decide only[go_sem,nT,nA,nS,nM,nB,reduceIte,reduceCtorEq]
 repeat (with_reducible refine And.intro ?_ ?_;·(with_reducible and_intros) <;> omega)
 refine HW.loopG (fun k T H=>∃i:Nat,k=p.thr.length-i∧i≤p.thr.length∧T 1=.pt 0 1 0 0∧T 2=.pt 1 1 0 0∧T 3=.pt 3 1 0 0∧T 4=.v (.int .i64 i)∧
  H=[some ⟨25,2,[[.sl (ints p.init),.sl (thrs p.thr)]]⟩,some ⟨79,2,[[.v (.slice none 0 0),.v (.slice none 0 0)]]⟩,some ⟨3,1,ints p.init⟩,some ⟨79,2,[[.hd 2 0 p.init.length,.hd 4 0 i]]⟩,some ⟨106,4,zX (List.replicate i thdB)⟩]) p.thr.length
  ⟨_,_,(Ghost.cell 3 0 1 (.ow 106 4 []) rfl rfl rfl rfl (Conv.nilOw _ _) (by simp)).trans (Ghost.open 3 0 1),0,rfl,by omega,rfl,rfl,rfl,rfl,?_⟩ ?_
 ·rfl
 rintro k T H ⟨i,rfl,hi,h1,h2,h3,h4,rfl⟩
 refine HW.run 200 (by kernel_rfl) ?_
 by_cases hlt:i<p.thr.length
 ·have hlt' : ((i:Int)<(p.thr.length:Int))=True:=by rw[zR];simp[hlt]
  simp +decide only[go_sem,nT,nA,nS,nM,nB,reduceIte,reduceCtorEq,h1,h2,h3,h4,hlt']
  repeat (with_reducible refine And.intro ?_ ?_;·(with_reducible and_intros) <;> omega)
  refine HW.mixed 80 6 (4,0) [2,4,5] follows (by kernel_rfl) (by decide) ?_
  simp +decide only[go_sem,nT,nA,nS,nM,nB,reduceIte,reduceCtorEq,h1,h2,h3,h4,hlt',List.length_replicate]
  repeat (with_reducible refine And.intro ?_ ?_;·(with_reducible and_intros) <;> omega)
  have hlen:(zX (List.replicate i thdB)).length=i:=by simp[zX]
  have hrl:∀X,(zX (List.replicate i thdB)++[X])[i]?=some X:=fun X=>zI8 hlen
  have hsl:∀X Y,(zX (List.replicate i thdB)++[X]).set i Y=zX (List.replicate i thdB)++[Y]:=fun X Y=>zI1 hlen
  refine GQ.step (Ghost.absorb 4 i 1) ?_
  simp +decide only[go_sem,nT,nA,nS,nM,nB,reduceIte,reduceCtorEq,hrl,hsl,zB1,zB0]
  refine GQ.step (Ghost.cell 4 i 3 (.ow 144 2 []) rfl (hrl _) rfl rfl (Conv.nilOw _ _) (by simp)) ?_
  refine GQ.step (Ghost.trunc [1,2,3,4] 5 (by omega) ?_ ?_) (GQ.done ⟨p.thr.length-(i+1),by omega,i+1,rfl,by omega,?_,?_,?_,?_,?_⟩)
  ·simp +decide only[go_sem,nB,reduceIte,h1,h2,h3]
  ·simp +decide only[go_sem,nB,reduceIte,hsl,zBg,List.set_cons_succ,List.set_cons_zero]
  iterate 3 simp +decide only[go_sem,nB,reduceIte,h1,h2,h3]
  ·simp +decide only[go_sem,nB,reduceIte];rw[w64 (by omega) (by omega)];rfl
  ·have e:zX (List.replicate (i+1) thdB)=zX (List.replicate i thdB)++[zBA thdB]:=by rw[List.replicate_succ',←zDG]
   simp +decide only[go_sem,nT,nA,nS,nM,nB,reduceIte,reduceCtorEq,hsl]
   rw[e]
   rfl
 ·have hlt' : ((i:Int)<(p.thr.length:Int))=False:=by rw[zR];simp[hlt]
  have e:i=p.thr.length:=by omega
  simp +decide only[go_sem,nT,nA,nS,nM,nB,reduceIte,reduceCtorEq,h1,h2,h3,h4,hlt',List.length_replicate]
  rw[e]
set_option maxHeartbeats 2000000 in
theorem zYo (s:Sta) (hm:s.mem.length≤100000) (ht:s.ths.length≤1000) (hr:∀t∈s.ths,t.regs.length≤100000∧t.buf.length≤100000):HFn Tryz.prog 96 [staH s] (staO s):=by
 refine zV (fn:=Tryz.f96) 40 [.cell 2 79] (by kernel_rfl) rfl rfl (by kernel_rfl) (HW.run 400 (by kernel_rfl) ?_)
 simp +decide only[go_sem,nT,nA,nS,nM,nB,reduceIte,reduceCtorEq]
 repeat (with_reducible refine And.intro ?_ ?_;·(with_reducible and_intros) <;> omega)
 refine HW.loopG (fun k T H=>∃i:Nat,k=s.ths.length-i∧i≤s.ths.length∧T 1=.pt 0 1 0 0∧T 2=.pt 1 1 0 0∧T 3=.pt 3 1 0 0∧T 4=.v (.int .i64 i)∧
  H=[some ⟨79,2,[[.sl (ints s.mem),.sl (thds s.ths)]]⟩,some ⟨79,2,[[.v (.slice none 0 0),.v (.slice none 0 0)]]⟩,some ⟨3,1,ints s.mem⟩,some ⟨79,2,[[.hd 2 0 s.mem.length,.hd 4 0 i]]⟩,some ⟨106,4,zX (s.ths.take i)⟩]) s.ths.length
  ⟨_,_,(Ghost.cell 3 0 1 (.ow 106 4 []) rfl rfl rfl rfl (Conv.nilOw _ _) (by simp)).trans (Ghost.open 3 0 1),0,rfl,by omega,rfl,rfl,rfl,rfl,?_⟩ ?_
 ·rfl
 rintro k T H ⟨i,rfl,hi,h1,h2,h3,h4,rfl⟩
 refine HW.run 200 (by kernel_rfl) ?_
 by_cases hlt:i<s.ths.length
 ·have hlt' : ((i:Int)<(s.ths.length:Int))=True:=by rw[zR];simp[hlt]
  have hx:s.ths[i]?=some s.ths[i]:=List.getElem?_eq_getElem hlt
  obtain ⟨r1,r2⟩:=hr _ (List.getElem_mem hlt)
  have htk:s.ths.take (i+1)=s.ths.take i++[s.ths[i]]:=by rw[List.take_add_one,hx];rfl
  generalize s.ths[i]=x at hx r1 r2 htk
  have hlk:(s.ths.take i).length=i:=by rw[List.length_take];omega
  have hlen:(zX (s.ths.take i)).length=i:=by simp[zX];omega
  have hrl:∀X,(zX (s.ths.take i)++[X])[i]?=some X:=fun X=>zI8 hlen
  have hsl:∀X Y,(zX (s.ths.take i)++[X]).set i Y=zX (s.ths.take i)++[Y]:=fun X Y=>zI1 hlen
  simp +decide only[go_sem,nT,nA,nS,nM,nB,reduceIte,reduceCtorEq,h1,h2,h3,h4,hlt',hx,hlk]
  repeat (with_reducible refine And.intro ?_ ?_;·(with_reducible and_intros) <;> omega)
  refine GQ.step (Ghost.absorb 4 i 1) ?_
  simp +decide only[go_sem,nT,nA,nS,nM,nB,reduceIte,reduceCtorEq,hrl,hsl]
  refine GQ.step (Ghost.absorb 4 i 3) ?_
  simp +decide only[go_sem,nT,nA,nS,nM,nB,reduceIte,reduceCtorEq,hrl,hsl]
  refine GQ.step (Ghost.trunc [1,2,3,4] 5 (by omega) ?_ ?_) (GQ.done ⟨s.ths.length-(i+1),by omega,i+1,rfl,by omega,?_,?_,?_,?_,?_⟩)
  ·simp +decide only[go_sem,nB,reduceIte,h1,h2,h3]
  ·simp +decide only[go_sem,nB,reduceIte]
  iterate 3 simp +decide only[go_sem,nB,reduceIte,h1,h2,h3]
  ·simp +decide only[go_sem,nB,reduceIte];rw[w64 (by omega) (by omega)];rfl
  ·simp +decide only[go_sem,nT,nA,nS,nM,nB,reduceIte,reduceCtorEq,htk]
 ·have hlt' : ((i:Int)<(s.ths.length:Int))=False:=by rw[zR];simp[hlt]
  have e:i=s.ths.length:=by omega
  have htk:s.ths.take i=s.ths:=by rw[e,List.take_length]
  simp +decide only[go_sem,nT,nA,nS,nM,nB,reduceIte,reduceCtorEq,h1,h2,h3,h4,hlt',htk]
  rw[if_pos e]
end Go.Proofs.YtoknohandclcbaaGreat
