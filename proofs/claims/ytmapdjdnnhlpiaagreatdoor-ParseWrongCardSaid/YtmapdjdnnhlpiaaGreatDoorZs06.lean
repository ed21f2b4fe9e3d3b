/- Parts of the proof: HiW, HiX, Yr, Ys, Yt, Yg. -/
import Derived.Test.YtmapdjdnnhlpiaaGreatDoorZs05
import Derived.RangeFuncNested
import Derived.Test.YtmapdjdnnhlpiaaGreatDoorProg
import Derived.Test.YtmapdjdnnhlpiaaGreatDoorChecked
import Derived.Shelf.Vars
import Derived.KernelRfl
import Derived.ProofKit
import Derived.Test.YtmapdjdnnhlpiaaGreatDoorRows
import Derived.WalkKit
import Derived.HandedShaped
import Derived.LaidLaws
import Derived.LaidMore
import Derived.LaidHandle
import Derived.LaidSub
import Derived.Stop.LaidTwo
import Derived.ChangeSame
import Derived.ChangeVars
import Derived.JoinedOf
import Derived.RowKit
import Derived.RowKitTokens
import Derived.OpenShut
import Derived.ShutString
import Derived.ChangeOld
import Derived.Carry
import Derived.Below
import Derived.ChangeArms
import Derived.ChangeSlices
set_option linter.unusedSectionVars false
set_option linter.unusedVariables false
set_option linter.unusedSimpArgs false
namespace Go.Proofs.YtmapdjdnnhlpiaaGreatDoor
open Go.RowKit
mutual
theorem nm_mono {m m' : Nat} (h:m≤m'):∀x:HV,nm m x=true→nm m' x=true
 | .hd ..,hx=>by simp only[nm,decide_eq_true_eq] at hx⊢;omega
 | .pt ..,hx=>by simp only[nm,decide_eq_true_eq] at hx⊢;omega
 | .mp _,hx=>by simp only[nm,decide_eq_true_eq] at hx⊢;omega
 | .yl _,hx=>by simp only[nm,decide_eq_true_eq] at hx⊢;omega
 | .ag cs,hx=>by simp only[nm] at hx⊢;exact nmL_mono h cs hx
 | .tu cs,hx=>by simp only[nm] at hx⊢;exact nmL_mono h cs hx
 | .fn _ cs,hx=>by simp only[nm] at hx⊢;exact nmL_mono h cs hx
 | .ic _ x,hx=>by simp only[nm] at hx⊢;exact nm_mono h x hx
 | .any,_=>rfl
 | .v _,_=>rfl
 | .sl _,_=>rfl
 | .ow ..,_=>rfl
 | .fp ..,_=>rfl
 | .bx ..,_=>rfl
 | .ob _,_=>rfl
 | .om ..,_=>rfl
 | .gv _,_=>rfl
theorem nmL_mono {m m' : Nat} (h:m≤m'):∀l:List HV,nmL m l=true→nmL m' l=true
 | [],_=>rfl
 | x::l,hx=>by
  simp only[nmL,Bool.and_eq_true] at hx⊢
  exact ⟨nm_mono h x hx.1,nmL_mono h l hx.2⟩
end
theorem nmR_mono {m m' : Nat} (h:m≤m'):∀l:List (List HV),nmR m l=true→nmR m' l=true
 | [],_=>rfl
 | x::l,hx=>by
  simp only[nmR,Bool.and_eq_true] at hx⊢
  exact ⟨nmL_mono h x hx.1,nmR_mono h l hx.2⟩
def tvT (T:Nat→HV):Nat→HV:=fun i=>if tv (T i)=true then T i else .any
theorem tvT_tv (T:Nat→HV) (i:Nat):tv (tvT T i)=true:=by
 unfold tvT
 split
 ·assumption
 ·rfl
theorem tvs_map {f:Nat→HV} (h:∀i,tv (f i)=true):∀l:List Nat,tvs (l.map f)=true
 | []=>rfl
 | a::l=>by simp only[List.map_cons,tvs,h a,tvs_map h l,Bool.and_self]
def recO (N:Nat) (T:Nat→HV) (r:Loop):HObj:=⟨0,N+1,[.ob (.loop { r with tmps:=#[] })::(List.range N).map (tvT T)]⟩
def setPs (T:Nat→HV):List Nat→List HV→Nat→HV
 | p::ps,h::hs=>setPs (upd T p h) ps hs
 | _,_=>T
section
variable {Z:Nat→Prop} {G:List (Option OG)} {FP:Nat→List Nat} {H:Heap} {w:World} {P:Program} {N:Nat} {T:Nat→HV}
theorem setPs_spec:∀(ps:List Nat) (hs:List HV) (vs:List Value) (T:Nat→HV) (tm:Array Value),RL Z G w hs vs []→tm.size=N→(∀i,i<N→RV Z G w (T i) (tm.getD i undef) [])→
  ((ps.zip vs).foldl (fun t (p:Nat×Value)=>t.setIfInBounds p.1 p.2) tm).size=N∧∀i,i<N→RV Z G w (setPs T ps hs i) (((ps.zip vs).foldl (fun t (p:Nat×Value)=>t.setIfInBounds p.1 p.2) tm).getD i undef) []
 | [],hs,vs,T,tm,_,hsz,h=>by simp only[setPs,List.zip_nil_left,List.foldl_nil];exact ⟨hsz,h⟩
 | p::ps,[],vs,T,tm,hr,hsz,h=>by
  simp only[RL] at hr
  obtain ⟨rfl,_⟩:=hr
  simp only[setPs,List.zip_nil_right,List.foldl_nil];exact ⟨hsz,h⟩
 | p::ps,x::hs,vs,T,tm,hr,hsz,h=>by
  simp only[RL] at hr
  obtain ⟨y,ys,f1,f2,rfl,hf,h1,h2⟩:=hr
  obtain ⟨rfl,rfl⟩:=List.append_eq_nil_iff.1 hf.symm
  simp only[setPs,List.zip_cons_cons,List.foldl_cons]
  refine setPs_spec ps hs ys (upd T p x) (tm.setIfInBounds p y) h2 (by simp[hsz]) (fun i hi=>?_)
  unfold upd
  by_cases e:i=p
  ·subst e
   rw[if_pos rfl]
   simpa [Array.getD_eq_getD_getElem?,hsz,hi] using h1
  ·rw[if_neg e]
   have:=h i hi
   simpa [Array.getD_eq_getD_getElem?,Array.getElem?_setIfInBounds_ne (Ne.symm e)] using this
theorem RL_range {tm:Array Value} (hsz:tm.size=N) (h:∀i,i<N→RV Z G w (T i) (tm.getD i undef) []):RL Z G w ((List.range N).map T) tm.toList []:=by
 have key:∀(l:List Nat),(∀i∈l,i<N)→RL Z G w (l.map T) (l.map fun i=>tm.getD i undef) []:=by
  intro l
  induction l with
  | nil=>intro _;simp[RL]
  | cons a l ih =>
   intro hl
   simp only[List.map_cons,RL]
   exact ⟨_,_,[],[],rfl,rfl,h a (hl a (by simp)),ih (fun i hi=>hl i (by simp[hi]))⟩
 have e:tm.toList=(List.range N).map fun i=>tm.getD i undef:=by
  apply List.ext_getElem?
  intro i
  by_cases hi:i<N
  ·have h1:i<tm.size:=by omega
   simp[hi,h1]
  ·have h1:¬i<tm.size:=by omega
   simp[hi,h1]
 rw[e]
 exact key _ (fun i hi=>by simpa using hi)
theorem RL_range_get {tm:Array Value} (h:RL Z G w ((List.range N).map T) tm.toList []):tm.size=N∧∀i,i<N→RV Z G w (T i) (tm.getD i undef) []:=by
 have hl:=RL_length _ _ _ h
 have hsz:tm.size=N:=by simpa using hl
 refine ⟨hsz,fun i hi=>?_⟩
 obtain ⟨y,f,hy,hr,hsub⟩:=RL_get _ _ _ h i (T i) (by simp[hi])
 have:f=[]:=List.eq_nil_of_sublist_nil hsub
 subst this
 have:tm.getD i undef=y:=by
  rw[Array.getElem?_toList] at hy
  simp[Array.getD_eq_getD_getElem?,hy]
 rw[this];exact hr
theorem rec_at {Hi:Heap} {rc:Loop} (hi:HInv Z G FP (Hi++[some (recO N T rc)]) w) :
  ∃l tm,G[Hi.length]?=some (some ⟨none,0,N+1,1,l⟩)∧FP Hi.length=[l]∧w.heap[l]?=some (.loop { rc with tmps:=tm })∧RL Z G w ((List.range N).map (tvT T)) tm.toList []:=by
 obtain ⟨g,hg,hob⟩:=hi.live Hi.length (recO N T rc) (by simp)
 rcases hob.at_ with ⟨_,e,_⟩ | ⟨b,cells,f,_,_,_,_,_,_,e⟩ | ⟨x,hs,obj,f,e1,e2,e3,e4,e5,e6⟩
 ·simp[recO] at e
 ·simp only[recO,RR,RC,RV] at e
  obtain ⟨_,_,_,⟨_,_,_,_,_,_,h,_⟩,_⟩:=e
  exact h.elim
 ·simp only[recO,List.cons.injEq,HV.ob.injEq,and_true] at e2
  obtain ⟨rfl,rfl⟩:=e2
  have hf:f=[]:=RL_tvs _ _ _ (tvs_map (tvT_tv T) _) e6
  subst hf
  obtain ⟨tm,rfl⟩:∃tm,obj=.loop { rc with tmps:=tm }:=by
   cases obj <;> simp[obSkel] at e5
   rename_i r
   cases r;cases rc
   simp at e5
   simp[e5]
  have ge:g=⟨none,0,N+1,1,g.cap⟩:=by
   have h1:=hob.e;have h2:=hob.sz;have h3:=hob.n
   cases g
   simp[recO] at h1 h2 h3 e1
   simp[h1,h2,h3,e1]
  refine ⟨g.cap,tm,by rw[hg,←ge],e3,e4,e6⟩
theorem St.putRec {B:Nat} {ds:List Nat} {a:Act} {l:Nat} {r:Loop} {o' : Obj} (hs:St N B Z G FP ds T H a w) (hz:¬Z l) (hf:∀id,l∉FP id) (hl:w.heap[l]?=some (.loop r)):St N B Z G FP ds T H a (w.putObj l o'):=by
 have hk:∀b,b≠l→(w.putObj l o').heap[b]?=w.heap[b]?:=fun b hb=>World.putObj_heap_other hb
 refine ⟨hs.inv.keep (by simp) (fun b hb=>hk b ?_),hs.size,fun i hi=>RV.nil_keep (fun b hb=>hk b (fun e=>hz (e▸hb))) (fun _ h=>h) (GLe.refl _) (hs.tmps i hi),hs.defers,hs.dsn,fun d hd=>?_⟩
 ·rintro rfl
  rcases hb with hb | ⟨id,hb⟩
  ·exact hz hb
  ·exact hf id hb
 ·obtain ⟨h1,h2,h3,h4⟩:=hs.dsat d hd
  refine ⟨h1,(hk d ?_).trans h2,h3,h4⟩
  rintro rfl
  rw[hl] at h2;cases h2
def RQ (N L:Nat) (I:Heap→Prop) (X:Code→Heap→Prop):Exit→KS
 | .normal=>GQ N L fun _ H=>H.length=L∧I H
 | .ret=>GQ N L fun _ H=>H.length=L∧X .ret H
 | .exit i=>GQ N L fun _ H=>H.length=L∧X (.exit i) H
 | .goto t=>GQ N L fun _ H=>H.length=L∧X (.goto t) H
 | _=>fun _ _=>False
theorem HYield_round {Hi:Heap} {rc:Loop} {x:List HV} {I:Heap→Prop} {X:Code→Heap→Prop} (hr:rc.state=.ready) (hx:x.length=rc.params.size) (hnm:nmH Hi.length Hi=true) (hxn:nmL Hi.length x=true)
  (hT:∀i,i<N→nm Hi.length (tvT T i)=true)
  (round:HW P N Hi.length rc.assign (fin (HW P N Hi.length rc.body (RQ N Hi.length I X)) (fun _ _ _=>False)) (setPs (tvT T) rc.params.toList x) Hi) :
  HYield P Hi.length (Hi++[some (recO N T rc)]) x (fun b H'=>if b=true then ∃H2,H'=H2++[some (recO N T { rc with state:=.ready,pending:=none })]∧H2.length=Hi.length∧nmH Hi.length H2=true∧I H2
   else ∃H2 c,H'=H2++[some (recO N T { rc with state:=.done,pending:=some c })]∧H2.length=Hi.length∧nmH Hi.length H2=true∧X c H2):=by
 intro ro m Z G FP w l vals hi hy ha
 obtain ⟨l',tm,hg,hfp,hl,hrl⟩:=rec_at hi
 simp only[RV] at hy
 obtain ⟨_,hlt,l2,hl2,hcap⟩:=hy
 cases hl2
 have hll:l=l':=(hcap _ hg).2 rfl rfl
 subst hll
 have hlen:=hi.len
 simp only[List.length_append,List.length_cons,List.length_nil] at hlen
 obtain ⟨hsz,htm⟩:=RL_range_get hrl
 have hnm' : nmH Hi.length (Hi++[some (recO N T rc)])=true:=by
  have:(Hi++[some (recO N T rc)]).take Hi.length=Hi.take Hi.length:=by simp
  unfold nmH at hnm⊢
  rw[this];exact hnm
 have hic:=hi.trunc Hi.length hnm'
 rw[List.take_left] at hic
 have htm' : ∀i,i<N→RV Z (G.take Hi.length) w (tvT T i) (tm.getD i undef) []:=fun i hi'=>nm_spec _ _ G _ [] (hT i hi') (htm i hi')
 have hxr:RL Z (G.take Hi.length) w x vals []:=nmL_spec _ _ G _ [] hxn ha
 have hvl:=RL_length _ _ _ ha
 obtain ⟨hsz2,htm2⟩:=setPs_spec rc.params.toList x vals (tvT T) tm hxr hsz htm'
 have efold:(rc.params.zip vals.toArray).foldl (fun tmps (t,a)=>tmps.setIfInBounds t a) tm=(rc.params.toList.zip vals).foldl (fun t (p:Nat×Value)=>t.setIfInBounds p.1 p.2) tm:=by
  rw[←Array.foldl_toList]
  simp[Array.toList_zip]
 obtain ⟨FPt,hFPt⟩:∃FPt:Nat→List Nat,FPt=fun j=>if j<Hi.length then FP j else []:=⟨_,rfl⟩
 rw[←hFPt] at hic
 have hlFP:∀id,l∉FPt id:=fun id hc=>by
  rw[hFPt] at hc
  by_cases e:id<Hi.length
  ·simp only[if_pos e] at hc
   have:=hi.disj id Hi.length l hc (by rw[hfp];simp)
   omega
  ·simp[e] at hc
 have hlZ:¬Z l:=hi.zfp Hi.length l (by rw[hfp];simp)
 have hlw:l<w.heap.size:=(Array.getElem?_eq_some_iff.1 hl).1
 have hst:St N 0 Z (G.take Hi.length) FPt [] (setPs (tvT T) rc.params.toList x) Hi { tmps:=(rc.params.zip vals.toArray).foldl (fun tmps (t,a)=>tmps.setIfInBounds t a) tm,defers:=[] } w:=by
  rw[efold]
  exact ⟨hic,hsz2,htm2,rfl,by simp,by simp⟩
 have hGl:(G.take Hi.length).length=Hi.length:=by simp;omega
 refine ⟨rc.fn,_,rc.assign,rc.body,run_yield (P:=P) (r:={ rc with tmps:=tm }) (args:=vals.toArray) hl (by simp[hvl,hx]),roundIn_of_wpIn trivial ?_⟩
 refine wpIn_mono (round (some l) m 0 Z _ FPt [] _ w ⟨Nat.zero_le _,fun l' e=>by cases e;exact ⟨_,hl,hlFP⟩⟩ (by rw[hGl];exact Nat.le_refl _) hst) ?_
 rintro e a1 w1 ⟨T1,H1,Z1,G1,FP1,ds1,hq,hs1,hG1,hE1⟩
 cases e with
 | normal =>
  have keepl:∀{Za Zb:Nat→Prop} {FPa FPb:Nat→List Nat} {wa wb:World} {ob:Obj},Evo Za FPa wa Zb FPb wb→wa.heap[l]?=some ob→¬Za l→(∀id,l∉FPa id)→wb.heap[l]?=some ob∧¬Zb l∧∀id,l∉FPb id:=by
   intro Za Zb FPa FPb wa wb ob hE h1 h2 h3
   have hlt:l<wa.heap.size:=(Array.getElem?_eq_some_iff.1 h1).1
   refine ⟨(hE.keep l hlt h3).trans h1,fun hc=>?_,fun id hc=>?_⟩
   ·rcases hE.znew l hc with k | k | ⟨id,k⟩
    ·exact h2 k
    ·omega
    ·exact h3 id k
   ·rcases hE.fnew id l hc with k | ⟨id',k⟩
    ·omega
    ·exact h3 id' k
  obtain ⟨hl1,hlZ1,hlF1⟩:=keepl hE1 hl hlZ hlFP
  refine ⟨_,run_beginRound hl1 hr,?_⟩
  have hs1':=hs1.putRec (o':=.loop { rc with tmps:=tm,state:=.busy }) hlZ1 hlF1 hl1
  have hl1' : (w1.putObj l (.loop { rc with tmps:=tm,state:=.busy })).heap[l]?=some (.loop { rc with tmps:=tm,state:=.busy }):=World.putObj_heap_same (Array.getElem?_eq_some_iff.1 hl1).1
  have hE1' : ∀b,b≠l→(w1.putObj l (.loop { rc with tmps:=tm,state:=.busy })).heap[b]?=w1.heap[b]?:=fun b hb=>World.putObj_heap_other hb
  refine wpIn_mono (hq (some l) m 0 Z1 G1 FP1 ds1 a1 _ ⟨Nat.zero_le _,fun l' e=>by cases e;exact ⟨_,hl1',hlF1⟩⟩ hG1.len hs1') ?_
  have fin:∀(jump:Option Code) (T3:Nat→HV) (H3:Heap) (Z3:Nat→Prop) (G3:List (Option OG)) (FP3:Nat→List Nat) (ds3:List Nat) (a3:Act) (w3:World),St N 0 Z3 G3 FP3 ds3 T3 H3 a3 w3→H3.length=Hi.length→GLt Hi.length G1 G3→
    Evo Z1 FP1 (w1.putObj l (.loop { rc with tmps:=tm,state:=.busy })) Z3 FP3 w3→(∀K:Bool→Heap→Prop,K jump.isNone (H3++[some (recO N T { rc with state:=if jump.isNone then .ready else .done,pending:=jump })])→
    ∃v w',(Instr.endRound l jump).run P w3=.ok v w'∧Post Z G FP (Hi++[some (recO N T rc)]) w (fun r H'=>∃b,r=.v (.bool b)∧K b H') (.returned v) w'):=by
   intro jump T3 H3 Z3 G3 FP3 ds3 a3 w3 hs3 hlen3 hG3 hE3 K hK
   obtain ⟨hl3,hlZ3,hlF3⟩:=keepl hE3 hl1' hlZ1 hlF1
   have hl3lt:=(Array.getElem?_eq_some_iff.1 hl3).1
   refine ⟨_,_,run_endRound jump hl3,?_⟩
   have hk4:∀b,b≠l→(w3.putObj l (.loop { rc with tmps:=tm,state:=if jump.isNone then .ready else .done,pending:=jump })).heap[b]?=w3.heap[b]?:=fun b hb=>World.putObj_heap_other hb
   have hs4:=hs3.putRec (o':=.loop { rc with tmps:=tm,state:=if jump.isNone then .ready else .done,pending:=jump }) hlZ3 hlF3 hl3
   have hG3l:G3.length=Hi.length:=hs3.inv.len.trans hlen3
   have hGt3:GLe (G.take Hi.length) G3:=by
    have:=hG1.trans hG3
    exact ⟨by omega,fun id hid=>this.at_ id (by omega)⟩
   have hZall:∀b,Z b→b≠l:=fun b hb e=>hlZ (e▸hb)
   have kept:∀b,b<w.heap.size→(∀id,b∉FPt id)→b≠l→(w3.putObj l (.loop { rc with tmps:=tm,state:=if jump.isNone then .ready else .done,pending:=jump })).heap[b]?=w.heap[b]?:=by
    intro b hb hf hne
    rw[hk4 b hne]
    have hf1:∀id,b∉FP1 id:=fun id hc=>by
     rcases hE1.fnew id b hc with k | ⟨id',k⟩
     ·omega
     ·exact hf id' k
    have hb1:b<(w1.putObj l (.loop { rc with tmps:=tm,state:=.busy })).heap.size:=by simp;exact Nat.lt_of_lt_of_le hb hE1.size
    exact ((hE3.keep b hb1 hf1).trans (hE1' b hne)).trans (hE1.keep b hb hf)
   have hZk:∀b,Z b→(w3.putObj l (.loop { rc with tmps:=tm,state:=if jump.isNone then .ready else .done,pending:=jump })).heap[b]?=w.heap[b]?:=fun b hb =>
    kept b (hi.zlt b hb) (fun id hc=>by
     rw[hFPt] at hc
     by_cases e:id<Hi.length
     ·simp only[if_pos e] at hc;exact hi.zfp id b hc hb
     ·simp[e] at hc) (hZall b hb)
   have hnew:=hs4.inv.new (w':=w3.putObj l (.loop { rc with tmps:=tm,state:=if jump.isNone then .ready else .done,pending:=jump })) (o:=recO N T { rc with state:=if jump.isNone then .ready else .done,pending:=jump }) (g:=⟨none,0,N+1,1,l⟩) (fp:=[l])
    (Nat.le_refl _) (fun _ _=>rfl) ⟨rfl,rfl,rfl,by simp[recO],.inr (.inr ⟨_,_,.loop { rc with tmps:=tm,state:=if jump.isNone then .ready else .done,pending:=jump },[],rfl,rfl,rfl,World.putObj_heap_same hl3lt,rfl,RL_range hsz fun i hi' =>
     RV.nil_keep hZk (fun b hb=>hE3.zle b (hE1.zle b hb)) (hGt3.trans (GLe.more _)) (htm' i hi')⟩)⟩ (by simp) (by simp only[List.mem_singleton];rintro b rfl;exact ⟨hlZ3,by simpa using hl3lt,hlF3⟩)
   refine ⟨_,.v (.bool jump.isNone),_,Z3,_,_,[],rfl,⟨_,rfl,hK⟩,by simp[hlen3],hnew,by simp[RV],by simp,by simp,by simp,?_,⟨?_,?_,?_,?_,fun b hb hf=>?_,fun b hb=>hE3.zle b (hE1.zle b hb),fun b hb=>?_,fun j b hb=>?_⟩⟩
   ·refine ⟨by simp;omega,fun id hid=>?_⟩
    by_cases e:id<Hi.length
    ·rw[List.getElem?_append_left (by omega)]
     have k:=hGt3.at_ id (by omega)
     simp only[take_get (l:=G) e] at k
     exact k
    ·have:id=Hi.length:=by omega
     subst this
     right;left
     rw[hg,List.getElem?_append_right (by omega)]
     simp[hG3l]
   ·exact hE3.os.trans hE1.os
   ·exact hE3.tape.trans hE1.tape
   ·exact hE3.output.trans hE1.output
   ·have:=hE3.size;have:=hE1.size;simp only[World.putObj_size] at *;omega
   ·refine kept b hb (fun id hc=>?_) (fun e=>hf Hi.length (by rw[hfp,e];simp))
    rw[hFPt] at hc
    by_cases e:id<Hi.length
    ·simp only[if_pos e] at hc;exact hf id hc
    ·simp[e] at hc
   ·rcases hE3.znew b hb with k | k | ⟨id,k⟩
    ·rcases hE1.znew b k with k | k | ⟨id,k⟩
     ·exact .inl k
     ·exact .inr (.inl k)
     ·rw[hFPt] at k
      by_cases e:id<Hi.length
      ·simp only[if_pos e] at k;exact .inr (.inr ⟨id,k⟩)
      ·simp[e] at k
    ·simp only[World.putObj_size] at k
     exact .inr (.inl (Nat.le_trans hE1.size k))
    ·rcases hE1.fnew id b k with k | ⟨id',k⟩
     ·exact .inr (.inl k)
     ·rw[hFPt] at k
      by_cases e:id' < Hi.length
      ·simp only[if_pos e] at k;exact .inr (.inr ⟨id',k⟩)
      ·simp[e] at k
   ·by_cases e:j=H3.length
    ·simp only[if_pos e] at hb
     exact .inr ⟨Hi.length,by rw[hfp];exact hb⟩
    ·simp only[if_neg e] at hb
     rcases hE3.fnew j b hb with k | ⟨id,k⟩
     ·simp only[World.putObj_size] at k
      exact .inl (Nat.le_trans hE1.size k)
     ·rcases hE1.fnew id b k with k | ⟨id',k⟩
      ·exact .inl k
      ·rw[hFPt] at k
       by_cases e:id' < Hi.length
       ·simp only[if_pos e] at k;exact .inr ⟨id',k⟩
       ·simp[e] at k
  rintro e a2 w2 ⟨T2,H2,Z2,G2,FP2,ds2,hq2,hs2,hG2,hE2⟩
  cases e with
  | normal =>
   obtain ⟨T3,H3,gh,hlen3,hI⟩:=hq2
   obtain ⟨Z3,G3,FP3,hs3,hG3,hE3⟩:=gh 0 Z2 G2 FP2 ds2 a2 w2 hG2.len hs2
   have hnm3:=hs3.inv.nm
   rw[hlen3] at hnm3
   exact fin none T3 H3 Z3 G3 FP3 ds2 a2 w2 hs3 hlen3 (hG2.trans hG3) (hE2.trans hE3) _ (by simp only[Option.isNone_none,if_true];exact ⟨H3,rfl,hlen3,hnm3,hI⟩)
  | ret =>
   obtain ⟨T3,H3,gh,hlen3,hI⟩:=hq2
   obtain ⟨Z3,G3,FP3,hs3,hG3,hE3⟩:=gh 0 Z2 G2 FP2 ds2 a2 w2 hG2.len hs2
   have hnm3:=hs3.inv.nm
   rw[hlen3] at hnm3
   exact fin (some .ret) T3 H3 Z3 G3 FP3 ds2 a2 w2 hs3 hlen3 (hG2.trans hG3) (hE2.trans hE3) _ (by simp only[Option.isNone_some,Bool.false_eq_true,if_false];exact ⟨H3,_,rfl,hlen3,hnm3,hI⟩)
  | exit i =>
   obtain ⟨T3,H3,gh,hlen3,hI⟩:=hq2
   obtain ⟨Z3,G3,FP3,hs3,hG3,hE3⟩:=gh 0 Z2 G2 FP2 ds2 a2 w2 hG2.len hs2
   have hnm3:=hs3.inv.nm
   rw[hlen3] at hnm3
   exact fin (some (.exit i)) T3 H3 Z3 G3 FP3 ds2 a2 w2 hs3 hlen3 (hG2.trans hG3) (hE2.trans hE3) _ (by simp only[Option.isNone_some,Bool.false_eq_true,if_false];exact ⟨H3,_,rfl,hlen3,hnm3,hI⟩)
  | goto t =>
   obtain ⟨T3,H3,gh,hlen3,hI⟩:=hq2
   obtain ⟨Z3,G3,FP3,hs3,hG3,hE3⟩:=gh 0 Z2 G2 FP2 ds2 a2 w2 hG2.len hs2
   have hnm3:=hs3.inv.nm
   rw[hlen3] at hnm3
   exact fin (some (.goto t)) T3 H3 Z3 G3 FP3 ds2 a2 w2 hs3 hlen3 (hG2.trans hG3) (hE2.trans hE3) _ (by simp only[Option.isNone_some,Bool.false_eq_true,if_false];exact ⟨H3,_,rfl,hlen3,hnm3,hI⟩)
  | panic ch=>exact hq2.elim
  | outgrown=>exact hq2.elim
 | exit i=>exact hq.elim
 | goto t=>exact hq.elim
 | ret=>exact hq.elim
 | panic ch=>exact hq.elim
 | outgrown=>exact hq.elim
theorem enter_loop {ro:Option Nat} {B:Nat} {ds:List Nat} {a:Act} (hs:St N B Z G FP ds T H a w) (hB:Bo ro B FP w) (fn:FuncId) (ps:Array Tmp) (assign body:Code) :
  ∃l mk ds1 W1 rc,(Instr.enterLoop fn a.tmps ps assign body ro).run P w=.ok (l,mk) W1∧rc.state=.ready∧rc.pending=none∧rc.params=ps∧rc.assign=assign∧rc.body=body∧rc.tmps=a.tmps∧
   W1.heap[l]?=some (.loop rc)∧w.heap.size≤l∧(∀d∈ds1,d≠l)∧St N B Z G FP ds1 T H { a with defers:=mk++a.defers } W1∧Evo Z FP w Z FP W1:=by
 have lift:∀(W1:World),W1.os=w.os→W1.tape=w.tape→W1.output=w.output→w.heap.size≤W1.heap.size→(∀b,b<w.heap.size→W1.heap[b]?=w.heap[b]?)→St N B Z G FP ds T H a W1∧Evo Z FP w Z FP W1:=by
  intro W1 h1 h2 h3 h4 h5
  have hE:Evo Z FP w Z FP W1:=⟨h1,h2,h3,h4,fun b hb _=>h5 b hb,fun _ h=>h,fun _ h=>.inl h,fun id b hb=>.inr ⟨id,hb⟩⟩
  refine ⟨hs.evo (hs.inv.keep h4 (fun b hb=>h5 b ?_)) (GLe.refl _) hE,hE⟩
  rcases hb with hb | ⟨id,hb⟩
  ·exact hs.inv.zlt b hb
  ·exact hs.inv.flt id b hb
 have dlt:∀d∈ds,d<w.heap.size:=fun d hd=>(Array.getElem?_eq_some_iff.1 (hs.dsat d hd).2.1).1
 cases ro with
 | none =>
  obtain ⟨rc,hrc⟩:∃rc:Loop,rc = { state:=.ready,pending:=none,fn,tmps:=a.tmps,params:=ps,assign,body,defers:=w.heap.size }:=⟨_,rfl⟩
  have hrun:=run_enterLoop_outer (P:=P) (w:=w) fn a.tmps ps assign body
  rw[←hrc] at hrun
  have hl1:((w.alloc (.deferred (some []))).alloc (.loop rc)).heap[w.heap.size+1]?=some (.loop rc):=by
   have:=World.alloc_heap_new (w.alloc (.deferred (some []))) (.loop rc);rwa [World.size_alloc] at this
  have hd1:((w.alloc (.deferred (some []))).alloc (.loop rc)).heap[w.heap.size]?=some (.deferred (some [])) :=
   (Below.heap_alloc _ _ _ (by simp)).trans (World.alloc_heap_new w _)
  obtain ⟨hs1,hE2⟩:=lift ((w.alloc (.deferred (some []))).alloc (.loop rc)) rfl rfl rfl (by simp;omega) (fun b hb=>(Below.heap_alloc _ _ _ (by simp;omega)).trans (Below.heap_alloc _ _ _ hb))
  refine ⟨_,_,w.heap.size::ds,_,rc,hrun,by rw[hrc],by rw[hrc],by rw[hrc],by rw[hrc],by rw[hrc],by rw[hrc],hl1,by omega,fun d hd=>?_,?_,hE2⟩
  ·rcases List.mem_cons.1 hd with rfl | hd
   ·omega
   ·have:=dlt d hd;omega
  ·refine ⟨hs1.inv,hs1.size,hs1.tmps,by simp[marks,hs.defers],List.nodup_cons.2 ⟨fun hc=>?_,hs.dsn⟩,fun d hd=>?_⟩
   ·have:=dlt _ hc;omega
   ·rcases List.mem_cons.1 hd with rfl | hd
    ·exact ⟨hB.1,hd1,fun hz=>by have:=hs.inv.zlt _ hz;omega,fun id hc=>by have:=hs.inv.flt id _ hc;omega⟩
    ·exact hs1.dsat d hd
 | some l0 =>
  obtain ⟨r0,h0,_⟩:=hB.2 l0 rfl
  obtain ⟨rc,hrc⟩:∃rc:Loop,rc = { state:=.ready,pending:=none,fn,tmps:=a.tmps,params:=ps,assign,body,defers:=r0.defers }:=⟨_,rfl⟩
  have hrun:=run_enterLoop_inner (P:=P) h0 fn a.tmps ps assign body
  rw[←hrc] at hrun
  obtain ⟨hs1,hE2⟩:=lift (w.alloc (.loop rc)) rfl rfl rfl (by simp) (fun b hb=>Below.heap_alloc _ _ _ hb)
  exact ⟨_,_,ds,_,rc,hrun,by rw[hrc],by rw[hrc],by rw[hrc],by rw[hrc],by rw[hrc],by rw[hrc],World.alloc_heap_new w _,Nat.le_refl _,fun d hd=>by have:=dlt d hd;omega,by simpa using hs1,hE2⟩
def XQ (Q:Exit→KS):Code→KS
 | .ret=>Q .ret
 | .exit i=>Q (.exit i)
 | .goto t=>Q (.goto t)
 | _=>fun _ _=>False
theorem HW.rangeFunc {L:Nat} {Q:Exit→KS} {g:Operand} {ps:Array Tmp} {assign body:Code} {gf:Nat} {caps:List HV} (hgok:opdOk N g=true) (hgf:gf<4294967296) (hg:hev T g=.fn gf caps)
  (xs:List (List HV)) (H0:Heap) (I:Nat→Heap→Prop) (X:Code→Heap→Prop) (hH0:H0.length=H.length∧∀(j:Nat) (o:HObj),H0[j]?=some (some o)→H[j]?=some (some o))
  (hxs:∀x∈xs,x.length=ps.size∧nmL H.length x=true)
  (hseq:∀o,HSeq P gf (H++[some o]) caps (H0++[some o]) xs) (h0:I 0 H0)
  (round:∀i x Hi,xs[i]?=some x→Hi.length=H.length→I i Hi→HW P N H.length assign (fin (HW P N H.length body (RQ N H.length (I (i+1)) X)) (fun _ _ _=>False)) (setPs (tvT T) ps.toList x) Hi)
  (done:∀Hf,Hf.length=H.length→I xs.length Hf→Q .normal T Hf) (stop:∀c Hf,Hf.length=H.length→X c Hf→XQ Q c T Hf):HW P N L (.rangeFunc g ps assign body) Q T H:=by
 intro ro n B Z G FP ds a w hB hL hs
 refine wpIn_rangeFunc ?_
 intro fn hfn
 obtain ⟨l,mk,ds1,W1,rc,hrun,r1,r2,r3,r4,r5,r6,hl1,hlge,hlds,hs1,hE1⟩:=enter_loop (P:=P) hs hB fn ps assign body
 have hgv:=hs.hev g hgok
 rw[hg] at hgv
 simp only[RV] at hgv
 obtain ⟨lb,hge,hcl⟩:=hgv
 rw[fnV_lt hgf] at hge
 have hk:G.length=H.length:=hs.inv.len
 have hlnZ:¬Z l:=fun hz=>by have:=hs.inv.zlt _ hz;omega
 have hlnF:∀id,l∉FP id:=fun id hc=>by have:=hs.inv.flt id _ hc;omega
 have hlW:l<W1.heap.size:=(Array.getElem?_eq_some_iff.1 hl1).1
 have hT:∀i,i<N→RV Z G W1 (tvT T i) (a.tmps.getD i undef) []:=fun i hi=>by
  unfold tvT
  split
  ·exact hs1.tmps i hi
  ·simp[RV]
 have hTn:∀i,i<N→nm H.length (tvT T i)=true:=fun i hi=>by rw[←hk];exact RV_nm _ _ _ _ (hT i hi)
 have hrc0:({ rc with state:=.ready,pending:=none }:Loop)=rc:=by cases rc;simp_all
 have hrls:RL Z (G++[some (⟨none,0,N+1,1,l⟩:OG)]) W1 ((List.range N).map (tvT T)) rc.tmps.toList []:=by
  rw[r6]
  exact RL_range hs.size fun i hi=>RV.nil_keep (fun _ _=>rfl) (fun _ h=>h) (GLe.more _) (hT i hi)
 have hinv1:=hs1.inv.new (w':=W1) (o:=recO N T rc) (g:=⟨none,0,N+1,1,l⟩) (fp:=[l]) (Nat.le_refl _) (fun _ _=>rfl)
  ⟨rfl,rfl,rfl,by simp[recO],.inr (.inr ⟨_,_,.loop rc,[],rfl,rfl,rfl,hl1,rfl,hrls⟩)⟩ (by simp) (by simp only[List.mem_singleton];rintro b rfl;exact ⟨hlnZ,hlW,hlnF⟩)
 have hZ1:∀b,Z b→W1.heap[b]?=w.heap[b]?:=fun b hb=>hE1.keep b (hs.inv.zlt b hb) (fun id hc=>hs.inv.zfp id b hc hb)
 have hargs:RL Z (G++[some (⟨none,0,N+1,1,l⟩:OG)]) W1 (.yl H.length::caps) (.func (.yield l) #[] #[]::lb.toList) []:=by
  simp only[RL]
  refine ⟨_,_,[],[],rfl,rfl,?_,RL.keep hZ1 (fun _ h=>h) (GLe.more _) _ _ _ (by simp) hcl⟩
  simp only[RV]
  refine ⟨trivial,by simp;omega,l,rfl,fun g hg=>?_⟩
  rw[←hk] at hg
  simp at hg
  subst hg
  exact ⟨Nat.le_refl _,fun _ _=>rfl⟩
 have hnmH:nmH H.length H0=true:=by
  have h1:=hs.inv.nm
  unfold nmH at h1⊢
  rw[List.take_length] at h1
  rw[←hH0.1,List.take_length,List.all_eq_true]
  intro o ho
  cases o with
  | none=>rfl
  | some ob =>
   obtain ⟨i,hi⟩:=List.mem_iff_getElem?.1 ho
   have:=List.all_eq_true.1 h1 _ (List.mem_of_getElem? (hH0.2 i ob hi))
   rw[hH0.1];exact this
 have hrowm:∀r:Loop,nmR (H.length+1) (recO N T r).rows=true:=fun r=>by
  simp only[recO,nmR,nmL,nm,Bool.true_and,Bool.and_true]
  have:∀l:List Nat,(∀i∈l,i<N)→nmL (H.length+1) (l.map (tvT T))=true:=by
   intro l
   induction l with
   | nil=>intro _;rfl
   | cons a l ih=>intro h;simp only[List.map_cons,nmL,nm_mono (Nat.le_succ _) _ (hTn a (h a (by simp))),ih (fun i hi=>h i (by simp[hi])),Bool.and_self]
  exact this _ (fun i hi=>by simpa using hi)
 have hnmx:∀(Hi:Heap) (r:Loop),Hi.length=H.length→nmH H.length Hi=true→nmH (H++[some (recO N T rc)]).length (Hi++[some (recO N T r)])=true:=by
  intro Hi r hlen hnm
  have e:(H++[some (recO N T rc)]).length=(Hi++[some (recO N T r)]).length:=by simp[hlen]
  unfold nmH at hnm⊢
  rw[e,List.take_length,List.all_append,Bool.and_eq_true]
  rw[←hlen,List.take_length] at hnm
  refine ⟨?_,?_⟩
  ·rw[List.all_eq_true] at hnm⊢
   intro o ho
   have:=hnm o ho
   cases o with
   | none=>rfl
   | some ob=>simp only at this⊢;exact nmR_mono (by simp) _ this
  ·simp only[List.all_cons,List.all_nil,Bool.and_true,List.length_append,List.length_cons,List.length_nil,hlen]
   exact hrowm r
 have hc:=hseq (recO N T rc) H.length (fun i Hx=>∃Hi,Hx=Hi++[some (recO N T rc)]∧Hi.length=H.length∧nmH H.length Hi=true∧I i Hi)
  (fun i Hx=>∃Hi c,Hx=Hi++[some (recO N T { rc with state:=.done,pending:=some c })]∧Hi.length=H.length∧nmH H.length Hi=true∧X c Hi) (by simp)
  (by
   rintro i Hx ⟨Hi,rfl,hlen,hnm,_⟩
   exact ⟨by simp[hlen],hnmx Hi rc hlen hnm⟩)
  (by
   rintro i Hx ⟨Hi,c,rfl,hlen,hnm,_⟩
   exact hnmx Hi _ hlen hnm)
  (by
   rintro i x Hx hx ⟨Hi,rfl,hlen,hnm,hI⟩
   have hx2:=hxs x (List.mem_of_getElem? hx)
   have:=HYield_round (P:=P) (N:=N) (T:=T) (rc:=rc) (x:=x) (I:=I (i+1)) (X:=X) r1 (by rw[r3];exact hx2.1) (by rw[hlen];exact hnm) (by rw[hlen];exact hx2.2) (by rw[hlen];exact hTn) (by rw[hlen,r3,r4,r5];exact round i x Hi hx hlen hI)
   rw[hlen,hrc0] at this
   exact this)
  ⟨H0,rfl,hH0.1,hnmH,h0⟩
 refine ⟨l,mk,W1,{ target:=.fn (.func gf) lb,args:=#[.func (.yield l) #[] #[]] },W1,gf,#[.func (.yield l) #[] #[]]++lb,W1,?_,?_,fun _ _=>trivial,?_,fun h=>by cases ro <;> simp[Wd,Fence.wide] at h,?_⟩
 ·exact hrun
 ·simp only[resolve,hge]
  simp[go_sem]
 ·have:=hc.1 (.func (.yield l) #[] #[]::lb.toList).toArray W1
  have earr:(Value.func (.yield l) #[] #[]::lb.toList).toArray = #[.func (.yield l) #[] #[]]++lb:=by apply Array.ext';simp
  rw[earr] at this
  simp only[invoke]
  exact this
 have hcall:=hc.2 Z _ _ W1 _ hinv1 hargs
 have earr:(Value.func (.yield l) #[] #[]::lb.toList).toArray = #[.func (.yield l) #[] #[]]++lb:=by apply Array.ext';simp
 rw[earr] at hcall
 refine callsIn_wd (Calls.mono hcall ?_)
 rintro e w' ⟨v,r,Hf,Z',G',FP',fr,rfl,hQ,hlen,hi',hr,hnd,hfr1,hfr2,hG,hE⟩
 have hF1:∀b,b≠l→(∀id,b∉FP id)→∀id,b∉(if id=H.length then [l] else FP id):=fun b hb hf id hc=>by
  by_cases e:id=H.length
  ·simp only[if_pos e,List.mem_singleton] at hc;exact hb hc
  ·simp only[if_neg e] at hc;exact hf id hc
 have hZW:∀b,Z b→w'.heap[b]?=W1.heap[b]?:=fun b hb=>hE.keep b (hs1.inv.zlt b hb) (hF1 b (fun e=>hlnZ (e▸hb)) (fun id hc=>hs.inv.zfp id b hc hb))
 have key:∀(st:LoopState) (pe:Option Code) (Hi:Heap),st≠.busy→Hf=Hi++[some (recO N T { rc with state:=st,pending:=pe })]→Hi.length=H.length→nmH H.length Hi=true→
   ∃w4,(Instr.endLoop l).run P w'=.ok pe w4∧∃Z4 G4 FP4,St N B Z4 G4 FP4 ds1 T Hi { a with defers:=mk++a.defers } w4∧GLt L G G4∧Evo Z FP w Z4 FP4 w4:=by
  rintro st pe Hi hst rfl hlenI hnm
  obtain ⟨l2,tm,hg2,hfp2,hl2,hrl2⟩:=rec_at hi'
  have hll:l2=l:=by
   have h1:(G++[some (⟨none,0,N+1,1,l⟩:OG)])[H.length]?=some (some ⟨none,0,N+1,1,l⟩):=by rw[←hk];simp
   rw[hlenI] at hg2
   rcases hG.at_ H.length (by simp;omega) with k | k | ⟨g1,g2,k1,k2,k3⟩
   ·rw[hg2] at k;cases k
   ·rw[hg2,h1] at k;cases k;rfl
   ·rw[h1] at k1;rw[hg2] at k2;cases k1;cases k2;exact absurd k3 (Nat.lt_irrefl _)
  subst hll
  have hlZ' : ¬Z' l2:=hi'.zfp Hi.length l2 (by rw[hfp2];simp)
  have hnm' : nmH H.length (Hi++[some (recO N T { rc with state:=st,pending:=pe })])=true:=by
   have:(Hi++[some (recO N T { rc with state:=st,pending:=pe })]).take H.length=Hi.take H.length:=by rw[←hlenI];simp
   unfold nmH at hnm⊢
   rw[this];exact hnm
  have htr:=hi'.trunc H.length hnm'
  have etk:(Hi++[some (recO N T { rc with state:=st,pending:=pe })]).take H.length=Hi:=by rw[←hlenI];simp
  rw[etk] at htr
  have hlF' : ∀id,l2∉(if id<H.length then FP' id else []):=fun id hc=>by
   by_cases e:id<H.length
   ·simp only[if_pos e] at hc
    have:=hi'.disj id Hi.length l2 hc (by rw[hfp2];simp)
    omega
   ·simp[e] at hc
  have hGG:GLe G G':=(GLe.more _).trans hG
  have hst' : St N B Z' (G'.take H.length) (fun id=>if id<H.length then FP' id else []) ds1 T Hi { a with defers:=mk++a.defers } w':=by
   refine ⟨htr,hs.size,fun i hi=>nm_spec _ _ G' _ [] ?_ (RV.nil_keep hZW hE.zle hGG (hs1.tmps i hi)),hs1.defers,hs1.dsn,fun d hd=>?_⟩
   ·rw[←hk];exact RV_nm _ _ _ _ (hs1.tmps i hi)
   ·obtain ⟨h1,h2,h3,h4⟩:=hs1.dsat d hd
    have hne:=hlds d hd
    have hdlt:d<W1.heap.size:=(Array.getElem?_eq_some_iff.1 h2).1
    refine ⟨h1,(hE.keep d hdlt (hF1 d hne h4)).trans h2,fun hz=>?_,fun id hc=>?_⟩
    ·rcases hE.znew d hz with k | k | ⟨id,k⟩
     ·exact h3 k
     ·omega
     ·exact hF1 d hne h4 id k
    ·by_cases e:id<H.length
     ·simp only[if_pos e] at hc
      rcases hE.fnew id d hc with k | ⟨id',k⟩
      ·omega
      ·exact hF1 d hne h4 id' k
     ·simp[e] at hc
  have hend:=run_endLoop (P:=P) (w:=w') (r:={ rc with state:=st,pending:=pe,tmps:=tm }) hl2 hst
  have hst4:=hst'.putRec (o':=.loop { rc with state:=.exhausted,pending:=pe,tmps:=tm }) hlZ' hlF' hl2
  refine ⟨_,hend,Z',G'.take H.length,_,hst4,⟨by have:=hGG.len;rw[List.length_take];omega,fun id hid=>?_⟩,⟨?_,?_,?_,?_,fun b hb hf=>?_,hE.zle,fun b hb=>?_,fun j b hb=>?_⟩⟩
  ·have k:=hGG.at_ id (by omega)
   rw[take_get (l:=G') (m:=H.length) (i:=id) (by omega)]
   exact k
  ·exact hE.os.trans hE1.os
  ·exact hE.tape.trans hE1.tape
  ·exact hE.output.trans hE1.output
  ·have:=hE.size;have:=hE1.size;simp only[World.putObj_size];omega
  ·have hne:b≠l2:=by omega
   rw[World.putObj_heap_other hne]
   exact (hE.keep b (Nat.lt_of_lt_of_le hb hE1.size) (hF1 b hne hf)).trans (hE1.keep b hb hf)
  ·rcases hE.znew b hb with k | k | ⟨id,k⟩
   ·exact .inl k
   ·exact .inr (.inl (Nat.le_trans hE1.size k))
   ·by_cases e:id=H.length
    ·simp only[if_pos e,List.mem_singleton] at k;exact .inr (.inl (k▸hlge))
    ·simp only[if_neg e] at k;exact .inr (.inr ⟨id,k⟩)
  ·by_cases e:j<H.length
   ·simp only[if_pos e] at hb
    rcases hE.fnew j b hb with k | ⟨id,k⟩
    ·exact .inl (Nat.le_trans hE1.size k)
    ·by_cases e:id=H.length
     ·simp only[if_pos e,List.mem_singleton] at k;exact .inl (k▸hlge)
     ·simp only[if_neg e] at k;exact .inr ⟨id,k⟩
   ·simp[e] at hb
 rcases hQ with ⟨Hi,e,hlenI,hnm,hI⟩ | ⟨i,Hi,c,e,hlenI,hnm,hX⟩
 ·rw[←hrc0] at e
  obtain ⟨w4,h1,Z4,G4,FP4,h2,h3,h4⟩:=key .ready none Hi (by simp) e hlenI hnm
  exact ⟨none,w4,h1,T,Hi,Z4,G4,FP4,ds1,done Hi hlenI hI,h2,h3,h4⟩
 ·obtain ⟨w4,h1,Z4,G4,FP4,h2,h3,h4⟩:=key .done (some c) Hi (by simp) e hlenI hnm
  refine ⟨some c,w4,h1,?_⟩
  have hq:=stop c Hi hlenI hX
  cases c with
  | ret=>exact wpIn_ret ⟨T,Hi,Z4,G4,FP4,ds1,hq,h2,h3,h4⟩
  | exit i=>exact wpIn_exit ⟨T,Hi,Z4,G4,FP4,ds1,hq,h2,h3,h4⟩
  | goto t=>exact wpIn_goto ⟨T,Hi,Z4,G4,FP4,ds1,hq,h2,h3,h4⟩
  | _=>exact hq.elim
end
end Go.Proofs.YtmapdjdnnhlpiaaGreatDoor
namespace Go.Proofs.YtmapdjdnnhlpiaaGreatDoor
open Go.RowKit
section
variable {P:Program} {N L:Nat} {T:Nat→HV} {H:Heap} {k:List Item→KS} {all l:List Oper} {d:Option Nat} {r:List Item}
theorem Ghost.move (i n j q o:Nat) (ob:HObj) (hi:T i=.pt n j q o) (ho:H[n]?=some (some ob)):Ghost N L T H (upd T i (.pt H.length j q o)) (H.set n none++[some ob]):=fun B Z G FP ds a w hL hs=>by
 obtain ⟨g,hg,hob⟩:=hs.inv.live n ob ho
 have hk:=hs.inv.kill n
 have hlt:=hs.inv.lt ho
 have hnew:=hk.new (w':=w) (o:=ob) (g:=g) (fp:=FP n) (Nat.le_refl _) (fun _ _=>rfl) (hob.keep (fun _ _=>rfl) (fun _ h=>h) ((GLe.kill n).trans (GLe.more _)) (fun _ _=>rfl)) (hs.inv.nodup n)
  (fun b hb=>⟨hs.inv.zfp n b hb,hs.inv.flt n b hb,fun j hj=>by
   by_cases e:j=n
   ·simp[e] at hj
   ·simp only[if_neg e] at hj;exact e (hs.inv.disj j n b hj hb)⟩)
 have hG:GLe G (G.set n none++[some g]):=(GLe.kill n).trans (GLe.more _)
 have hE:Evo Z FP w Z (fun j=>if j=(H.set n none).length then FP n else if j=n then [] else FP j) w:=⟨rfl,rfl,rfl,Nat.le_refl _,fun _ _ _=>rfl,fun _ h=>h,fun _ h=>.inl h,fun j b hb=>by
  by_cases e:j=(H.set n none).length
  ·simp only[if_pos e] at hb;exact .inr ⟨n,hb⟩
  ·simp only[if_neg e] at hb
   by_cases e2:j=n
   ·simp[e2] at hb
   ·simp only[if_neg e2] at hb;exact .inr ⟨j,hb⟩⟩
 have hs':=hs.evo hnew hG hE
 refine ⟨Z,_,_,⟨hs'.inv,hs'.size,fun c hc=>?_,hs'.defers,hs'.dsn,hs'.dsat⟩,GLt.of hL hG,hE⟩
 unfold upd
 split
 ·rename_i e
  subst e
  have h0:=hs.tmps c hc
  rw[hi] at h0
  simp only[RV] at h0⊢
  obtain ⟨h1,h2,h3,h4⟩:=h0
  refine ⟨h1,h2,by simp[hs.inv.len],fun g' hg'=>?_⟩
  rw[←hs.inv.len] at hg'
  have:g'=g:=by
   rw[List.getElem?_append_right (by simp)] at hg'
   simp at hg';exact hg'.symm
  subst this
  exact h4 g' hg
 ·exact hs'.tmps c hc
theorem yieldX_at {id m:Nat} {Hq own:Heap} {args:List HV} {Kb:Bool→Heap→Prop} (hm:Hq.length=m) (hid:id<m) (hnm:nmH m Hq=true) (hargs:nmL m args=true) (hy:HYield P id Hq args Kb)
  (h:∀b Hq',Kb b Hq'→Hq'.length=m→k (.ops all l::r) (updO T d (.v (.bool b))) (Hq'++own)):yieldX k P id (Hq++own) args all d l r T:=by
 subst hm
 have hnm' : nmH Hq.length (Hq++own)=true:=by
  unfold nmH at hnm⊢
  rw[List.take_length] at hnm
  rw[List.take_left]
  exact hnm
 have hy' : HYield P id ((Hq++own).take Hq.length) args Kb:=by rw[List.take_left];exact hy
 refine ⟨_,HYield.frame (H:=Hq++own) Hq.length hy' hid (by simp) hnm' hargs,?_⟩
 rintro b H' ⟨Hc,rfl,hlen,hK⟩ _
 rw[List.drop_left]
 exact h b Hc hK hlen
def gopen1 (H:Heap) (id r c:Nat) (ob:HObj) (row:List HV):Option HV→Heap
 | some (.ow e sz rows)=>H.set id (some { ob with rows:=ob.rows.set r (row.set c (.hd H.length 0 rows.length)) })++[some ⟨e,sz,rows⟩]
 | some (.bx e sz rw)=>H.set id (some { ob with rows:=ob.rows.set r (row.set c (.pt H.length 1 0 0)) })++[some ⟨e,sz,[rw]⟩]
 | some (.om x hs)=>H.set id (some { ob with rows:=ob.rows.set r (row.set c (.mp H.length)) })++[some ⟨0,hs.length+1,[.ob x::hs]⟩]
 | _=>H
def onOb (H:Heap) (o:Option HObj) (r:Nat) (f:HObj→List HV→Heap):Heap :=
 match o with
 | some ob=>match ob.rows[r]? with
  | some row=>f ob row
  | none=>H
 | none=>H
theorem onOb_some {ob:HObj} {r:Nat} {f:HObj→List HV→Heap}:onOb H (some ob) r f=match ob.rows[r]? with
  | some row=>f ob row
  | none=>H:=rfl
theorem gopen_eq {id r c:Nat}:gopen H id r c=onOb H (getO H id) r fun ob row=>gopen1 H id r c ob row row[c]?:=by
 unfold gopen getO onOb gopen1
 repeat' split
 all_goals first | rfl | simp_all
theorem gopens_zero {id r c:Nat}:gopens H id r c 0=H:=rfl
theorem gopens_1 {id r c:Nat}:gopens H id r c 1=gopen H id r c:=rfl
theorem gopens_2 {id r c:Nat}:gopens H id r c 2=gopen (gopen H id r c) id r (c+1):=rfl
theorem gopens_3 {id r c:Nat}:gopens H id r c 3=gopen (gopen (gopen H id r c) id r (c+1)) id r (c+1+1):=rfl
def absHd (H:Heap) (id r c:Nat) (ob:HObj) (row:List HV) (j len:Nat):Option HObj→Heap
 | some oj=>if j≠id∧len=oj.rows.length∧nmR 0 oj.rows=true then (H.set j none).set id (some { ob with rows:=ob.rows.set r (row.set c (.ow oj.e oj.sz oj.rows)) }) else H
 | none=>H
def absPt (H:Heap) (id r c:Nat) (ob:HObj) (row:List HV) (j:Nat):Option HObj→Heap
 | some ⟨e,sz,[rw]⟩=>if j≠id∧nmL 0 rw=true then (H.set j none).set id (some { ob with rows:=ob.rows.set r (row.set c (.bx e sz rw)) }) else H
 | _=>H
def absMp (H:Heap) (id r c:Nat) (ob:HObj) (row:List HV) (j:Nat):Option HObj→Heap
 | some ⟨_,_,[.ob x::hs]⟩=>if j≠id∧nmL 0 hs=true then (H.set j none).set id (some { ob with rows:=ob.rows.set r (row.set c (.om x hs)) }) else H
 | _=>H
def abs1 (H:Heap) (id r c:Nat) (ob:HObj) (row:List HV):Option HV→Heap
 | some (.hd j 0 len)=>absHd H id r c ob row j len (getO H j)
 | some (.pt j 1 0 0)=>absPt H id r c ob row j (getO H j)
 | some (.mp j)=>absMp H id r c ob row j (getO H j)
 | _=>H
theorem absorb_eq {id r c:Nat}:absorb H id r c=onOb H (getO H id) r fun ob row=>abs1 H id r c ob row row[c]?:=by
 unfold absorb
 cases hH:H[id]? with
 | none=>simp only[getO,hH,onOb]
 | some o =>
  cases o with
  | none=>simp only[getO,hH,onOb]
  | some ob =>
   have e1:getO H id=some ob:=by simp only[getO,hH]
   simp only[e1,onOb]
   cases hr:ob.rows[r]? with
   | none=>rfl
   | some row =>
    simp only
    have gg:∀j,getO H j=match H[j]? with | some (some ob)=>some ob | _=>none:=fun j=>rfl
    cases hc:row[c]? with
    | none=>rfl
    | some x =>
     cases x with
     | hd j off len =>
      cases off with
      | zero =>
       simp only[abs1,gg]
       cases hj:H[j]? with
       | none=>rfl
       | some o=>cases o <;> rfl
      | succ n=>rfl
     | pt j a b c' =>
      by_cases h:a=1∧b=0∧c'=0
      ·obtain ⟨rfl,rfl,rfl⟩:=h
       simp only[abs1,gg]
       cases hj:H[j]? with
       | none=>rfl
       | some o =>
        cases o with
        | none=>rfl
        | some oj =>
         obtain ⟨e,sz,rows⟩:=oj
         cases rows with
         | nil=>rfl
         | cons a t=>cases t <;> rfl
      ·rcases a with _ | _ | a
       ·rfl
       ·rcases b with _ | b
        ·rcases c' with _ | c'
         ·exact absurd ⟨rfl,rfl,rfl⟩ h
         ·rfl
        ·rfl
       ·rfl
     | mp j =>
      simp only[abs1,gg]
      cases hj:H[j]? with
      | none=>rfl
      | some o =>
       cases o with
       | none=>rfl
       | some oj =>
        obtain ⟨e,sz,rows⟩:=oj
        cases rows with
        | nil=>rfl
        | cons a t =>
         cases a with
         | nil=>cases t <;> rfl
         | cons x a=>cases x <;> cases t <;> rfl
     | _=>rfl
def Conv (x h:HV):Prop:=∀(Z:Nat→Prop) (G:List (Option OG)) (w:World) (y:Value),RV Z G w x y []→RV Z G w h y []
theorem Conv.nilOw (e:TypeId) (sz:Nat):Conv (.v (.slice none 0 0)) (.ow e sz []):=fun Z G w y h=>by
 simp only[RV] at h⊢
 exact .inl ⟨trivial,h.2,trivial⟩
theorem Conv.nilSl:Conv (.v (.slice none 0 0)) (.sl []):=fun Z G w y h=>by
 simp only[RV] at h⊢
 exact ⟨trivial,none,0,h.2,Nat.le_refl _,by simp[maxLen],.inl trivial⟩
theorem Conv.any (x:HV):Conv x .any:=fun Z G w y h=>by simp[RV]
theorem Ghost.cell (id i c:Nat) (h' : HV) {ob:HObj} {row:List HV} {x:HV} (ho:H[id]?=some (some ob)) (hr:ob.rows[i]?=some row) (hc:row[c]?=some x) (htv:tv x=true) (hx:Conv x h') (hnb:∀u,x≠.ob u) :
  Ghost N L T H T (H.set id (some { ob with rows:=ob.rows.set i (row.set c h') })):=fun B Z G FP ds a w hL hs=>by
 obtain ⟨g,hg,hob⟩:=hs.inv.live id ob ho
 obtain ⟨y,fx,fa,hv,hperm,hsw⟩:=hob.swap hr hc hnb
 have hfx:fx=[]:=RV_tv x y fx htv hv
 subst hfx
 simp only[List.nil_append] at hperm
 obtain ⟨fp',hob',hp'⟩:=hsw G h' [] (GLe.refl _) (hx Z G w y hv)
 simp only[List.nil_append] at hp'
 have hpp:=hp'.trans hperm.symm
 have hi:=hs.inv.say ho hg hob' (hpp.nodup_iff.2 (hs.inv.nodup id)) (fun b hb=>by
  have hb':=hpp.mem_iff.1 hb
  exact ⟨hs.inv.zfp id b hb',hs.inv.flt id b hb',fun j hj hc=>hj (hs.inv.disj j id b hc hb')⟩)
 have hE:Evo Z FP w Z (fun j=>if j=id then fp' else FP j) w:=⟨rfl,rfl,rfl,Nat.le_refl _,fun _ _ _=>rfl,fun _ h=>h,fun _ h=>.inl h,fun j b hb=>by
  by_cases e:j=id
  ·simp only[if_pos e] at hb;exact .inr ⟨id,hpp.mem_iff.1 hb⟩
  ·simp only[if_neg e] at hb;exact .inr ⟨j,hb⟩⟩
 exact ⟨Z,G,_,hs.evo hi (GLe.refl _) hE,GLt.refl hL,hE⟩
theorem Ghost.tmp (i:Nat) (h' : HV) (hx:Conv (T i) h'):Ghost N L T H (upd T i h') H:=fun B Z G FP ds a w hL hs=>by
 refine ⟨Z,G,FP,⟨hs.inv,hs.size,fun j hj=>?_,hs.defers,hs.dsn,hs.dsat⟩,GLt.refl hL,Evo.refl _ _ _⟩
 unfold upd
 split
 ·rename_i e;subst e;exact hx _ _ _ _ (hs.tmps j hj)
 ·exact hs.tmps j hj
theorem HCalls.conv {f:FuncId} {args:List HV} {Q Q' : HV→Heap→Prop} (h:HCalls P f H args Q) (hq:∀x H',Q x H'→∃x',Q' x' H'∧(x'=x∨(tv x=true∧Conv x x'))):HCalls P f H args Q':=by
 refine ⟨h.1,fun Z G FP w vals hi ha=>Calls.mono (h.2 Z G FP w vals hi ha) ?_⟩
 rintro e w' ⟨v,x,H',Z',G',FP',fr,he,hQ,hlen,hi',hr,hnd,hf1,hf2,hG,hE⟩
 obtain ⟨x',hQ',hx⟩:=hq x H' hQ
 rcases hx with rfl | ⟨htv,hc⟩
 ·exact ⟨v,x',H',Z',G',FP',fr,he,hQ',hlen,hi',hr,hnd,hf1,hf2,hG,hE⟩
 ·have:=RV_tv x v fr htv hr
  subst this
  exact ⟨v,x',H',Z',G',FP',[],he,hQ',hlen,hi',hc _ _ _ _ hr,hnd,hf1,hf2,hG,hE⟩
theorem exCall_yl {id:Nat} {args:List HV}:exCall k P (.yl id) H args all d l r T=yieldX k P id H args all d l r T:=rfl
theorem fz_yl {id:Nat} {n:Nat}:fz (n+1) H (.yl id)=.any:=rfl
theorem fz_mp {id:Nat} {n:Nat}:fz (n+1) H (.mp id)=.any:=rfl
theorem c1_yl {id:Nat}:c1 (.yl id)=true:=rfl
theorem c1_mp {id:Nat}:c1 (.mp id)=true:=rfl
theorem setPs_cons {p:Nat} {ps:List Nat} {h:HV} {hs:List HV}:setPs T (p::ps) (h::hs)=setPs (upd T p h) ps hs:=rfl
theorem setPs_nil {hs:List HV}:setPs T [] hs=T:=rfl
theorem tvT_at {i:Nat}:tvT T i=if tv (T i)=true then T i else .any:=rfl
theorem getO_behind {A B:Heap} {m i:Nat} (h:A.length=m):getO (A++B) (m+i)=getO B i:=by
 subst h
 unfold getO
 rw[List.getElem?_append_right (by omega)]
 simp
theorem getO_behind0 {A B:Heap} {m:Nat} (h:A.length=m):getO (A++B) m=getO B 0:=getO_behind (i:=0) h
theorem set_behind {A B:Heap} {m i:Nat} {x:Option HObj} (h:A.length=m):(A++B).set (m+i) x=A++B.set i x:=by
 subst h
 rw[List.set_append_right _ _ (by omega)]
 simp
theorem set_behind0 {A B:Heap} {m:Nat} {x:Option HObj} (h:A.length=m):(A++B).set m x=A++B.set 0 x:=set_behind (i:=0) h
end
def SubH:Heap→Heap→Prop
 | [],[]=>True
 | none::a,_::b=>SubH a b
 | some o::a,x::b=>x=some o∧SubH a b
 | _,_=>False
theorem SubH.spec:∀{H0 H:Heap},SubH H0 H→H0.length=H.length∧∀(j:Nat) (o:HObj),H0[j]?=some (some o)→H[j]?=some (some o)
 | [],[],_=>⟨rfl,fun _ _ h=>h⟩
 | none::a,x::b,h=>by
  obtain ⟨h1,h2⟩:=SubH.spec (H0:=a) (H:=b) h
  refine ⟨by simp[h1],fun j o hj=>?_⟩
  cases j with
  | zero=>simp at hj
  | succ j=>exact h2 j o hj
 | some o::a,x::b,h=>by
  obtain ⟨h1,h2⟩:=SubH.spec (H0:=a) (H:=b) h.2
  refine ⟨by simp[h1],fun j o' hj=>?_⟩
  cases j with
  | zero=>simp at hj;subst hj;simp[h.1]
  | succ j=>exact h2 j o' hj
 | none::a,[],h=>h.elim
 | some o::a,[],h=>h.elim
 | [],x::b,h=>h.elim
theorem RQ_normal {N L:Nat} {I:Heap→Prop} {X:Code→Heap→Prop} {T:Nat→HV} {H:Heap}:RQ N L I X .normal T H=GQ N L (fun _ H=>H.length=L∧I H) T H:=rfl
theorem RQ_ret {N L:Nat} {I:Heap→Prop} {X:Code→Heap→Prop} {T:Nat→HV} {H:Heap}:RQ N L I X .ret T H=GQ N L (fun _ H=>H.length=L∧X .ret H) T H:=rfl
theorem RQ_exit {N L i:Nat} {I:Heap→Prop} {X:Code→Heap→Prop} {T:Nat→HV} {H:Heap}:RQ N L I X (.exit i) T H=GQ N L (fun _ H=>H.length=L∧X (.exit i) H) T H:=rfl
theorem RQ_goto {N L i:Nat} {I:Heap→Prop} {X:Code→Heap→Prop} {T:Nat→HV} {H:Heap}:RQ N L I X (.goto i) T H=GQ N L (fun _ H=>H.length=L∧X (.goto i) H) T H:=rfl
theorem endP_behind {L:Nat} {Q:HV→Heap→Prop} {x:HV} {A B:Heap} (hl:A.length=L) (hn:nmH L A=true) (hq:Q x A):endP L Q (x,A++B):=by
 subst hl
 refine ⟨?_,by simpa using hq⟩
 unfold nmH at hn⊢
 rw[List.take_length] at hn
 simpa using hn
attribute [go_sem] absorb_eq abs1 absHd absPt absMp gopen_eq gopens_zero gopens_1 gopens_2 gopens_3 onOb_some gopen1
attribute [go_sem] exCall_yl c1_yl c1_mp fz_yl fz_mp setPs_cons setPs_nil tvT_at
attribute [go_sem ↓] RQ_normal RQ_ret RQ_exit RQ_goto
end Go.Proofs.YtmapdjdnnhlpiaaGreatDoor
namespace Go.Proofs.YtmapdjdnnhlpiaaGreatDoor
open Go.RowKit
set_option maxRecDepth 8000
theorem rowOwn:ownKnob Tryz.prog.godebug=none:=by kernel_rfl
theorem lt_of_cell {W:World} {b:Nat} {v:Value} (hm:W.cell? ⟨b,0,none⟩=some v):b<W.heap.size:=by
 unfold World.cell? at hm
 simp only at hm
 cases hh:W.heap[b]? with
 | none=>rw[hh] at hm;simp at hm
 | some o=>exact (Array.getElem?_eq_some_iff.1 hh).1
structure Ifcs (W:World):Prop where
 ifc:∀b,globI b=true→∃v,W.cell? ⟨b,0,none⟩=some v∧(v=.nilIface∨∃t p,v=.iface t p)
 err:∀b,globE b=true→∃a c t,W.cell? ⟨b,0,none⟩=some (.iface globT (.pointer (some a)))∧W.heap[a.block]?=some (.cells c t (0,0))
 apart:∀b b' a,globE b=true→globE b'=true→W.cell? ⟨b,0,none⟩=some (.iface globT (.pointer (some a)))→W.cell? ⟨b',0,none⟩=some (.iface globT (.pointer (some a)))→b=b'
 han:∀b,globA b=true→W.cell? ⟨b,0,none⟩=some handV
theorem globs_of {W:World} (h:W.ShapedOpen Tryz.prog) (hI:Ifcs W):Globs (fun b=>b<W.heap.size) W:=by
 refine ⟨fun b hb=>?_,fun b hb=>?_,fun b hb=>?_,hI.apart,fun b hb=>⟨lt_of_cell (hI.han b hb),hI.han b hb⟩⟩
 ·have key:∃m,W.cell? ⟨b,0,none⟩=some (.int .i64 m):=by
   unfold globB at hb
   have e:=beq_iff_eq.1 hb
   subst e
   exact cell_of_shapedOpen_int h (of_decide_eq_true (by kernel_rfl)) (t:=3) (zero:=#[.int .i64 0]) (by kernel_rfl) rfl (by kernel_rfl) (by kernel_rfl) (by kernel_rfl)
  obtain ⟨m,hm⟩:=key
  exact ⟨lt_of_cell hm,m,hm⟩
 ·obtain ⟨v,hv,hv'⟩:=hI.ifc b hb
  exact ⟨lt_of_cell hv,v,hv,hv'⟩
 ·obtain ⟨a,c,t,h1,h2⟩:=hI.err b hb
  exact ⟨lt_of_cell h1,a,c,t,h1,(Array.getElem?_eq_some_iff.1 h2).1,h2⟩
theorem HFn.below {f:FuncId} {args:List HV} {x:Value} {W:World} (h:HFn Tryz.prog f args (.v x)) (hsh:W.ShapedOpen Tryz.prog) (hI:Ifcs W) (vals:List Value) (ha:RL (fun b=>b<W.heap.size) [] W args vals []) :
  Calls Tryz.prog f vals.toArray W fun e W'=>e=.returned x∧Below W.heap.size W W':=by
 refine Calls.mono (h.2 _ [] _ W vals (HInv.empty (fun _ h=>h) (globs_of hsh hI)) ha) ?_
 rintro e w' ⟨v,r,H',Z',G',FP',fr,rfl,rfl,hlen,hi',hr,hnd,hfr1,hfr2,hG,hE⟩
 simp only[RV] at hr
 obtain ⟨_,rfl⟩:=hr
 exact ⟨rfl,⟨hE.os,hE.tape,hE.output,hE.size,fun b hb=>hE.keep b hb (by simp)⟩⟩
end Go.Proofs.YtmapdjdnnhlpiaaGreatDoor
namespace Go.Proofs.YtmapdjdnnhlpiaaGreatDoor
open Go.RowKit
set_option maxRecDepth 8000
theorem returnsInHanded_laid {H:Type} {enc:TypeId×Value→H} {a:Assume} {C:Checked} {os:Os} {f:FuncId} {fn:Func} {s:ChangeSpec} {conds:List PathCond} {apart fresh handsOn again:Bool} {X:World→Array Value→Prop}
  (hX:∀(w w' : World) (args:Array Value),w.heap=w'.heap→X w args→X w' args)
  (own:ownKnob C.prog.godebug=none) (started:os.Started) (noInit:C.prog.inits.idxOf? f=none) (hfn:C.prog.funcs[f]?=some fn)
  (witness:∃(w:World) (tape:Tape) (i:Input),w.os=os∧(w.forCall tape i).Shaped C.prog∧i.vars=[]∧Input.okWide C.prog (w.forCall tape i) .any w.heap.size f i∧
   ((s.pre enc C.prog fn conds apart (w.forCall tape i).memory i.args∧X (w.forCall tape i).memory i.args)∧sizedMet enc C.prog fn (OpenSpec.ofChange s) apart (w.forCall tape i).memory i.args)∧a.holds C.prog (lone (Frame.enter C.prog f i.args .normal) [] (w.forCall tape i)))
  (contract:∀(W:World) (base:Nat) (args:Array Value) (ds gs:List (DataW H)) (before:List MemPlace),
   (∀(j:Nat) t v,fn.params[j]?=some t→args[j]?=some v→Value.okWide C.prog W .any base t v)→
   DataW.Whole enc C.prog fn.params.toList s.vars apart W args.toList ds gs before→
   conds.all (PathCond.test C.prog ⟨fn.params.toList,ds,s.plain.varTypes C.prog,gs⟩)=true→
   (DataW.weightsEach C.prog (fn.params.toList++s.plain.varTypes C.prog) (ds++gs)).all (·≤reachBytes)=true→
   W.ShapedOpen C.prog→X W args→
   a.holds C.prog (lone (Frame.enter C.prog f args .normal) [] W)→
   Calls C.prog f args W fun e W'=>∃v,e=.returned v∧s.post enc C.prog fn apart fresh handsOn again W args v W') :
  ReturnsInHanded a C os f .any (fun w args=>(s.pre enc C.prog fn conds apart w args∧X w args)∧sizedMet enc C.prog fn (OpenSpec.ofChange s) apart w args) (s.post enc C.prog fn apart fresh handsOn again):=by
 refine returnsInHanded_of_calls own started noInit witness ?_
 intro w tape i _ hsh _ hok hpre hholds
 obtain ⟨_,_,_,fn',hfn',_,_,_,_,hval⟩:=hok
 have e:fn'=fn:=Option.some.inj (hfn'.symm.trans hfn)
 subst e
 obtain ⟨⟨⟨ds,gs,before,hw,hc⟩,hx⟩,hz⟩:=hpre
 have hw':=DataW.Whole.of_heap (w':=w.forCall tape i) (by rfl) hw
 refine (contract (w.forCall tape i) w.heap.size i.args ds gs before hval hw' hc (hz.weights hw) hsh (hX _ _ _ (by rfl) hx) hholds).mono fun e W' ⟨v,he,hp⟩=>?_
 subst he
 exact ChangeSpec.post_blind hp
theorem errSyntax_at:Tryz.prog.globalNamed "strconv.ErrSyntax"=some 2:=by kernel_rfl
theorem errRange_at:Tryz.prog.globalNamed "strconv.ErrRange"=some 3:=by kernel_rfl
theorem errSyntax_type:(Tryz.prog.globals[2]?).map (·.type)=some 83:=by kernel_rfl
theorem errRange_type:(Tryz.prog.globals[3]?).map (·.type)=some 83:=by kernel_rfl
theorem laid_ifc {W:World} (h:laidMetH Tryz.prog Rows.parseTellsRow.laid W):∀b,globI b=true→∃v,W.cell? ⟨b,0,none⟩=some v∧(v=.nilIface∨∃t p,v=.iface t p):=by
 have h2:=(laidMetH_iff.1 (h.filter fun x=>x.1 == "strconv.ErrRange" || x.1 == "strconv.ErrSyntax")).1
 have hl:((Rows.parseTellsRow.laid.filter fun x=>x.1 == "strconv.ErrRange" || x.1 == "strconv.ErrSyntax").filter fun x=>x.2.handleName?.isNone)=[("strconv.ErrRange",Rows.laid_strconv_ErrRange),("strconv.ErrSyntax",Rows.laid_strconv_ErrSyntax)]:=by
  simp[Rows.parseTellsRow,Rows.laid_strconv_ErrRange,Rows.laid_strconv_ErrSyntax,DataW.handleName?]
 rw[hl] at h2
 obtain ⟨ps,⟨g0,t0,cs0,f0,p0,q0,hg0,ht0,hv0,hd0,⟨g1,t1,cs1,f1,p1,q1,hg1,ht1,hv1,hd1,hq1,e1⟩,e0⟩,hnd,hrows⟩:=h2
 obtain rfl:=Option.some.inj (errRange_at.symm.trans hg0)
 obtain rfl:=Option.some.inj (errSyntax_at.symm.trans hg1)
 obtain rfl:=Option.some.inj (errRange_type.symm.trans ht0)
 obtain rfl:=Option.some.inj (errSyntax_type.symm.trans ht1)
 obtain ⟨l0⟩:=cs0
 obtain ⟨l1⟩:=cs1
 obtain ⟨_,u0,v0,e0',_,_⟩:=iface_of_trod Tryz.underlying83 hd0
 obtain ⟨_,u1,v1,e1',_,_⟩:=iface_of_trod Tryz.underlying83 hd1
 have e0'' : l0=[.iface u0 v0]:=e0'
 have e1'' : l1=[.iface u1 v1]:=e1'
 subst e0''
 subst e1''
 have c0:=World.var?_cell hg0 hv0 0
 have c1:=World.var?_cell hg1 hv1 0
 intro b hb
 have hb' : b=2∨b=3:=by simpa [globI] using hb
 rcases hb' with rfl | rfl
 ·exact ⟨.iface u1 v1,by simpa using c1,.inr ⟨_,_,rfl⟩⟩
 ·exact ⟨.iface u0 v0,by simpa using c0,.inr ⟨_,_,rfl⟩⟩
theorem hanOne:((List.range 242).filter fun t=>Tryz.prog.rowNamed t [101,114,114,111,114])=[83]:=by kernel_rfl
theorem hanSize:Tryz.prog.types.size=242:=by kernel_rfl
theorem laid_han {W:World} (h:laidMetH Tryz.prog Rows.parseTellsRow.laid W):∀b,globA b=true→W.cell? ⟨b,0,none⟩=some handV:=fun b hb=>by
 have hg:Tryz.prog.globalNamed "errors.errorType"=some 0:=by kernel_rfl
 have rt:(Tryz.prog.cutTypes.find? (·.1 == "internal/reflectlite.rtype")).map (·.2)=some 117:=by kernel_rfl
 have hh:typeHandle Tryz.prog 83=.pointer (some ⟨7,83,none⟩):=by kernel_rfl
 have h2:=(laidMetH_iff.1 h).2
 obtain ⟨name,u,ty,e1,e2,e3,e4,e5⟩:=h2 ("errors.errorType",Rows.laid_errors_errorType) (by simp[Rows.parseTellsRow,Rows.laid_errors_errorType,DataW.handleName?])
 obtain rfl:name=[101,114,114,111,114]:=(Option.some.inj e1).symm
 obtain rfl:=Option.some.inj (rt.symm.trans e2)
 have hm:ty∈(List.range 242).filter fun t=>Tryz.prog.rowNamed t [101,114,114,111,114]:=List.mem_filter.2 ⟨List.mem_range.2 (by rw[←hanSize];exact e3),e4⟩
 rw[hanOne] at hm
 obtain rfl:=List.mem_singleton.1 hm
 rw[hh] at e5
 obtain rfl:b=0:=by simpa [globA] using hb
 have:=World.var?_cell hg e5 0
 show _=(some (.iface 117 (.agg #[.pointer (some ⟨7,83,none⟩)])):Option Value)
 simpa using this
theorem ifcs_of_laid {W:World} (h:laidMetH Tryz.prog Rows.parseTellsRow.laid W):Ifcs W:=⟨laid_ifc h,fun b hb=>by simp[globE] at hb,fun b b' a hb=>by simp[globE] at hb,laid_han h⟩
theorem door_met (os:Os) (args:Array Value):laidMetH Tryz.prog Rows.parseTellsRow.laid ((World.doorLaid Tryz.prog 69 os).forCall (fun _ _=>0) ⟨#[],args,[]⟩).memory :=
 laidMetH_of_parts (laidMet_of_run' 8 (by kernel_rfl) (by kernel_rfl)) (by kernel_rfl)
theorem door_shaped (os:Os) (args:Array Value):((World.doorLaid Tryz.prog 69 os).forCall (fun _ _=>0) ⟨#[],args,[]⟩).Shaped Tryz.prog :=
 World.shaped_of_RefB (by kernel_rfl) (by kernel_rfl)
end Go.Proofs.YtmapdjdnnhlpiaaGreatDoor
namespace Go.Proofs.YtmapdjdnnhlpiaaGreatDoor
open Go.ChangeShapes Go.WideShapes Go.ChangeAt Go.RowKit
set_option maxRecDepth 8000
theorem laidOut:laidOutB Tryz.prog=true:=by kernel_rfl
theorem wf_inI {n:Int} (h:(Lit.int .i64 n).wf=true):-9223372036854775808≤n∧n<9223372036854775808:=by
 have h2:IntKind.i64.min≤n∧n≤IntKind.i64.max:=by simpa [Lit.wf] using h
 have e1:IntKind.i64.min = -9223372036854775808:=by decide
 have e2:IntKind.i64.max=9223372036854775807:=by decide
 rw[e1,e2] at h2
 omega
theorem RL_cons0 {Z:Nat→Prop} {G:List (Option OG)} {w:World} {a:HV} {y:Value} {bs:List HV} {ys:List Value} (h:RV Z G w a y []) (t:RL Z G w bs ys []):RL Z G w (a::bs) (y::ys) []:=by
 simp only[RL];exact ⟨y,ys,[],[],rfl,rfl,h,t⟩
theorem RL_nil0 {Z:Nat→Prop} {G:List (Option OG)} {w:World}:RL Z G w [] [] []:=by simp[RL]
section
variable {H:Type} {enc:TypeId×Value→H} {w:World} {base:Nat} {sp:Nat→Bool} {held:Bool}
end
end Go.Proofs.YtmapdjdnnhlpiaaGreatDoor
namespace Go.Proofs.YtmapdjdnnhlpiaaGreatDoor
open Go.ChangeShapes Go.WideShapes Go.RowKit
set_option maxRecDepth 8000
def contF (ok:TypeId→Bool) (cell:TypeId→Nat):List Field→Nat→Nat→Bool
 | [],o,tot=>o == tot
 | f::fs,o,tot=>f.offset == o && ok f.type && contF ok cell fs (o+cell f.type) tot
def plainT (P:Program):Nat→TypeId→Bool
 | 0,_=>false
 | n+1,t=>match P.underlying t with
  | some .bool=>true
  | some (.int _)=>true
  | some .string=>true
  | some (.slice e)=>decide (0<P.cellsOf e) && plainT P n e
  | some (.struct fs)=>contF (plainT P n) P.cellsOf fs.toList 0 (P.cellsOf t)
  | some (.array m e)=>decide (P.cellsOf t=m*P.cellsOf e) && plainT P n e
  | _=>false
def ShpF (S:TypeId→List HV→Prop):List Field→List HV→Prop
 | [],hs=>hs=[]
 | f::fs,hs=>∃a b,hs=a++b∧S f.type a∧ShpF S fs b
def Shp (P:Program):Nat→TypeId→List HV→Prop
 | 0,_,_=>False
 | n+1,t,hs=>match P.underlying t with
  | some .bool=>∃b,hs=[.v (.bool b)]
  | some (.int k)=>∃x,(Lit.int k x).wf=true∧hs=[.v (.int k x)]
  | some .string=>∃s:List UInt8,s.length≤maxLen∧hs=[.v (str s)]
  | some (.slice e)=>∃rows:List (List HV),rows.length≤maxLen∧hs=[.sl rows]∧∀r∈rows,Shp P n e r
  | some (.struct fs)=>ShpF (Shp P n) fs.toList hs
  | some (.array m e)=>∃rows:List (List HV),rows.length=m∧hs=rows.flatten∧∀r∈rows,Shp P n e r
  | _=>False
section
variable {H:Type} {enc:TypeId×Value→H} {P:Program} {w:World} {base:Nat} {sp:Nat→Bool} {held:Bool} {Z:Nat→Prop}
def Ones (cs:List Value):Prop:=∀c∈cs,c.oneCell'=true
theorem RC_of:∀(hs:List HV) (cs:List Value) (b k:Nat),RL Z [] w hs cs []→Ones cs→(∀i c,cs[i]?=some c→w.cell? ⟨b,k+i,none⟩=some c)→RC Z [] w hs b k []
 | [],cs,b,k,h,_,_=>by simp[RC]
 | x::hs,cs,b,k,h,h1,hc=>by
  simp only[RL] at h
  obtain ⟨y,ys,f1,f2,rfl,hf,hv,ht⟩:=h
  obtain ⟨rfl,rfl⟩:=List.append_eq_nil_iff.1 hf.symm
  simp only[RC]
  refine ⟨y,[],[],rfl,by simpa using hc 0 y rfl,h1 y (by simp),hv,RC_of hs ys b (k+1) ht (fun c hc=>h1 c (by simp[hc])) fun i c hi=>?_⟩
  have:=hc (i+1) c (by simpa using hi)
  rw[show k+1+i=k+(i+1) by omega];exact this
theorem RR_of {m:Nat}:∀(rows:List (List HV)) (b k:Nat),(∀r∈rows,r.length=m)→(∀i r,rows[i]?=some r→RC Z [] w r b (k+i*m) [])→RR Z [] w rows b k []
 | [],b,k,_,_=>by simp[RR]
 | r::rows,b,k,hm,h=>by
  simp only[RR]
  refine ⟨[],[],rfl,by simpa using h 0 r rfl,?_⟩
  rw[hm r (by simp)]
  refine RR_of rows b (k+m) (fun r hr=>hm r (by simp[hr])) fun i r hi=>?_
  have:=h (i+1) r (by simpa using hi)
  rw[show k+m+i*m=k+(i+1)*m by rw[Nat.add_mul];omega];exact this
theorem RL_one {h:HV} {y:Value} (hv:RV Z [] w h y []):RL Z [] w [h] [y] []:=by
 simp only[RL];exact ⟨y,[],[],[],rfl,rfl,hv,rfl,rfl⟩
theorem cells?_at {a:Addr} {k:Nat} {cs:List Value} (h:w.cells? base a k=some cs):cs.length=k∧∀i c,cs[i]?=some c→w.cell? (a.add i)=some c:=by
 obtain ⟨_,h2,h3⟩:=World.cells?_some h
 refine ⟨h2,fun i c hi=>?_⟩
 have hlt:=(List.getElem?_eq_some_iff.1 hi).1
 have:=h3 i (by omega)
 rw[←hi];exact this
theorem choose_rows {p:Nat→List HV→Prop}:∀(n:Nat),(∀i,i<n→∃r,p i r)→∃rows:List (List HV),rows.length=n∧∀i r,rows[i]?=some r→p i r
 | 0,_=>⟨[],rfl,by simp⟩
 | n+1,h=>by
  obtain ⟨rows,h1,h2⟩:=choose_rows n fun i hi=>h i (by omega)
  obtain ⟨r,hr⟩:=h n (by omega)
  refine ⟨rows++[r],by simp[h1],fun i x hx=>?_⟩
  rcases Nat.lt_or_ge i rows.length with hi | hi
  ·rw[List.getElem?_append_left hi] at hx;exact h2 i x hx
  ·rw[List.getElem?_append_right hi] at hx
   have:i-rows.length=0:=by
    have:=(List.getElem?_eq_some_iff.1 hx).1
    simp at this;omega
   rw[this] at hx
   obtain rfl:r=x:=by simpa using hx
   rw[show i=n by omega];exact hr
theorem contF_tot {ok:TypeId→Bool} {cell:TypeId→Nat}:∀(fs:List Field) (o tot:Nat),contF ok cell fs o tot=true→o≤tot
 | [],_,_,hc=>by simp only[contF,beq_iff_eq] at hc;omega
 | f::fs,o,tot,hc=>by
  simp only[contF,Bool.and_eq_true,beq_iff_eq] at hc
  have:=contF_tot fs _ tot hc.2
  omega
theorem contF_le {ok:TypeId→Bool} {cell:TypeId→Nat}:∀(fs:List Field) (o tot:Nat),contF ok cell fs o tot=true→∀(i:Nat) (g:Field),fs[i]?=some g→o≤g.offset
 | [],_,_,_,i,g,hg=>by simp at hg
 | f::fs,o,tot,hc,i,g,hg=>by
  simp only[contF,Bool.and_eq_true,beq_iff_eq] at hc
  obtain ⟨⟨h1,h2⟩,h3⟩:=hc
  cases i with
  | zero=>simp at hg;subst hg;omega
  | succ i =>
   have:=contF_le fs _ tot h3 i g (by simpa using hg)
   omega
theorem struct_cells {S:TypeId→List HV→Prop} {ok:TypeId→Bool} {cell:TypeId→Nat}:∀(fs:List Field) (o:Nat) (cs:List Value),contF ok cell fs o (o+cs.length)=true→
  (∀(i:Nat) (f:Field),fs[i]?=some f→ok f.type=true→∃hs,S f.type hs∧RL Z [] w hs ((cs.drop (f.offset-o)).take (cell f.type)) []∧Ones ((cs.drop (f.offset-o)).take (cell f.type)))→
  ∃hs,ShpF S fs hs∧RL Z [] w hs cs []∧Ones cs
 | [],o,cs,hc,_=>by
  simp only[contF,beq_iff_eq] at hc
  obtain rfl:cs=[]:=List.length_eq_zero_iff.1 (by omega)
  exact ⟨[],rfl,by simp[RL],by simp[Ones]⟩
 | f::fs,o,cs,hc,h=>by
  simp only[contF,Bool.and_eq_true,beq_iff_eq] at hc
  obtain ⟨⟨h1,h2⟩,h3⟩:=hc
  obtain ⟨a,sa,ra,oa⟩:=h 0 f rfl h2
  rw[h1,Nat.sub_self,List.drop_zero] at ra oa
  have hle:cell f.type≤cs.length:=by
   have:=contF_tot fs _ _ h3
   omega
  have hlen:o+cs.length=o+cell f.type+(cs.drop (cell f.type)).length:=by rw[List.length_drop];omega
  rw[hlen] at h3
  obtain ⟨b,sb,rb,ob⟩:=struct_cells fs (o+cell f.type) (cs.drop (cell f.type)) h3 fun i g hg hok=>by
   have hi:=contF_le fs _ _ h3 i g hg
   obtain ⟨hs,k1,k2,k3⟩:=h (i+1) g (by simpa using hg) hok
   have e:(cs.drop (cell f.type)).drop (g.offset-(o+cell f.type))=cs.drop (g.offset-o):=by
    rw[List.drop_drop];congr 1;omega
   rw[e]
   exact ⟨hs,k1,k2,k3⟩
  refine ⟨a++b,⟨a,b,rfl,sa,sb⟩,?_,?_⟩
  ·have:=(RL_append (Z:=Z) (G:=[]) (w:=w) a b cs []).2 ⟨cs.take (cell f.type),cs.drop (cell f.type),[],[],by simp,rfl,ra,rb⟩
   exact this
  ·intro c hc
   rw[←List.take_append_drop (cell f.type) cs] at hc
   rcases List.mem_append.1 hc with h | h
   ·exact oa c h
   ·exact ob c h
theorem array_cells {S:List HV→Prop} {k:Nat}:∀(m:Nat) (cs:List Value),cs.length=m*k→(∀i,i<m→∃hs,S hs∧RL Z [] w hs ((cs.drop (i*k)).take k) []∧Ones ((cs.drop (i*k)).take k))→
  ∃rows:List (List HV),rows.length=m∧(∀r∈rows,S r)∧RL Z [] w rows.flatten cs []∧Ones cs
 | 0,cs,hl,_=>by
  obtain rfl:cs=[]:=List.length_eq_zero_iff.1 (by omega)
  exact ⟨[],rfl,by simp,by simp[RL],by simp[Ones]⟩
 | m+1,cs,hl,h=>by
  obtain ⟨a,sa,ra,oa⟩:=h 0 (by omega)
  simp only[Nat.zero_mul,List.drop_zero] at ra oa
  have hk:k≤cs.length:=by rw[hl,Nat.add_mul];omega
  obtain ⟨rows,h1,h2,h3,h4⟩:=array_cells (k:=k) m (cs.drop k) (by rw[List.length_drop,hl,Nat.add_mul];omega) fun i hi=>by
   obtain ⟨hs,k1,k2,k3⟩:=h (i+1) (by omega)
   have e:(cs.drop k).drop (i*k)=cs.drop ((i+1)*k):=by
    rw[List.drop_drop];congr 1;rw[Nat.add_mul];omega
   rw[e];exact ⟨hs,k1,k2,k3⟩
  refine ⟨a::rows,by simp[h1],?_,?_,?_⟩
  ·intro r hr
   rcases List.mem_cons.1 hr with rfl | hr
   ·exact sa
   ·exact h2 r hr
  ·have:=(RL_append (Z:=Z) (G:=[]) (w:=w) a rows.flatten cs []).2 ⟨cs.take k,cs.drop k,[],[],by simp,rfl,ra,h3⟩
   simpa using this
  ·intro c hc
   rw[←List.take_append_drop k cs] at hc
   rcases List.mem_append.1 hc with h | h
   ·exact oa c h
   ·exact h4 c h
theorem open_cells (hZ:∀b,b<w.heap.size→Z b):∀(n:Nat) (t:TypeId) (cs:List Value) (x:DataW H×List MemPlace) (fuel:Nat),plainT P n t=true→DataW.trod enc P w base sp held fuel t cs=some x→
  ∃hs,Shp P n t hs∧RL Z [] w hs cs []∧Ones cs:=by
 intro n
 induction n with
 | zero=>intro t cs x fuel h;simp[plainT] at h
 | succ n ih =>
  intro t cs x fuel hp hx
  unfold plainT at hp
  unfold Shp
  cases ht:P.underlying t with
  | none=>rw[ht] at hp;simp at hp
  | some T =>
   rw[ht] at hp
   cases T with
   | bool =>
    obtain ⟨b,rfl,_⟩:=DataW.trod_bool ht hx
    exact ⟨_,⟨b,rfl⟩,RL_one (by simp[RV]),by simp[Ones,Value.oneCell']⟩
   | int k =>
    obtain ⟨m,rfl,_,hw⟩:=DataW.trod_int ht hx
    exact ⟨_,⟨m,hw,rfl⟩,RL_one (by simp[RV]),by simp[Ones,Value.oneCell']⟩
   | string =>
    obtain ⟨s,rfl,_,hw⟩:=DataW.trod_string ht hx
    refine ⟨_,⟨s.data.toList,by rw[Array.length_toList];exact hw,rfl⟩,RL_one (by simp[RV,str]),by simp[Ones,Value.oneCell']⟩
   | slice e =>
    simp only[Bool.and_eq_true,decide_eq_true_eq] at hp
    rcases DataW.trod_slice ht hx with ⟨rfl,_⟩ | ⟨a,len,cap,elems,rest,m,_,rfl,_,hb,hl,hm,hlen,hel,_,_⟩
    ·refine ⟨_,⟨[],Nat.zero_le _,rfl,by simp⟩,RL_one ?_,by simp[Ones,Value.oneCell']⟩
     simp only[RV]
     exact ⟨trivial,none,0,rfl,Nat.zero_le _,Nat.zero_le _,.inl trivial⟩
    ·have each:∀i,i<len→∃r,Shp P n e r∧r.length=P.cellsOf e∧RC Z [] w r a.block (a.off+i*P.cellsOf e) []∧(i=0→a.spot=none)∧a.block<w.heap.size:=by
      intro i hi
      have h1:=hel i hi
      have hel' : i<elems.length:=by omega
      rw[List.getElem?_eq_getElem hel',Option.bind_eq_some_iff] at h1
      obtain ⟨ci,hci,hti⟩:=h1
      obtain ⟨r,sr,rr,o1⟩:=ih e ci _ m hp.2 hti
      obtain ⟨lc,hcell⟩:=cells?_at hci
      have cb:∀j c,ci[j]?=some c→w.cell? ((a.add (i*P.cellsOf e)).add j)=some c:=hcell
      have h0:∃c,w.cell? (a.add (i*P.cellsOf e))=some c:=by
       have:0<ci.length:=by omega
       refine ⟨ci[0],?_⟩
       have:=hcell 0 ci[0] (List.getElem?_eq_getElem this)
       simpa [Addr.add] using this
      obtain ⟨c0,h0⟩:=h0
      have hsp:(a.add (i*P.cellsOf e)).spot=none∧a.block<w.heap.size:=by
       unfold World.cell? at h0
       have hblk0:(a.add (i*P.cellsOf e)).block=a.block:=by simp only[Addr.add];split <;> rfl
       rw[hblk0] at h0
       cases hh:w.heap[a.block]? with
       | none=>rw[hh] at h0;simp at h0
       | some ob =>
        rw[hh] at h0
        refine ⟨?_,(Array.getElem?_eq_some_iff.1 hh).1⟩
        cases ob <;> simp at h0
        exact h0.1
      have hadd:∀j,(a.add (i*P.cellsOf e)).add j=⟨a.block,a.off+i*P.cellsOf e+j,none⟩:=by
       intro j
       have e1:a.add (i*P.cellsOf e)=⟨a.block,a.off+i*P.cellsOf e,none⟩:=by
        have h2:=hsp.1
        unfold Addr.add at h2⊢
        split
        ·rename_i h3
         rw[if_pos h3] at h2
         rw[h3]
         cases a;simp at h2⊢;exact h2
        ·rfl
       rw[e1]
       unfold Addr.add
       split
       ·rename_i h3;rw[h3];rfl
       ·rfl
      refine ⟨r,sr,by have:=RL_length (Z:=Z) (G:=[]) (w:=w) r ci [] rr;omega,RC_of r ci _ _ rr o1 (fun j c hj=>by rw[←hadd];exact cb j c hj),?_,hsp.2⟩
      rintro rfl
      have:=hsp.1
      rw[Nat.zero_mul] at this
      simpa [Addr.add] using this
     obtain ⟨rows,r1,r2⟩:=choose_rows len each
     refine ⟨_,⟨rows,by omega,rfl,?_⟩,RL_one ?_,by simp[Ones,Value.oneCell']⟩
     ·intro r hr
      obtain ⟨i,hi⟩:=List.getElem?_of_mem hr
      exact (r2 i r hi).1
     ·simp only[RV]
      refine ⟨trivial,some a,cap,by rw[r1],by omega,hm,?_⟩
      by_cases h0:rows=[]
      ·exact .inl h0
      ·right
       obtain ⟨r,hi⟩:∃r,rows[0]?=some r:=by
        cases rows with
        | nil=>exact absurd rfl h0
        | cons r _=>exact ⟨r,rfl⟩
       obtain ⟨_,_,_,q1,q2⟩:=r2 0 r hi
       replace q1:=q1 rfl
       have hlen' : ∀r∈rows,r.length=P.cellsOf e:=by
        intro r hr
        obtain ⟨i,hi⟩:=List.getElem?_of_mem hr
        exact (r2 i r hi).2.1
       refine ⟨a.block,a.off,by cases a;simp at q1⊢;exact q1,hZ _ q2,?_,RR_of rows _ _ hlen' fun i r hi=>(r2 i r hi).2.2.1⟩
       intro r hr
       rw[hlen' r hr]
       unfold rowLen
       cases rows with
       | nil=>simp at hr
       | cons r0 _=>exact (hlen' r0 (by simp)).symm
   | struct fs =>
    obtain ⟨xs,m,_,_,hl,hlen,hf⟩:=DataW.trod_struct ht hx
    simp only at hp
    refine struct_cells (Z:=Z) (w:=w) fs.toList 0 cs (by rw[hl,Nat.zero_add];exact hp) fun i f hi hok=>?_
    have h1:=hf i f (by simpa using hi)
    have hlt:i<xs.length:=by
     have:=(List.getElem?_eq_some_iff.1 hi).1
     simp at this;omega
    rw[List.getElem?_eq_getElem hlt] at h1
    obtain ⟨hs,k1,k2,k3⟩:=ih f.type _ _ m hok h1
    rw[Nat.sub_zero]
    exact ⟨hs,k1,k2,k3⟩
   | array m e =>
    simp only[Bool.and_eq_true,decide_eq_true_eq] at hp
    obtain ⟨xs,k,_,_,hl,hlen,hf⟩:=DataW.trod_array ht hx
    obtain ⟨rows,h1,h2,h3,h4⟩:=array_cells (Z:=Z) (w:=w) (S:=Shp P n e) m cs (by rw[hl];exact hp.1) fun i hi=>by
     have:=hf i hi
     rw[List.getElem?_eq_getElem (show i<xs.length by omega)] at this
     exact ih e _ _ k hp.2 this
    exact ⟨_,⟨rows,h1,rfl,h2⟩,h3,h4⟩
   | _=>simp at hp
theorem rows_mapP {α:Type} {p:α→List HV} {q:α→Prop}:∀(rows:List (List HV)),(∀r∈rows,∃a,r=p a∧q a)→∃l:List α,rows=l.map p∧∀a∈l,q a
 | [],_=>⟨[],rfl,by simp⟩
 | r::rows,h=>by
  obtain ⟨a,rfl,ha⟩:=h r (by simp)
  obtain ⟨l,rfl,hl⟩:=rows_mapP rows fun r hr=>h r (by simp[hr])
  exact ⟨a::l,rfl,by intro x hx;exact (List.mem_cons.1 hx).elim (fun e=>e▸ha) (hl x)⟩
theorem open_ag (hZ:∀b,b<w.heap.size→Z b) {n:Nat} {r:Reach} {b0:Nat} {t:TypeId} {fs:Array Field} {v:Value} {d:DataW H} {ps:List MemPlace} (ht:P.underlying t=some (.struct fs)) (hp:plainT P (n+1) t=true) (hval:Value.okWide P w r b0 t v) (hd:DataW.Trod enc P w base sp held t v d ps) :
  ∃hs:List HV,RV Z [] w (.ag hs) v []∧ShpF (Shp P n) fs.toList hs:=by
 obtain ⟨cs,rfl,_⟩:=okWide_struct ht hval
 obtain ⟨fuel,hf⟩:=hd
 obtain ⟨hs,h1,h2,_⟩:=open_cells (Z:=Z) hZ (n+1) t _ _ fuel hp hf
 unfold Shp at h1
 rw[ht] at h1
 refine ⟨hs,?_,h1⟩
 simp only[RV]
 exact ⟨cs,rfl,h2⟩
theorem shp_int {n:Nat} {t:TypeId} {k:IntKind} {hs:List HV} (ht:P.underlying t=some (.int k)) (h:Shp P (n+1) t hs):∃x,(Lit.int k x).wf=true∧hs=[.v (.int k x)]:=by
 unfold Shp at h;rw[ht] at h;exact h
theorem shp_bool {n:Nat} {t:TypeId} {hs:List HV} (ht:P.underlying t=some .bool) (h:Shp P (n+1) t hs):∃b,hs=[.v (.bool b)]:=by
 unfold Shp at h;rw[ht] at h;exact h
theorem shp_str {n:Nat} {t:TypeId} {hs:List HV} (ht:P.underlying t=some .string) (h:Shp P (n+1) t hs):∃s:List UInt8,s.length≤maxLen∧hs=[.v (str s)]:=by
 unfold Shp at h;rw[ht] at h;exact h
theorem shp_sl {n:Nat} {t e:TypeId} {hs:List HV} (ht:P.underlying t=some (.slice e)) (h:Shp P (n+1) t hs):∃rows:List (List HV),rows.length≤maxLen∧hs=[.sl rows]∧∀r∈rows,Shp P n e r:=by
 unfold Shp at h;rw[ht] at h;exact h
theorem shp_ag {n:Nat} {t:TypeId} {fs:Array Field} {hs:List HV} (ht:P.underlying t=some (.struct fs)) (h:Shp P (n+1) t hs):ShpF (Shp P n) fs.toList hs:=by
 unfold Shp at h;rw[ht] at h;exact h
end
end Go.Proofs.YtmapdjdnnhlpiaaGreatDoor
