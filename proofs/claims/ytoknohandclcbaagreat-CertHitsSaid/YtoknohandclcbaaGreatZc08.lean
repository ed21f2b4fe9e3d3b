/- Parts of the proof: HiV, HiW, HiX, HiMp, Ca, Sc, HiDf, Sd, HiDg. -/
import Derived.Test.YtoknohandclcbaaGreatZc07
import Derived.RangeFuncRecord
import Derived.RangeFuncNested
import Derived.Test.YtoknohandclcbaaGreatZc05
open Nat renaming reduceAdd → nA, reduceSub → nS, reduceMul → nM, reduceBEq → nB
open Int renaming reduceToNat → nT
set_option linter.unusedSectionVars false
set_option linter.unusedVariables false
set_option linter.unusedSimpArgs false
namespace Go.Proofs.YtoknohandclcbaaGreat
open Go.RowKit
section
variable {Z Z' : Nat→Prop} {w w' : World}
theorem HInv.join {G G' : List (Option OG)} {FP FP' : Nat→List Nat} {H H' : Heap} {m:Nat} (h:HInv Z G FP H w) (hml:m≤H.length) (h' : HInv Z' G' FP' H' w') (hlen:H'.length=m)
  (hG:GLe (G.take m) G') (hE:Evo Z (fun j=>if j<m then FP j else []) w Z' FP' w') :
  HInv Z' (G'++G.drop m) (fun j=>if j<m then FP' j else FP j) (H'++H.drop m) w'∧GLe G (G'++G.drop m)∧Evo Z FP w Z' (fun j=>if j<m then FP' j else FP j) w':=by
 have hG'l:G'.length=m:=h'.len.trans hlen
 have hGl:m≤G.length:=by rw[h.len];exact hml
 have hout:∀j,m≤j→FP' j=[]:=fun j hj=>h'.nofp j (fun o ho=>by have:=(List.getElem?_eq_some_iff.1 ho).1;omega)
 have hle:GLe G (G'++G.drop m):=by
  refine ⟨by simp;omega,fun id hid=>?_⟩
  by_cases e:id<m
  ·rw[List.getElem?_append_left (by omega)]
   have k:=hG.at_ id (by simp;omega)
   simp only[zAO (l:=G) e] at k
   exact k
  ·right;left
   rw[List.getElem?_append_right (by omega),List.getElem?_drop,hG'l]
   congr 1;omega
 have hZk:∀b,Z b→w'.heap[b]?=w.heap[b]?:=fun b hb=>hE.keep b (h.zlt b hb) (fun id hc=>by
  by_cases e:id<m
  ·simp only[if_pos e] at hc;exact h.zfp id b hc hb
  ·simp[e] at hc)
 have hnot:∀j,¬j<m→∀b,b∈FP j→∀id,b∉(if id<m then FP id else []):=fun j hj b hb id hc=>by
  by_cases e:id<m
  ·simp only[if_pos e] at hc
   have:=h.disj id j b hc hb
   omega
  ·simp[e] at hc
 have hkj:∀j,¬j<m→∀b,b∈FP j→w'.heap[b]?=w.heap[b]?:=fun j hj b hb=>hE.keep b (h.flt j b hb) (hnot j hj b hb)
 have hcross:∀i j b,¬j<m→b∈FP' i→b∈FP j→False:=fun i j b hj hi hb=>by
  rcases hE.fnew i b hi with k | ⟨id,k⟩
  ·have:=h.flt j b hb;omega
  ·exact hnot j hj b hb id k
 have get1:∀{j:Nat},j<m→(H'++H.drop m)[j]?=H'[j]?:=fun hj=>List.getElem?_append_left (by omega)
 have get2:∀{j:Nat},¬j<m→(H'++H.drop m)[j]?=H[j]?:=fun hj=>by
  rw[List.getElem?_append_right (by omega),List.getElem?_drop,hlen];congr 1;omega
 have gg1:∀{j:Nat},j<m→(G'++G.drop m)[j]?=G'[j]?:=fun hj=>List.getElem?_append_left (by omega)
 have gg2:∀{j:Nat},¬j<m→(G'++G.drop m)[j]?=G[j]?:=fun hj=>by
  rw[List.getElem?_append_right (by omega),List.getElem?_drop,hG'l];congr 1;omega
 refine ⟨⟨by simp[hlen,hG'l,h.len],fun j hj=>?_,fun j hj=>?_,fun j o hj=>?_,fun j=>?_,fun i j b hi hj=>?_,h'.zlt,fun j b hb=>?_,fun j b hb=>?_,h'.glob⟩,hle,⟨hE.os,hE.tape,hE.output,hE.size,fun b hb hf=>?_,hE.zle,fun b hb=>?_,fun j b hb=>?_⟩⟩
 ·by_cases e:j<m
  ·rw[get1 e] at hj;rw[gg1 e];exact h'.dead j hj
  ·rw[get2 e] at hj;rw[gg2 e];exact h.dead j hj
 ·by_cases e:j<m
  ·simp only[if_pos e];exact h'.nofp j (fun o=>by have:=hj o;rwa [get1 e] at this)
  ·simp only[if_neg e];exact h.nofp j (fun o=>by have:=hj o;rwa [get2 e] at this)
 ·by_cases e:j<m
  ·rw[get1 e] at hj
   obtain ⟨g,hg,hob⟩:=h'.live j o hj
   refine ⟨g,by rw[gg1 e];exact hg,?_⟩
   simp only[if_pos e]
   exact hob.keep (fun _ _=>rfl) (fun _ h=>h) (GLe.more _) (fun _ _=>rfl)
  ·rw[get2 e] at hj
   obtain ⟨g,hg,hob⟩:=h.live j o hj
   refine ⟨g,by rw[gg2 e];exact hg,?_⟩
   simp only[if_neg e]
   exact hob.keep hZk hE.zle hle (hkj j e)
 ·by_cases e:j<m
  ·simp only[if_pos e];exact h'.nodup j
  ·simp only[if_neg e];exact h.nodup j
 ·by_cases e1:i<m <;> by_cases e2:j<m
  ·simp only[if_pos e1] at hi;simp only[if_pos e2] at hj;exact h'.disj i j b hi hj
  ·simp only[if_pos e1] at hi;simp only[if_neg e2] at hj;exact (hcross i j b e2 hi hj).elim
  ·simp only[if_neg e1] at hi;simp only[if_pos e2] at hj;exact (hcross j i b e1 hj hi).elim
  ·simp only[if_neg e1] at hi;simp only[if_neg e2] at hj;exact h.disj i j b hi hj
 ·by_cases e:j<m
  ·simp only[if_pos e] at hb;exact h'.flt j b hb
  ·simp only[if_neg e] at hb;exact Nat.lt_of_lt_of_le (h.flt j b hb) hE.size
 ·by_cases e:j<m
  ·simp only[if_pos e] at hb;exact h'.zfp j b hb
  ·simp only[if_neg e] at hb
   intro hz
   rcases hE.znew b hz with k | k | ⟨id,k⟩
   ·exact h.zfp j b hb k
   ·have:=h.flt j b hb;omega
   ·exact hnot j e b hb id k
 ·exact hE.keep b hb (fun id hc=>by
   by_cases e:id<m
   ·simp only[if_pos e] at hc;exact hf id hc
   ·simp[e] at hc)
 ·rcases hE.znew b hb with k | k | ⟨id,k⟩
  ·exact .inl k
  ·exact .inr (.inl k)
  ·by_cases e:id<m
   ·simp only[if_pos e] at k;exact .inr (.inr ⟨id,k⟩)
   ·simp[e] at k
 ·by_cases e:j<m
  ·simp only[if_pos e] at hb
   rcases hE.fnew j b hb with k | ⟨id,k⟩
   ·exact .inl k
   ·by_cases e' : id<m
    ·simp only[if_pos e'] at k;exact .inr ⟨id,k⟩
    ·simp[e'] at k
  ·simp only[if_neg e] at hb;exact .inr ⟨j,hb⟩
end
section
variable {P:Program}
theorem HYield.frame {id:Nat} {H:Heap} {args:List HV} {Kb:Bool→Heap→Prop} (m:Nat) (h:HYield P id (H.take m) args Kb) (hid:id<m) (hml:m≤H.length) (hnm:nmH m H=true) (hargs:nmL m args=true) :
  HYield P id H args (fun b H'=>∃Hc,H'=Hc++H.drop m∧Hc.length=m∧Kb b Hc):=by
 intro ro n Z G FP w l vals hi hy ha
 have hmg:m≤G.length:=by rw[hi.len];exact hml
 have hi':=hi.trunc m hnm
 have hy':=zBK (.yl id) m G _ [] (by simpa [nm] using hid) hy
 have ha':=zAp args m G _ [] hargs ha
 obtain ⟨fn,tmps,assign,body,h1,h2⟩:=h ro n Z _ _ w l vals hi' hy' ha'
 refine ⟨fn,tmps,assign,body,h1,h2.mono ?_⟩
 rintro e w' ⟨v,r,H',Z',G',FP',fr,rfl,⟨b,rfl,hQ⟩,hlen,hi2,hr,hnd,hfr1,hfr2,hG,hE⟩
 simp only[RV] at hr
 obtain ⟨rfl,rfl⟩:=hr
 have hlm:H'.length=m:=by rw[hlen];simp;omega
 obtain ⟨j1,j2,j3⟩:=hi.join hml hi2 hlm hG hE
 exact ⟨_,.v (.bool b),_,Z',_,_,[],rfl,⟨b,rfl,H',rfl,hlm,hQ⟩,by simp;omega,j1,by simp[RV],by simp,by simp,by simp,j2,j3⟩
def HSeq (P:Program) (gf:Nat) (Hc:Heap) (caps:List HV) (Hc0:Heap) (xs:List (List HV)):Prop :=
 ∀(id:Nat) (J K:Nat→Heap→Prop),id<Hc.length→
  (∀i H,J i H→H.length=Hc.length∧nmH Hc.length H=true)→(∀i H,K i H→nmH Hc.length H=true)→
  (∀i x H,xs[i]?=some x→J i H→HYield P id H x (fun b H'=>if b=true then J (i+1) H' else K (i+1) H'))→
  J 0 Hc0→HCalls P gf Hc (.yl id::caps) (fun _ H'=>J xs.length H'∨∃i,K i H')
end
end Go.Proofs.YtoknohandclcbaaGreat
namespace Go.Proofs.YtoknohandclcbaaGreat
open Go.RowKit
mutual
theorem zMG {m m' : Nat} (h:m≤m'):∀x:HV,nm m x=true→nm m' x=true
 | .hd ..,hx=>by simp only[nm,decide_eq_true_eq] at hx⊢;omega
 | .pt ..,hx=>by simp only[nm,decide_eq_true_eq] at hx⊢;omega
 | .mp _,hx=>by simp only[nm,decide_eq_true_eq] at hx⊢;omega
 | .yl _,hx=>by simp only[nm,decide_eq_true_eq] at hx⊢;omega
 | .ag cs,hx=>by simp only[nm] at hx⊢;exact zEC h cs hx
 | .tu cs,hx=>by simp only[nm] at hx⊢;exact zEC h cs hx
 | .fn _ cs,hx=>by simp only[nm] at hx⊢;exact zEC h cs hx
 | .ic _ x,hx=>by simp only[nm] at hx⊢;exact zMG h x hx
 | .any,_=>rfl
 | .v _,_=>rfl
 | .sl _,_=>rfl
 | .ow ..,_=>rfl
 | .fp ..,_=>rfl
 | .bx ..,_=>rfl
 | .ob _,_=>rfl
 | .om ..,_=>rfl
 | .gv _,_=>rfl
theorem zEC {m m' : Nat} (h:m≤m'):∀l:List HV,nmL m l=true→nmL m' l=true
 | [],_=>rfl
 | x::l,hx=>by
  simp only[nmL,Bool.and_eq_true] at hx⊢
  exact ⟨zMG h x hx.1,zEC h l hx.2⟩
end
theorem zI2 {m m' : Nat} (h:m≤m'):∀l:List (List HV),nmR m l=true→nmR m' l=true
 | [],_=>rfl
 | x::l,hx=>by
  simp only[nmR,Bool.and_eq_true] at hx⊢
  exact ⟨zEC h x hx.1,zI2 h l hx.2⟩
def tvT (T:Nat→HV):Nat→HV:=fun i=>if tv (T i)=true then T i else .any
theorem z1i (T:Nat→HV) (i:Nat):tv (tvT T i)=true:=by
 unfold tvT
 split
 ·assumption
 ·rfl
theorem zQs {f:Nat→HV} (h:∀i,tv (f i)=true):∀l:List Nat,tvs (l.map f)=true
 | []=>rfl
 | a::l=>by simp only[List.map_cons,tvs,h a,zQs h l,Bool.and_self]
def recO (N:Nat) (T:Nat→HV) (r:Loop):HObj:=⟨0,N+1,[.ob (.loop { r with tmps:=#[] })::(List.range N).map (tvT T)]⟩
def zFl (T:Nat→HV):List Nat→List HV→Nat→HV
 | p::ps,h::hs=>zFl (upd T p h) ps hs
 | _,_=>T
section
variable {Z:Nat→Prop} {G:List (Option OG)} {FP:Nat→List Nat} {H:Heap} {w:World} {P:Program} {N:Nat} {T:Nat→HV}
theorem zHW:∀(ps:List Nat) (hs:List HV) (vs:List Value) (T:Nat→HV) (tm:Array Value),RL Z G w hs vs []→tm.size=N→(∀i,i<N→RV Z G w (T i) (tm.getD i undef) [])→
  ((ps.zip vs).foldl (fun t (p:Nat×Value)=>t.setIfInBounds p.1 p.2) tm).size=N∧∀i,i<N→RV Z G w (zFl T ps hs i) (((ps.zip vs).foldl (fun t (p:Nat×Value)=>t.setIfInBounds p.1 p.2) tm).getD i undef) []
 | [],hs,vs,T,tm,_,hsz,h=>by simp only[zFl,List.zip_nil_left,List.foldl_nil];exact ⟨hsz,h⟩
 | p::ps,[],vs,T,tm,hr,hsz,h=>by
  simp only[RL] at hr
  obtain ⟨rfl,_⟩:=hr
  simp only[zFl,List.zip_nil_right,List.foldl_nil];exact ⟨hsz,h⟩
 | p::ps,x::hs,vs,T,tm,hr,hsz,h=>by
  simp only[RL] at hr
  obtain ⟨y,ys,f1,f2,rfl,hf,h1,h2⟩:=hr
  obtain ⟨rfl,rfl⟩:=List.append_eq_nil_iff.1 hf.symm
  simp only[zFl,List.zip_cons_cons,List.foldl_cons]
  refine zHW ps hs ys (upd T p x) (tm.setIfInBounds p y) h2 (by simp[hsz]) (fun i hi=>?_)
  unfold upd
  by_cases e:i=p
  ·subst e
   rw[if_pos rfl]
   simpa [Array.getD_eq_getD_getElem?,hsz,hi] using h1
  ·rw[if_neg e]
   have:=h i hi
   simpa [Array.getD_eq_getD_getElem?,Array.getElem?_setIfInBounds_ne (Ne.symm e)] using this
theorem zOQ {tm:Array Value} (hsz:tm.size=N) (h:∀i,i<N→RV Z G w (T i) (tm.getD i undef) []):RL Z G w ((List.range N).map T) tm.toList []:=by
 have key:∀(l:List Nat),(∀i∈l,i<N)→RL Z G w (l.map T) (l.map fun i=>tm.getD i undef) []:=by
  intro l
  induction l with
  | nil=>intro _;simp[RL]
  | cons a l ih =>
   intro hl
   simp only[List.map_cons,RL]
   exact ⟨_,_,[],[],rfl,rfl,h a (hl a (by simp)),ih (fun i hi=>hl i (by simp[hi]))⟩
 have e:tm.toList=(List.range N).map fun i=>tm.getD i undef:=by
  apply List.ext_getElem?
  intro i
  by_cases hi:i<N
  ·have h1:i<tm.size:=by omega
   simp[hi,h1]
  ·have h1:¬i<tm.size:=by omega
   simp[hi,h1]
 rw[e]
 exact key _ (fun i hi=>by simpa using hi)
theorem zLM {tm:Array Value} (h:RL Z G w ((List.range N).map T) tm.toList []):tm.size=N∧∀i,i<N→RV Z G w (T i) (tm.getD i undef) []:=by
 have hl:=zS _ _ _ h
 have hsz:tm.size=N:=by simpa using hl
 refine ⟨hsz,fun i hi=>?_⟩
 obtain ⟨y,f,hy,hr,hsub⟩:=zOS _ _ _ h i (T i) (by simp[hi])
 have:f=[]:=List.eq_nil_of_sublist_nil hsub
 subst this
 have:tm.getD i undef=y:=by
  rw[Array.getElem?_toList] at hy
  simp[Array.getD_eq_getD_getElem?,hy]
 rw[this];exact hr
theorem zYN {Hi:Heap} {rc:Loop} (hi:HInv Z G FP (Hi++[some (recO N T rc)]) w) :
  ∃l tm,G[Hi.length]?=some (some ⟨none,0,N+1,1,l⟩)∧FP Hi.length=[l]∧w.heap[l]?=some (.loop { rc with tmps:=tm })∧RL Z G w ((List.range N).map (tvT T)) tm.toList []:=by
 obtain ⟨g,hg,hob⟩:=hi.live Hi.length (recO N T rc) (by simp)
 rcases hob.at_ with ⟨_,e,_⟩ | ⟨b,cells,f,_,_,_,_,_,_,e⟩ | ⟨x,hs,obj,f,e1,e2,e3,e4,e5,e6⟩
 ·simp[recO] at e
 ·simp only[recO,RR,RC,RV] at e
  obtain ⟨_,_,_,⟨_,_,_,_,_,_,h,_⟩,_⟩:=e
  exact h.elim
 ·simp only[recO,List.cons.injEq,HV.ob.injEq,and_true] at e2
  obtain ⟨rfl,rfl⟩:=e2
  have hf:f=[]:=zDX _ _ _ (zQs (z1i T) _) e6
  subst hf
  obtain ⟨tm,rfl⟩:∃tm,obj=.loop { rc with tmps:=tm }:=by
   cases obj <;> simp[zNe] at e5
   rename_i r
   cases r;cases rc
   simp at e5
   simp[e5]
  have ge:g=⟨none,0,N+1,1,g.cap⟩:=by
   have h1:=hob.e;have h2:=hob.sz;have h3:=hob.n
   cases g
   simp[recO] at h1 h2 h3 e1
   simp[h1,h2,h3,e1]
  refine ⟨g.cap,tm,by rw[hg,←ge],e3,e4,e6⟩
theorem St.putRec {B:Nat} {ds:List Nat} {a:Act} {l:Nat} {r:Loop} {o' : Obj} (hs:St N B Z G FP ds T H a w) (hz:¬Z l) (hf:∀id,l∉FP id) (hl:w.heap[l]?=some (.loop r)):St N B Z G FP ds T H a (w.putObj l o'):=by
 have hk:∀b,b≠l→(w.putObj l o').heap[b]?=w.heap[b]?:=fun b hb=>World.putObj_heap_other hb
 refine ⟨hs.inv.keep (by simp) (fun b hb=>hk b ?_),hs.size,fun i hi=>RV.nil_keep (fun b hb=>hk b (fun e=>hz (e▸hb))) (fun _ h=>h) (GLe.refl _) (hs.tmps i hi),hs.defers,hs.dsn,fun d hd=>?_⟩
 ·rintro rfl
  rcases hb with hb | ⟨id,hb⟩
  ·exact hz hb
  ·exact hf id hb
 ·obtain ⟨h1,h2,h3,h4⟩:=hs.dsat d hd
  refine ⟨h1,(hk d ?_).trans h2,h3,h4⟩
  rintro rfl
  rw[hl] at h2;cases h2
def RQ (N L:Nat) (I:Heap→Prop) (X:Code→Heap→Prop):Exit→KS
 | .normal=>GQ N L fun _ H=>H.length=L∧I H
 | .ret=>GQ N L fun _ H=>H.length=L∧X .ret H
 | .exit i=>GQ N L fun _ H=>H.length=L∧X (.exit i) H
 | .goto t=>GQ N L fun _ H=>H.length=L∧X (.goto t) H
 | _=>fun _ _=>False
theorem zLP {Hi:Heap} {rc:Loop} {x:List HV} {I:Heap→Prop} {X:Code→Heap→Prop} (hr:rc.state=.ready) (hx:x.length=rc.params.size) (hnm:nmH Hi.length Hi=true) (hxn:nmL Hi.length x=true)
  (hT:∀i,i<N→nm Hi.length (tvT T i)=true)
  (round:HW P N Hi.length rc.assign (fin (HW P N Hi.length rc.body (RQ N Hi.length I X)) (fun _ _ _=>False)) (zFl (tvT T) rc.params.toList x) Hi) :
  HYield P Hi.length (Hi++[some (recO N T rc)]) x (fun b H'=>if b=true then ∃H2,H'=H2++[some (recO N T { rc with state:=.ready,pending:=none })]∧H2.length=Hi.length∧nmH Hi.length H2=true∧I H2
   else ∃H2 c,H'=H2++[some (recO N T { rc with state:=.done,pending:=some c })]∧H2.length=Hi.length∧nmH Hi.length H2=true∧X c H2):=by
 intro ro m Z G FP w l vals hi hy ha
 obtain ⟨l',tm,hg,hfp,hl,hrl⟩:=zYN hi
 simp only[RV] at hy
 obtain ⟨_,hlt,l2,hl2,hcap⟩:=hy
 cases hl2
 have hll:l=l':=(hcap _ hg).2 rfl rfl
 subst hll
 have hlen:=hi.len
 simp only[List.length_append,List.length_cons,List.length_nil] at hlen
 obtain ⟨hsz,htm⟩:=zLM hrl
 have hnm' : nmH Hi.length (Hi++[some (recO N T rc)])=true:=by
  have:(Hi++[some (recO N T rc)]).take Hi.length=Hi.take Hi.length:=by simp
  unfold nmH at hnm⊢
  rw[this];exact hnm
 have hic:=hi.trunc Hi.length hnm'
 rw[List.take_left] at hic
 have htm' : ∀i,i<N→RV Z (G.take Hi.length) w (tvT T i) (tm.getD i undef) []:=fun i hi'=>zBK _ _ G _ [] (hT i hi') (htm i hi')
 have hxr:RL Z (G.take Hi.length) w x vals []:=zAp _ _ G _ [] hxn ha
 have hvl:=zS _ _ _ ha
 obtain ⟨hsz2,htm2⟩:=zHW rc.params.toList x vals (tvT T) tm hxr hsz htm'
 have efold:(rc.params.zip vals.toArray).foldl (fun tmps (t,a)=>tmps.setIfInBounds t a) tm=(rc.params.toList.zip vals).foldl (fun t (p:Nat×Value)=>t.setIfInBounds p.1 p.2) tm:=by
  rw[←Array.foldl_toList]
  simp[Array.toList_zip]
 obtain ⟨FPt,hFPt⟩:∃FPt:Nat→List Nat,FPt=fun j=>if j<Hi.length then FP j else []:=⟨_,rfl⟩
 rw[←hFPt] at hic
 have hlFP:∀id,l∉FPt id:=fun id hc=>by
  rw[hFPt] at hc
  by_cases e:id<Hi.length
  ·simp only[if_pos e] at hc
   have:=hi.disj id Hi.length l hc (by rw[hfp];simp)
   omega
  ·simp[e] at hc
 have hlZ:¬Z l:=hi.zfp Hi.length l (by rw[hfp];simp)
 have hlw:l<w.heap.size:=(Array.getElem?_eq_some_iff.1 hl).1
 have hst:St N 0 Z (G.take Hi.length) FPt [] (zFl (tvT T) rc.params.toList x) Hi { tmps:=(rc.params.zip vals.toArray).foldl (fun tmps (t,a)=>tmps.setIfInBounds t a) tm,defers:=[] } w:=by
  rw[efold]
  exact ⟨hic,hsz2,htm2,rfl,by simp,by simp⟩
 have hGl:(G.take Hi.length).length=Hi.length:=by simp;omega
 refine ⟨rc.fn,_,rc.assign,rc.body,run_yield (P:=P) (r:={ rc with tmps:=tm }) (args:=vals.toArray) hl (by simp[hvl,hx]),roundIn_of_wpIn trivial ?_⟩
 refine wpIn_mono (round (some l) m 0 Z _ FPt [] _ w ⟨Nat.zero_le _,fun l' e=>by cases e;exact ⟨_,hl,hlFP⟩⟩ (by rw[hGl];exact Nat.le_refl _) hst) ?_
 rintro e a1 w1 ⟨T1,H1,Z1,G1,FP1,ds1,hq,hs1,hG1,hE1⟩
 cases e with
 | normal =>
  have keepl:∀{Za Zb:Nat→Prop} {FPa FPb:Nat→List Nat} {wa wb:World} {ob:Obj},Evo Za FPa wa Zb FPb wb→wa.heap[l]?=some ob→¬Za l→(∀id,l∉FPa id)→wb.heap[l]?=some ob∧¬Zb l∧∀id,l∉FPb id:=by
   intro Za Zb FPa FPb wa wb ob hE h1 h2 h3
   have hlt:l<wa.heap.size:=(Array.getElem?_eq_some_iff.1 h1).1
   refine ⟨(hE.keep l hlt h3).trans h1,fun hc=>?_,fun id hc=>?_⟩
   ·rcases hE.znew l hc with k | k | ⟨id,k⟩
    ·exact h2 k
    ·omega
    ·exact h3 id k
   ·rcases hE.fnew id l hc with k | ⟨id',k⟩
    ·omega
    ·exact h3 id' k
  obtain ⟨hl1,hlZ1,hlF1⟩:=keepl hE1 hl hlZ hlFP
  refine ⟨_,run_beginRound hl1 hr,?_⟩
  have hs1':=hs1.putRec (o':=.loop { rc with tmps:=tm,state:=.busy }) hlZ1 hlF1 hl1
  have hl1' : (w1.putObj l (.loop { rc with tmps:=tm,state:=.busy })).heap[l]?=some (.loop { rc with tmps:=tm,state:=.busy }):=World.putObj_heap_same (Array.getElem?_eq_some_iff.1 hl1).1
  have hE1' : ∀b,b≠l→(w1.putObj l (.loop { rc with tmps:=tm,state:=.busy })).heap[b]?=w1.heap[b]?:=fun b hb=>World.putObj_heap_other hb
  refine wpIn_mono (hq (some l) m 0 Z1 G1 FP1 ds1 a1 _ ⟨Nat.zero_le _,fun l' e=>by cases e;exact ⟨_,hl1',hlF1⟩⟩ hG1.len hs1') ?_
  have fin:∀(jump:Option Code) (T3:Nat→HV) (H3:Heap) (Z3:Nat→Prop) (G3:List (Option OG)) (FP3:Nat→List Nat) (ds3:List Nat) (a3:Act) (w3:World),St N 0 Z3 G3 FP3 ds3 T3 H3 a3 w3→H3.length=Hi.length→GLt Hi.length G1 G3→
    Evo Z1 FP1 (w1.putObj l (.loop { rc with tmps:=tm,state:=.busy })) Z3 FP3 w3→(∀K:Bool→Heap→Prop,K jump.isNone (H3++[some (recO N T { rc with state:=if jump.isNone then .ready else .done,pending:=jump })])→
    ∃v w',(Instr.endRound l jump).run P w3=.ok v w'∧Post Z G FP (Hi++[some (recO N T rc)]) w (fun r H'=>∃b,r=.v (.bool b)∧K b H') (.returned v) w'):=by
   intro jump T3 H3 Z3 G3 FP3 ds3 a3 w3 hs3 hlen3 hG3 hE3 K hK
   obtain ⟨hl3,hlZ3,hlF3⟩:=keepl hE3 hl1' hlZ1 hlF1
   have hl3lt:=(Array.getElem?_eq_some_iff.1 hl3).1
   refine ⟨_,_,run_endRound jump hl3,?_⟩
   have hk4:∀b,b≠l→(w3.putObj l (.loop { rc with tmps:=tm,state:=if jump.isNone then .ready else .done,pending:=jump })).heap[b]?=w3.heap[b]?:=fun b hb=>World.putObj_heap_other hb
   have hs4:=hs3.putRec (o':=.loop { rc with tmps:=tm,state:=if jump.isNone then .ready else .done,pending:=jump }) hlZ3 hlF3 hl3
   have hG3l:G3.length=Hi.length:=hs3.inv.len.trans hlen3
   have hGt3:GLe (G.take Hi.length) G3:=by
    have:=hG1.trans hG3
    exact ⟨by omega,fun id hid=>this.at_ id (by omega)⟩
   have hZall:∀b,Z b→b≠l:=fun b hb e=>hlZ (e▸hb)
   have kept:∀b,b<w.heap.size→(∀id,b∉FPt id)→b≠l→(w3.putObj l (.loop { rc with tmps:=tm,state:=if jump.isNone then .ready else .done,pending:=jump })).heap[b]?=w.heap[b]?:=by
    intro b hb hf hne
    rw[hk4 b hne]
    have hf1:∀id,b∉FP1 id:=fun id hc=>by
     rcases hE1.fnew id b hc with k | ⟨id',k⟩
     ·omega
     ·exact hf id' k
    have hb1:b<(w1.putObj l (.loop { rc with tmps:=tm,state:=.busy })).heap.size:=by simp;exact Nat.lt_of_lt_of_le hb hE1.size
    exact ((hE3.keep b hb1 hf1).trans (hE1' b hne)).trans (hE1.keep b hb hf)
   have hZk:∀b,Z b→(w3.putObj l (.loop { rc with tmps:=tm,state:=if jump.isNone then .ready else .done,pending:=jump })).heap[b]?=w.heap[b]?:=fun b hb =>
    kept b (hi.zlt b hb) (fun id hc=>by
     rw[hFPt] at hc
     by_cases e:id<Hi.length
     ·simp only[if_pos e] at hc;exact hi.zfp id b hc hb
     ·simp[e] at hc) (hZall b hb)
   have hnew:=hs4.inv.new (w':=w3.putObj l (.loop { rc with tmps:=tm,state:=if jump.isNone then .ready else .done,pending:=jump })) (o:=recO N T { rc with state:=if jump.isNone then .ready else .done,pending:=jump }) (g:=⟨none,0,N+1,1,l⟩) (fp:=[l])
    (Nat.le_refl _) (fun _ _=>rfl) ⟨rfl,rfl,rfl,by simp[recO],.inr (.inr ⟨_,_,.loop { rc with tmps:=tm,state:=if jump.isNone then .ready else .done,pending:=jump },[],rfl,rfl,rfl,World.putObj_heap_same hl3lt,rfl,zOQ hsz fun i hi' =>
     RV.nil_keep hZk (fun b hb=>hE3.zle b (hE1.zle b hb)) (hGt3.trans (GLe.more _)) (htm' i hi')⟩)⟩ (by simp) (by simp only[List.mem_singleton];rintro b rfl;exact ⟨hlZ3,by simpa using hl3lt,hlF3⟩)
   refine ⟨_,.v (.bool jump.isNone),_,Z3,_,_,[],rfl,⟨_,rfl,hK⟩,by simp[hlen3],hnew,by simp[RV],by simp,by simp,by simp,?_,⟨?_,?_,?_,?_,fun b hb hf=>?_,fun b hb=>hE3.zle b (hE1.zle b hb),fun b hb=>?_,fun j b hb=>?_⟩⟩
   ·refine ⟨by simp;omega,fun id hid=>?_⟩
    by_cases e:id<Hi.length
    ·rw[List.getElem?_append_left (by omega)]
     have k:=hGt3.at_ id (by omega)
     simp only[zAO (l:=G) e] at k
     exact k
    ·have:id=Hi.length:=by omega
     subst this
     right;left
     rw[hg,List.getElem?_append_right (by omega)]
     simp[hG3l]
   ·exact hE3.os.trans hE1.os
   ·exact hE3.tape.trans hE1.tape
   ·exact hE3.output.trans hE1.output
   ·have:=hE3.size;have:=hE1.size;simp only[World.putObj_size] at *;omega
   ·refine kept b hb (fun id hc=>?_) (fun e=>hf Hi.length (by rw[hfp,e];simp))
    rw[hFPt] at hc
    by_cases e:id<Hi.length
    ·simp only[if_pos e] at hc;exact hf id hc
    ·simp[e] at hc
   ·rcases hE3.znew b hb with k | k | ⟨id,k⟩
    ·rcases hE1.znew b k with k | k | ⟨id,k⟩
     ·exact .inl k
     ·exact .inr (.inl k)
     ·rw[hFPt] at k
      by_cases e:id<Hi.length
      ·simp only[if_pos e] at k;exact .inr (.inr ⟨id,k⟩)
      ·simp[e] at k
    ·simp only[World.putObj_size] at k
     exact .inr (.inl (Nat.le_trans hE1.size k))
    ·rcases hE1.fnew id b k with k | ⟨id',k⟩
     ·exact .inr (.inl k)
     ·rw[hFPt] at k
      by_cases e:id' < Hi.length
      ·simp only[if_pos e] at k;exact .inr (.inr ⟨id',k⟩)
      ·simp[e] at k
   ·by_cases e:j=H3.length
    ·simp only[if_pos e] at hb
     exact .inr ⟨Hi.length,by rw[hfp];exact hb⟩
    ·simp only[if_neg e] at hb
     rcases hE3.fnew j b hb with k | ⟨id,k⟩
     ·simp only[World.putObj_size] at k
      exact .inl (Nat.le_trans hE1.size k)
     ·rcases hE1.fnew id b k with k | ⟨id',k⟩
      ·exact .inl k
      ·rw[hFPt] at k
       by_cases e:id' < Hi.length
       ·simp only[if_pos e] at k;exact .inr ⟨id',k⟩
       ·simp[e] at k
  rintro e a2 w2 ⟨T2,H2,Z2,G2,FP2,ds2,hq2,hs2,hG2,hE2⟩
  cases e with
  | normal =>
   obtain ⟨T3,H3,gh,hlen3,hI⟩:=hq2
   obtain ⟨Z3,G3,FP3,hs3,hG3,hE3⟩:=gh 0 Z2 G2 FP2 ds2 a2 w2 hG2.len hs2
   have hnm3:=hs3.inv.nm
   rw[hlen3] at hnm3
   exact fin none T3 H3 Z3 G3 FP3 ds2 a2 w2 hs3 hlen3 (hG2.trans hG3) (hE2.trans hE3) _ (by simp only[Option.isNone_none,if_true];exact ⟨H3,rfl,hlen3,hnm3,hI⟩)
  | ret =>
   obtain ⟨T3,H3,gh,hlen3,hI⟩:=hq2
   obtain ⟨Z3,G3,FP3,hs3,hG3,hE3⟩:=gh 0 Z2 G2 FP2 ds2 a2 w2 hG2.len hs2
   have hnm3:=hs3.inv.nm
   rw[hlen3] at hnm3
   exact fin (some .ret) T3 H3 Z3 G3 FP3 ds2 a2 w2 hs3 hlen3 (hG2.trans hG3) (hE2.trans hE3) _ (by simp only[Option.isNone_some,Bool.false_eq_true,if_false];exact ⟨H3,_,rfl,hlen3,hnm3,hI⟩)
  | exit i =>
   obtain ⟨T3,H3,gh,hlen3,hI⟩:=hq2
   obtain ⟨Z3,G3,FP3,hs3,hG3,hE3⟩:=gh 0 Z2 G2 FP2 ds2 a2 w2 hG2.len hs2
   have hnm3:=hs3.inv.nm
   rw[hlen3] at hnm3
   exact fin (some (.exit i)) T3 H3 Z3 G3 FP3 ds2 a2 w2 hs3 hlen3 (hG2.trans hG3) (hE2.trans hE3) _ (by simp only[Option.isNone_some,Bool.false_eq_true,if_false];exact ⟨H3,_,rfl,hlen3,hnm3,hI⟩)
  | goto t =>
   obtain ⟨T3,H3,gh,hlen3,hI⟩:=hq2
   obtain ⟨Z3,G3,FP3,hs3,hG3,hE3⟩:=gh 0 Z2 G2 FP2 ds2 a2 w2 hG2.len hs2
   have hnm3:=hs3.inv.nm
   rw[hlen3] at hnm3
   exact fin (some (.goto t)) T3 H3 Z3 G3 FP3 ds2 a2 w2 hs3 hlen3 (hG2.trans hG3) (hE2.trans hE3) _ (by simp only[Option.isNone_some,Bool.false_eq_true,if_false];exact ⟨H3,_,rfl,hlen3,hnm3,hI⟩)
  | panic ch=>exact hq2.elim
  | outgrown=>exact hq2.elim
 | exit i=>exact hq.elim
 | goto t=>exact hq.elim
 | ret=>exact hq.elim
 | panic ch=>exact hq.elim
 | outgrown=>exact hq.elim
theorem zQV {ro:Option Nat} {B:Nat} {ds:List Nat} {a:Act} (hs:St N B Z G FP ds T H a w) (hB:Bo ro B FP w) (fn:FuncId) (ps:Array Tmp) (assign body:Code) :
  ∃l mk ds1 W1 rc,(Instr.enterLoop fn a.tmps ps assign body ro).run P w=.ok (l,mk) W1∧rc.state=.ready∧rc.pending=none∧rc.params=ps∧rc.assign=assign∧rc.body=body∧rc.tmps=a.tmps∧
   W1.heap[l]?=some (.loop rc)∧w.heap.size≤l∧(∀d∈ds1,d≠l)∧St N B Z G FP ds1 T H { a with defers:=mk++a.defers } W1∧Evo Z FP w Z FP W1:=by
 have lift:∀(W1:World),W1.os=w.os→W1.tape=w.tape→W1.output=w.output→w.heap.size≤W1.heap.size→(∀b,b<w.heap.size→W1.heap[b]?=w.heap[b]?)→St N B Z G FP ds T H a W1∧Evo Z FP w Z FP W1:=by
  intro W1 h1 h2 h3 h4 h5
  have hE:Evo Z FP w Z FP W1:=⟨h1,h2,h3,h4,fun b hb _=>h5 b hb,fun _ h=>h,fun _ h=>.inl h,fun id b hb=>.inr ⟨id,hb⟩⟩
  refine ⟨hs.evo (hs.inv.keep h4 (fun b hb=>h5 b ?_)) (GLe.refl _) hE,hE⟩
  rcases hb with hb | ⟨id,hb⟩
  ·exact hs.inv.zlt b hb
  ·exact hs.inv.flt id b hb
 have dlt:∀d∈ds,d<w.heap.size:=fun d hd=>(Array.getElem?_eq_some_iff.1 (hs.dsat d hd).2.1).1
 cases ro with
 | none =>
  obtain ⟨rc,hrc⟩:∃rc:Loop,rc = { state:=.ready,pending:=none,fn,tmps:=a.tmps,params:=ps,assign,body,defers:=w.heap.size }:=⟨_,rfl⟩
  have hrun:=run_enterLoop_outer (P:=P) (w:=w) fn a.tmps ps assign body
  rw[←hrc] at hrun
  have hl1:((w.alloc (.deferred (some []))).alloc (.loop rc)).heap[w.heap.size+1]?=some (.loop rc):=by
   have:=World.alloc_heap_new (w.alloc (.deferred (some []))) (.loop rc);rwa [World.size_alloc] at this
  have hd1:((w.alloc (.deferred (some []))).alloc (.loop rc)).heap[w.heap.size]?=some (.deferred (some [])) :=
   (Below.heap_alloc _ _ _ (by simp)).trans (World.alloc_heap_new w _)
  obtain ⟨hs1,hE2⟩:=lift ((w.alloc (.deferred (some []))).alloc (.loop rc)) rfl rfl rfl (by simp;omega) (fun b hb=>(Below.heap_alloc _ _ _ (by simp;omega)).trans (Below.heap_alloc _ _ _ hb))
  refine ⟨_,_,w.heap.size::ds,_,rc,hrun,by rw[hrc],by rw[hrc],by rw[hrc],by rw[hrc],by rw[hrc],by rw[hrc],hl1,by omega,fun d hd=>?_,?_,hE2⟩
  ·rcases List.mem_cons.1 hd with rfl | hd
   ·omega
   ·have:=dlt d hd;omega
  ·refine ⟨hs1.inv,hs1.size,hs1.tmps,by simp[zFV,hs.defers],List.nodup_cons.2 ⟨fun hc=>?_,hs.dsn⟩,fun d hd=>?_⟩
   ·have:=dlt _ hc;omega
   ·rcases List.mem_cons.1 hd with rfl | hd
    ·exact ⟨hB.1,hd1,fun hz=>by have:=hs.inv.zlt _ hz;omega,fun id hc=>by have:=hs.inv.flt id _ hc;omega⟩
    ·exact hs1.dsat d hd
 | some l0 =>
  obtain ⟨r0,h0,_⟩:=hB.2 l0 rfl
  obtain ⟨rc,hrc⟩:∃rc:Loop,rc = { state:=.ready,pending:=none,fn,tmps:=a.tmps,params:=ps,assign,body,defers:=r0.defers }:=⟨_,rfl⟩
  have hrun:=run_enterLoop_inner (P:=P) h0 fn a.tmps ps assign body
  rw[←hrc] at hrun
  obtain ⟨hs1,hE2⟩:=lift (w.alloc (.loop rc)) rfl rfl rfl (by simp) (fun b hb=>Below.heap_alloc _ _ _ hb)
  exact ⟨_,_,ds,_,rc,hrun,by rw[hrc],by rw[hrc],by rw[hrc],by rw[hrc],by rw[hrc],by rw[hrc],World.alloc_heap_new w _,Nat.le_refl _,fun d hd=>by have:=dlt d hd;omega,by simpa using hs1,hE2⟩
def XQ (Q:Exit→KS):Code→KS
 | .ret=>Q .ret
 | .exit i=>Q (.exit i)
 | .goto t=>Q (.goto t)
 | _=>fun _ _=>False
theorem HW.rangeFunc {L:Nat} {Q:Exit→KS} {g:Operand} {ps:Array Tmp} {assign body:Code} {gf:Nat} {caps:List HV} (hgok:zBJ N g=true) (hgf:gf<4294967296) (hg:hev T g=.fn gf caps)
  (xs:List (List HV)) (H0:Heap) (I:Nat→Heap→Prop) (X:Code→Heap→Prop) (hH0:H0.length=H.length∧∀(j:Nat) (o:HObj),H0[j]?=some (some o)→H[j]?=some (some o))
  (hxs:∀x∈xs,x.length=ps.size∧nmL H.length x=true)
  (hseq:∀o,HSeq P gf (H++[some o]) caps (H0++[some o]) xs) (h0:I 0 H0)
  (round:∀i x Hi,xs[i]?=some x→Hi.length=H.length→I i Hi→HW P N H.length assign (fin (HW P N H.length body (RQ N H.length (I (i+1)) X)) (fun _ _ _=>False)) (zFl (tvT T) ps.toList x) Hi)
  (done:∀Hf,Hf.length=H.length→I xs.length Hf→Q .normal T Hf) (stop:∀c Hf,Hf.length=H.length→X c Hf→XQ Q c T Hf):HW P N L (.rangeFunc g ps assign body) Q T H:=by
 intro ro n B Z G FP ds a w hB hL hs
 refine wpIn_rangeFunc ?_
 intro fn hfn
 obtain ⟨l,mk,ds1,W1,rc,hrun,r1,r2,r3,r4,r5,r6,hl1,hlge,hlds,hs1,hE1⟩:=zQV (P:=P) hs hB fn ps assign body
 have hgv:=hs.hev g hgok
 rw[hg] at hgv
 simp only[RV] at hgv
 obtain ⟨lb,hge,hcl⟩:=hgv
 rw[zKT hgf] at hge
 have hk:G.length=H.length:=hs.inv.len
 have hlnZ:¬Z l:=fun hz=>by have:=hs.inv.zlt _ hz;omega
 have hlnF:∀id,l∉FP id:=fun id hc=>by have:=hs.inv.flt id _ hc;omega
 have hlW:l<W1.heap.size:=(Array.getElem?_eq_some_iff.1 hl1).1
 have hT:∀i,i<N→RV Z G W1 (tvT T i) (a.tmps.getD i undef) []:=fun i hi=>by
  unfold tvT
  split
  ·exact hs1.tmps i hi
  ·simp[RV]
 have hTn:∀i,i<N→nm H.length (tvT T i)=true:=fun i hi=>by rw[←hk];exact zU7 _ _ _ _ (hT i hi)
 have hrc0:({ rc with state:=.ready,pending:=none }:Loop)=rc:=by cases rc;simp_all
 have hrls:RL Z (G++[some (⟨none,0,N+1,1,l⟩:OG)]) W1 ((List.range N).map (tvT T)) rc.tmps.toList []:=by
  rw[r6]
  exact zOQ hs.size fun i hi=>RV.nil_keep (fun _ _=>rfl) (fun _ h=>h) (GLe.more _) (hT i hi)
 have hinv1:=hs1.inv.new (w':=W1) (o:=recO N T rc) (g:=⟨none,0,N+1,1,l⟩) (fp:=[l]) (Nat.le_refl _) (fun _ _=>rfl)
  ⟨rfl,rfl,rfl,by simp[recO],.inr (.inr ⟨_,_,.loop rc,[],rfl,rfl,rfl,hl1,rfl,hrls⟩)⟩ (by simp) (by simp only[List.mem_singleton];rintro b rfl;exact ⟨hlnZ,hlW,hlnF⟩)
 have hZ1:∀b,Z b→W1.heap[b]?=w.heap[b]?:=fun b hb=>hE1.keep b (hs.inv.zlt b hb) (fun id hc=>hs.inv.zfp id b hc hb)
 have hargs:RL Z (G++[some (⟨none,0,N+1,1,l⟩:OG)]) W1 (.yl H.length::caps) (.func (.yield l) #[] #[]::lb.toList) []:=by
  simp only[RL]
  refine ⟨_,_,[],[],rfl,rfl,?_,RL.keep hZ1 (fun _ h=>h) (GLe.more _) _ _ _ (by simp) hcl⟩
  simp only[RV]
  refine ⟨trivial,by simp;omega,l,rfl,fun g hg=>?_⟩
  rw[←hk] at hg
  simp at hg
  subst hg
  exact ⟨Nat.le_refl _,fun _ _=>rfl⟩
 have hnmH:nmH H.length H0=true:=by
  have h1:=hs.inv.nm
  unfold nmH at h1⊢
  rw[List.take_length] at h1
  rw[←hH0.1,List.take_length,List.all_eq_true]
  intro o ho
  cases o with
  | none=>rfl
  | some ob =>
   obtain ⟨i,hi⟩:=List.mem_iff_getElem?.1 ho
   have:=List.all_eq_true.1 h1 _ (List.mem_of_getElem? (hH0.2 i ob hi))
   rw[hH0.1];exact this
 have hrowm:∀r:Loop,nmR (H.length+1) (recO N T r).rows=true:=fun r=>by
  simp only[recO,nmR,nmL,nm,Bool.true_and,Bool.and_true]
  have:∀l:List Nat,(∀i∈l,i<N)→nmL (H.length+1) (l.map (tvT T))=true:=by
   intro l
   induction l with
   | nil=>intro _;rfl
   | cons a l ih=>intro h;simp only[List.map_cons,nmL,zMG (Nat.le_succ _) _ (hTn a (h a (by simp))),ih (fun i hi=>h i (by simp[hi])),Bool.and_self]
  exact this _ (fun i hi=>by simpa using hi)
 have hnmx:∀(Hi:Heap) (r:Loop),Hi.length=H.length→nmH H.length Hi=true→nmH (H++[some (recO N T rc)]).length (Hi++[some (recO N T r)])=true:=by
  intro Hi r hlen hnm
  have e:(H++[some (recO N T rc)]).length=(Hi++[some (recO N T r)]).length:=by simp[hlen]
  unfold nmH at hnm⊢
  rw[e,List.take_length,List.all_append,Bool.and_eq_true]
  rw[←hlen,List.take_length] at hnm
  refine ⟨?_,?_⟩
  ·rw[List.all_eq_true] at hnm⊢
   intro o ho
   have:=hnm o ho
   cases o with
   | none=>rfl
   | some ob=>simp only at this⊢;exact zI2 (by simp) _ this
  ·simp only[List.all_cons,List.all_nil,Bool.and_true,List.length_append,List.length_cons,List.length_nil,hlen]
   exact hrowm r
 have hc:=hseq (recO N T rc) H.length (fun i Hx=>∃Hi,Hx=Hi++[some (recO N T rc)]∧Hi.length=H.length∧nmH H.length Hi=true∧I i Hi)
  (fun i Hx=>∃Hi c,Hx=Hi++[some (recO N T { rc with state:=.done,pending:=some c })]∧Hi.length=H.length∧nmH H.length Hi=true∧X c Hi) (by simp)
  (by
   rintro i Hx ⟨Hi,rfl,hlen,hnm,_⟩
   exact ⟨by simp[hlen],hnmx Hi rc hlen hnm⟩)
  (by
   rintro i Hx ⟨Hi,c,rfl,hlen,hnm,_⟩
   exact hnmx Hi _ hlen hnm)
  (by
   rintro i x Hx hx ⟨Hi,rfl,hlen,hnm,hI⟩
   have hx2:=hxs x (List.mem_of_getElem? hx)
   have:=zLP (P:=P) (N:=N) (T:=T) (rc:=rc) (x:=x) (I:=I (i+1)) (X:=X) r1 (by rw[r3];exact hx2.1) (by rw[hlen];exact hnm) (by rw[hlen];exact hx2.2) (by rw[hlen];exact hTn) (by rw[hlen,r3,r4,r5];exact round i x Hi hx hlen hI)
   rw[hlen,hrc0] at this
   exact this)
  ⟨H0,rfl,hH0.1,hnmH,h0⟩
 refine ⟨l,mk,W1,{ target:=.fn (.func gf) lb,args:=#[.func (.yield l) #[] #[]] },W1,gf,#[.func (.yield l) #[] #[]]++lb,W1,?_,?_,fun _ _=>trivial,?_,fun h=>by cases ro <;> simp[Wd,Fence.wide] at h,?_⟩
 ·exact hrun
 ·simp only[resolve,hge]
  simp[go_sem]
 ·have:=hc.1 (.func (.yield l) #[] #[]::lb.toList).toArray W1
  have earr:(Value.func (.yield l) #[] #[]::lb.toList).toArray = #[.func (.yield l) #[] #[]]++lb:=by apply Array.ext';simp
  rw[earr] at this
  simp only[invoke]
  exact this
 have hcall:=hc.2 Z _ _ W1 _ hinv1 hargs
 have earr:(Value.func (.yield l) #[] #[]::lb.toList).toArray = #[.func (.yield l) #[] #[]]++lb:=by apply Array.ext';simp
 rw[earr] at hcall
 refine zCT (Calls.mono hcall ?_)
 rintro e w' ⟨v,r,Hf,Z',G',FP',fr,rfl,hQ,hlen,hi',hr,hnd,hfr1,hfr2,hG,hE⟩
 have hF1:∀b,b≠l→(∀id,b∉FP id)→∀id,b∉(if id=H.length then [l] else FP id):=fun b hb hf id hc=>by
  by_cases e:id=H.length
  ·simp only[if_pos e,List.mem_singleton] at hc;exact hb hc
  ·simp only[if_neg e] at hc;exact hf id hc
 have hZW:∀b,Z b→w'.heap[b]?=W1.heap[b]?:=fun b hb=>hE.keep b (hs1.inv.zlt b hb) (hF1 b (fun e=>hlnZ (e▸hb)) (fun id hc=>hs.inv.zfp id b hc hb))
 have key:∀(st:LoopState) (pe:Option Code) (Hi:Heap),st≠.busy→Hf=Hi++[some (recO N T { rc with state:=st,pending:=pe })]→Hi.length=H.length→nmH H.length Hi=true→
   ∃w4,(Instr.endLoop l).run P w'=.ok pe w4∧∃Z4 G4 FP4,St N B Z4 G4 FP4 ds1 T Hi { a with defers:=mk++a.defers } w4∧GLt L G G4∧Evo Z FP w Z4 FP4 w4:=by
  rintro st pe Hi hst rfl hlenI hnm
  obtain ⟨l2,tm,hg2,hfp2,hl2,hrl2⟩:=zYN hi'
  have hll:l2=l:=by
   have h1:(G++[some (⟨none,0,N+1,1,l⟩:OG)])[H.length]?=some (some ⟨none,0,N+1,1,l⟩):=by rw[←hk];simp
   rw[hlenI] at hg2
   rcases hG.at_ H.length (by simp;omega) with k | k | ⟨g1,g2,k1,k2,k3⟩
   ·rw[hg2] at k;cases k
   ·rw[hg2,h1] at k;cases k;rfl
   ·rw[h1] at k1;rw[hg2] at k2;cases k1;cases k2;exact absurd k3 (Nat.lt_irrefl _)
  subst hll
  have hlZ' : ¬Z' l2:=hi'.zfp Hi.length l2 (by rw[hfp2];simp)
  have hnm' : nmH H.length (Hi++[some (recO N T { rc with state:=st,pending:=pe })])=true:=by
   have:(Hi++[some (recO N T { rc with state:=st,pending:=pe })]).take H.length=Hi.take H.length:=by rw[←hlenI];simp
   unfold nmH at hnm⊢
   rw[this];exact hnm
  have htr:=hi'.trunc H.length hnm'
  have etk:(Hi++[some (recO N T { rc with state:=st,pending:=pe })]).take H.length=Hi:=by rw[←hlenI];simp
  rw[etk] at htr
  have hlF' : ∀id,l2∉(if id<H.length then FP' id else []):=fun id hc=>by
   by_cases e:id<H.length
   ·simp only[if_pos e] at hc
    have:=hi'.disj id Hi.length l2 hc (by rw[hfp2];simp)
    omega
   ·simp[e] at hc
  have hGG:GLe G G':=(GLe.more _).trans hG
  have hst' : St N B Z' (G'.take H.length) (fun id=>if id<H.length then FP' id else []) ds1 T Hi { a with defers:=mk++a.defers } w':=by
   refine ⟨htr,hs.size,fun i hi=>zBK _ _ G' _ [] ?_ (RV.nil_keep hZW hE.zle hGG (hs1.tmps i hi)),hs1.defers,hs1.dsn,fun d hd=>?_⟩
   ·rw[←hk];exact zU7 _ _ _ _ (hs1.tmps i hi)
   ·obtain ⟨h1,h2,h3,h4⟩:=hs1.dsat d hd
    have hne:=hlds d hd
    have hdlt:d<W1.heap.size:=(Array.getElem?_eq_some_iff.1 h2).1
    refine ⟨h1,(hE.keep d hdlt (hF1 d hne h4)).trans h2,fun hz=>?_,fun id hc=>?_⟩
    ·rcases hE.znew d hz with k | k | ⟨id,k⟩
     ·exact h3 k
     ·omega
     ·exact hF1 d hne h4 id k
    ·by_cases e:id<H.length
     ·simp only[if_pos e] at hc
      rcases hE.fnew id d hc with k | ⟨id',k⟩
      ·omega
      ·exact hF1 d hne h4 id' k
     ·simp[e] at hc
  have hend:=run_endLoop (P:=P) (w:=w') (r:={ rc with state:=st,pending:=pe,tmps:=tm }) hl2 hst
  have hst4:=hst'.putRec (o':=.loop { rc with state:=.exhausted,pending:=pe,tmps:=tm }) hlZ' hlF' hl2
  refine ⟨_,hend,Z',G'.take H.length,_,hst4,⟨by have:=hGG.len;rw[List.length_take];omega,fun id hid=>?_⟩,⟨?_,?_,?_,?_,fun b hb hf=>?_,hE.zle,fun b hb=>?_,fun j b hb=>?_⟩⟩
  ·have k:=hGG.at_ id (by omega)
   rw[zAO (l:=G') (m:=H.length) (i:=id) (by omega)]
   exact k
  ·exact hE.os.trans hE1.os
  ·exact hE.tape.trans hE1.tape
  ·exact hE.output.trans hE1.output
  ·have:=hE.size;have:=hE1.size;simp only[World.putObj_size];omega
  ·have hne:b≠l2:=by omega
   rw[World.putObj_heap_other hne]
   exact (hE.keep b (Nat.lt_of_lt_of_le hb hE1.size) (hF1 b hne hf)).trans (hE1.keep b hb hf)
  ·rcases hE.znew b hb with k | k | ⟨id,k⟩
   ·exact .inl k
   ·exact .inr (.inl (Nat.le_trans hE1.size k))
   ·by_cases e:id=H.length
    ·simp only[if_pos e,List.mem_singleton] at k;exact .inr (.inl (k▸hlge))
    ·simp only[if_neg e] at k;exact .inr (.inr ⟨id,k⟩)
  ·by_cases e:j<H.length
   ·simp only[if_pos e] at hb
    rcases hE.fnew j b hb with k | ⟨id,k⟩
    ·exact .inl (Nat.le_trans hE1.size k)
    ·by_cases e:id=H.length
     ·simp only[if_pos e,List.mem_singleton] at k;exact .inl (k▸hlge)
     ·simp only[if_neg e] at k;exact .inr ⟨id,k⟩
   ·simp[e] at hb
 rcases hQ with ⟨Hi,e,hlenI,hnm,hI⟩ | ⟨i,Hi,c,e,hlenI,hnm,hX⟩
 ·rw[←hrc0] at e
  obtain ⟨w4,h1,Z4,G4,FP4,h2,h3,h4⟩:=key .ready none Hi (by simp) e hlenI hnm
  exact ⟨none,w4,h1,T,Hi,Z4,G4,FP4,ds1,done Hi hlenI hI,h2,h3,h4⟩
 ·obtain ⟨w4,h1,Z4,G4,FP4,h2,h3,h4⟩:=key .done (some c) Hi (by simp) e hlenI hnm
  refine ⟨some c,w4,h1,?_⟩
  have hq:=stop c Hi hlenI hX
  cases c with
  | ret=>exact wpIn_ret ⟨T,Hi,Z4,G4,FP4,ds1,hq,h2,h3,h4⟩
  | exit i=>exact wpIn_exit ⟨T,Hi,Z4,G4,FP4,ds1,hq,h2,h3,h4⟩
  | goto t=>exact wpIn_goto ⟨T,Hi,Z4,G4,FP4,ds1,hq,h2,h3,h4⟩
  | _=>exact hq.elim
end
end Go.Proofs.YtoknohandclcbaaGreat
namespace Go.Proofs.YtoknohandclcbaaGreat
open Go.RowKit
section
variable {P:Program} {N L:Nat} {T:Nat→HV} {H:Heap} {k:List Item→KS} {all l:List Oper} {d:Option Nat} {r:List Item}
theorem Ghost.move (i n j q o:Nat) (ob:HObj) (hi:T i=.pt n j q o) (ho:H[n]?=some (some ob)):Ghost N L T H (upd T i (.pt H.length j q o)) (H.set n none++[some ob]):=fun B Z G FP ds a w hL hs=>by
 obtain ⟨g,hg,hob⟩:=hs.inv.live n ob ho
 have hk:=hs.inv.kill n
 have hlt:=hs.inv.lt ho
 have hnew:=hk.new (w':=w) (o:=ob) (g:=g) (fp:=FP n) (Nat.le_refl _) (fun _ _=>rfl) (hob.keep (fun _ _=>rfl) (fun _ h=>h) ((GLe.kill n).trans (GLe.more _)) (fun _ _=>rfl)) (hs.inv.nodup n)
  (fun b hb=>⟨hs.inv.zfp n b hb,hs.inv.flt n b hb,fun j hj=>by
   by_cases e:j=n
   ·simp[e] at hj
   ·simp only[if_neg e] at hj;exact e (hs.inv.disj j n b hj hb)⟩)
 have hG:GLe G (G.set n none++[some g]):=(GLe.kill n).trans (GLe.more _)
 have hE:Evo Z FP w Z (fun j=>if j=(H.set n none).length then FP n else if j=n then [] else FP j) w:=⟨rfl,rfl,rfl,Nat.le_refl _,fun _ _ _=>rfl,fun _ h=>h,fun _ h=>.inl h,fun j b hb=>by
  by_cases e:j=(H.set n none).length
  ·simp only[if_pos e] at hb;exact .inr ⟨n,hb⟩
  ·simp only[if_neg e] at hb
   by_cases e2:j=n
   ·simp[e2] at hb
   ·simp only[if_neg e2] at hb;exact .inr ⟨j,hb⟩⟩
 have hs':=hs.evo hnew hG hE
 refine ⟨Z,_,_,⟨hs'.inv,hs'.size,fun c hc=>?_,hs'.defers,hs'.dsn,hs'.dsat⟩,GLt.of hL hG,hE⟩
 unfold upd
 split
 ·rename_i e
  subst e
  have h0:=hs.tmps c hc
  rw[hi] at h0
  simp only[RV] at h0⊢
  obtain ⟨h1,h2,h3,h4⟩:=h0
  refine ⟨h1,h2,by simp[hs.inv.len],fun g' hg'=>?_⟩
  rw[←hs.inv.len] at hg'
  have:g'=g:=by
   rw[List.getElem?_append_right (by simp)] at hg'
   simp at hg';exact hg'.symm
  subst this
  exact h4 g' hg
 ·exact hs'.tmps c hc
theorem zCe {id m:Nat} {Hq own:Heap} {args:List HV} {Kb:Bool→Heap→Prop} (hm:Hq.length=m) (hid:id<m) (hnm:nmH m Hq=true) (hargs:nmL m args=true) (hy:HYield P id Hq args Kb)
  (h:∀b Hq',Kb b Hq'→Hq'.length=m→k (.ops all l::r) (updO T d (.v (.bool b))) (Hq'++own)):zJG k P id (Hq++own) args all d l r T:=by
 subst hm
 have hnm' : nmH Hq.length (Hq++own)=true:=by
  unfold nmH at hnm⊢
  rw[List.take_length] at hnm
  rw[List.take_left]
  exact hnm
 have hy' : HYield P id ((Hq++own).take Hq.length) args Kb:=by rw[List.take_left];exact hy
 refine ⟨_,HYield.frame (H:=Hq++own) Hq.length hy' hid (by simp) hnm' hargs,?_⟩
 rintro b H' ⟨Hc,rfl,hlen,hK⟩ _
 rw[List.drop_left]
 exact h b Hc hK hlen
def zSz (H:Heap) (id r c:Nat) (ob:HObj) (row:List HV):Option HV→Heap
 | some (.ow e sz rows)=>H.set id (some { ob with rows:=ob.rows.set r (row.set c (.hd H.length 0 rows.length)) })++[some ⟨e,sz,rows⟩]
 | some (.bx e sz rw)=>H.set id (some { ob with rows:=ob.rows.set r (row.set c (.pt H.length 1 0 0)) })++[some ⟨e,sz,[rw]⟩]
 | some (.om x hs)=>H.set id (some { ob with rows:=ob.rows.set r (row.set c (.mp H.length)) })++[some ⟨0,hs.length+1,[.ob x::hs]⟩]
 | _=>H
def onOb (H:Heap) (o:Option HObj) (r:Nat) (f:HObj→List HV→Heap):Heap :=
 match o with
 | some ob=>match ob.rows[r]? with
  | some row=>f ob row
  | none=>H
 | none=>H
theorem zCK {ob:HObj} {r:Nat} {f:HObj→List HV→Heap}:onOb H (some ob) r f=match ob.rows[r]? with
  | some row=>f ob row
  | none=>H:=rfl
theorem zWq {id r c:Nat}:zDP H id r c=onOb H (getO H id) r fun ob row=>zSz H id r c ob row row[c]?:=by
 unfold zDP getO onOb zSz
 repeat' split
 all_goals first | rfl | simp_all
theorem zMY {id r c:Nat}:zDS H id r c 0=H:=rfl
theorem zWp {id r c:Nat}:zDS H id r c 1=zDP H id r c:=rfl
theorem zWo {id r c:Nat}:zDS H id r c 2=zDP (zDP H id r c) id r (c+1):=rfl
theorem zWn {id r c:Nat}:zDS H id r c 3=zDP (zDP (zDP H id r c) id r (c+1)) id r (c+1+1):=rfl
def z4F (H:Heap) (id r c:Nat) (ob:HObj) (row:List HV) (j len:Nat):Option HObj→Heap
 | some oj=>if j≠id∧len=oj.rows.length∧nmR 0 oj.rows=true then (H.set j none).set id (some { ob with rows:=ob.rows.set r (row.set c (.ow oj.e oj.sz oj.rows)) }) else H
 | none=>H
def z4D (H:Heap) (id r c:Nat) (ob:HObj) (row:List HV) (j:Nat):Option HObj→Heap
 | some ⟨e,sz,[rw]⟩=>if j≠id∧nmL 0 rw=true then (H.set j none).set id (some { ob with rows:=ob.rows.set r (row.set c (.bx e sz rw)) }) else H
 | _=>H
def z4E (H:Heap) (id r c:Nat) (ob:HObj) (row:List HV) (j:Nat):Option HObj→Heap
 | some ⟨_,_,[.ob x::hs]⟩=>if j≠id∧nmL 0 hs=true then (H.set j none).set id (some { ob with rows:=ob.rows.set r (row.set c (.om x hs)) }) else H
 | _=>H
def abs1 (H:Heap) (id r c:Nat) (ob:HObj) (row:List HV):Option HV→Heap
 | some (.hd j 0 len)=>z4F H id r c ob row j len (getO H j)
 | some (.pt j 1 0 0)=>z4D H id r c ob row j (getO H j)
 | some (.mp j)=>z4E H id r c ob row j (getO H j)
 | _=>H
theorem zCU {id r c:Nat}:absorb H id r c=onOb H (getO H id) r fun ob row=>abs1 H id r c ob row row[c]?:=by
 unfold absorb
 cases hH:H[id]? with
 | none=>simp only[getO,hH,onOb]
 | some o =>
  cases o with
  | none=>simp only[getO,hH,onOb]
  | some ob =>
   have e1:getO H id=some ob:=by simp only[getO,hH]
   simp only[e1,onOb]
   cases hr:ob.rows[r]? with
   | none=>rfl
   | some row =>
    simp only
    have gg:∀j,getO H j=match H[j]? with | some (some ob)=>some ob | _=>none:=fun j=>rfl
    cases hc:row[c]? with
    | none=>rfl
    | some x =>
     cases x with
     | hd j off len =>
      cases off with
      | zero =>
       simp only[abs1,gg]
       cases hj:H[j]? with
       | none=>rfl
       | some o=>cases o <;> rfl
      | succ n=>rfl
     | pt j a b c' =>
      by_cases h:a=1∧b=0∧c'=0
      ·obtain ⟨rfl,rfl,rfl⟩:=h
       simp only[abs1,gg]
       cases hj:H[j]? with
       | none=>rfl
       | some o =>
        cases o with
        | none=>rfl
        | some oj =>
         obtain ⟨e,sz,rows⟩:=oj
         cases rows with
         | nil=>rfl
         | cons a t=>cases t <;> rfl
      ·rcases a with _ | _ | a
       ·rfl
       ·rcases b with _ | b
        ·rcases c' with _ | c'
         ·exact absurd ⟨rfl,rfl,rfl⟩ h
         ·rfl
        ·rfl
       ·rfl
     | mp j =>
      simp only[abs1,gg]
      cases hj:H[j]? with
      | none=>rfl
      | some o =>
       cases o with
       | none=>rfl
       | some oj =>
        obtain ⟨e,sz,rows⟩:=oj
        cases rows with
        | nil=>rfl
        | cons a t =>
         cases a with
         | nil=>cases t <;> rfl
         | cons x a=>cases x <;> cases t <;> rfl
     | _=>rfl
def Conv (x h:HV):Prop:=∀(Z:Nat→Prop) (G:List (Option OG)) (w:World) (y:Value),RV Z G w x y []→RV Z G w h y []
theorem Conv.nilOw (e:TypeId) (sz:Nat):Conv (.v (.slice none 0 0)) (.ow e sz []):=fun Z G w y h=>by
 simp only[RV] at h⊢
 exact .inl ⟨trivial,h.2,trivial⟩
theorem Conv.nilSl:Conv (.v (.slice none 0 0)) (.sl []):=fun Z G w y h=>by
 simp only[RV] at h⊢
 exact ⟨trivial,none,0,h.2,Nat.le_refl _,by simp[maxLen],.inl trivial⟩
theorem Conv.any (x:HV):Conv x .any:=fun Z G w y h=>by simp[RV]
theorem Ghost.cell (id i c:Nat) (h' : HV) {ob:HObj} {row:List HV} {x:HV} (ho:H[id]?=some (some ob)) (hr:ob.rows[i]?=some row) (hc:row[c]?=some x) (htv:tv x=true) (hx:Conv x h') (hnb:∀u,x≠.ob u) :
  Ghost N L T H T (H.set id (some { ob with rows:=ob.rows.set i (row.set c h') })):=fun B Z G FP ds a w hL hs=>by
 obtain ⟨g,hg,hob⟩:=hs.inv.live id ob ho
 obtain ⟨y,fx,fa,hv,hperm,hsw⟩:=hob.swap hr hc hnb
 have hfx:fx=[]:=zCt x y fx htv hv
 subst hfx
 simp only[List.nil_append] at hperm
 obtain ⟨fp',hob',hp'⟩:=hsw G h' [] (GLe.refl _) (hx Z G w y hv)
 simp only[List.nil_append] at hp'
 have hpp:=hp'.trans hperm.symm
 have hi:=hs.inv.say ho hg hob' (hpp.nodup_iff.2 (hs.inv.nodup id)) (fun b hb=>by
  have hb':=hpp.mem_iff.1 hb
  exact ⟨hs.inv.zfp id b hb',hs.inv.flt id b hb',fun j hj hc=>hj (hs.inv.disj j id b hc hb')⟩)
 have hE:Evo Z FP w Z (fun j=>if j=id then fp' else FP j) w:=⟨rfl,rfl,rfl,Nat.le_refl _,fun _ _ _=>rfl,fun _ h=>h,fun _ h=>.inl h,fun j b hb=>by
  by_cases e:j=id
  ·simp only[if_pos e] at hb;exact .inr ⟨id,hpp.mem_iff.1 hb⟩
  ·simp only[if_neg e] at hb;exact .inr ⟨j,hb⟩⟩
 exact ⟨Z,G,_,hs.evo hi (GLe.refl _) hE,GLt.refl hL,hE⟩
theorem Ghost.tmp (i:Nat) (h' : HV) (hx:Conv (T i) h'):Ghost N L T H (upd T i h') H:=fun B Z G FP ds a w hL hs=>by
 refine ⟨Z,G,FP,⟨hs.inv,hs.size,fun j hj=>?_,hs.defers,hs.dsn,hs.dsat⟩,GLt.refl hL,Evo.refl _ _ _⟩
 unfold upd
 split
 ·rename_i e;subst e;exact hx _ _ _ _ (hs.tmps j hj)
 ·exact hs.tmps j hj
theorem HCalls.conv {f:FuncId} {args:List HV} {Q Q' : HV→Heap→Prop} (h:HCalls P f H args Q) (hq:∀x H',Q x H'→∃x',Q' x' H'∧(x'=x∨(tv x=true∧Conv x x'))):HCalls P f H args Q':=by
 refine ⟨h.1,fun Z G FP w vals hi ha=>Calls.mono (h.2 Z G FP w vals hi ha) ?_⟩
 rintro e w' ⟨v,x,H',Z',G',FP',fr,he,hQ,hlen,hi',hr,hnd,hf1,hf2,hG,hE⟩
 obtain ⟨x',hQ',hx⟩:=hq x H' hQ
 rcases hx with rfl | ⟨htv,hc⟩
 ·exact ⟨v,x',H',Z',G',FP',fr,he,hQ',hlen,hi',hr,hnd,hf1,hf2,hG,hE⟩
 ·have:=zCt x v fr htv hr
  subst this
  exact ⟨v,x',H',Z',G',FP',[],he,hQ',hlen,hi',hc _ _ _ _ hr,hnd,hf1,hf2,hG,hE⟩
theorem zTz {id:Nat} {args:List HV}:zDT k P (.yl id) H args all d l r T=zJG k P id H args all d l r T:=rfl
theorem yA2 {id:Nat} {n:Nat}:fz (n+1) H (.yl id)=.any:=rfl
theorem yA7 {id:Nat} {n:Nat}:fz (n+1) H (.mp id)=.any:=rfl
theorem yBC {id:Nat}:c1 (.yl id)=true:=rfl
theorem yBF {id:Nat}:c1 (.mp id)=true:=rfl
theorem zOn {p:Nat} {ps:List Nat} {h:HV} {hs:List HV}:zFl T (p::ps) (h::hs)=zFl (upd T p h) ps hs:=rfl
theorem zRW {hs:List HV}:zFl T [] hs=T:=rfl
theorem z1j {i:Nat}:tvT T i=if tv (T i)=true then T i else .any:=rfl
theorem zBM {A B:Heap} {m i:Nat} (h:A.length=m):getO (A++B) (m+i)=getO B i:=by
 subst h
 unfold getO
 rw[List.getElem?_append_right (by omega)]
 simp
theorem zAV {A B:Heap} {m:Nat} (h:A.length=m):getO (A++B) m=getO B 0:=zBM (i:=0) h
theorem zCH {A B:Heap} {m i:Nat} {x:Option HObj} (h:A.length=m):(A++B).set (m+i) x=A++B.set i x:=by
 subst h
 rw[List.set_append_right _ _ (by omega)]
 simp
end
def SubH:Heap→Heap→Prop
 | [],[]=>True
 | none::a,_::b=>SubH a b
 | some o::a,x::b=>x=some o∧SubH a b
 | _,_=>False
theorem SubH.spec:∀{H0 H:Heap},SubH H0 H→H0.length=H.length∧∀(j:Nat) (o:HObj),H0[j]?=some (some o)→H[j]?=some (some o)
 | [],[],_=>⟨rfl,fun _ _ h=>h⟩
 | none::a,x::b,h=>by
  obtain ⟨h1,h2⟩:=SubH.spec (H0:=a) (H:=b) h
  refine ⟨by simp[h1],fun j o hj=>?_⟩
  cases j with
  | zero=>simp at hj
  | succ j=>exact h2 j o hj
 | some o::a,x::b,h=>by
  obtain ⟨h1,h2⟩:=SubH.spec (H0:=a) (H:=b) h.2
  refine ⟨by simp[h1],fun j o' hj=>?_⟩
  cases j with
  | zero=>simp at hj;subst hj;simp[h.1]
  | succ j=>exact h2 j o' hj
 | none::a,[],h=>h.elim
 | some o::a,[],h=>h.elim
 | [],x::b,h=>h.elim
theorem zUb {N L:Nat} {I:Heap→Prop} {X:Code→Heap→Prop} {T:Nat→HV} {H:Heap}:RQ N L I X .normal T H=GQ N L (fun _ H=>H.length=L∧I H) T H:=rfl
theorem z4M {N L:Nat} {I:Heap→Prop} {X:Code→Heap→Prop} {T:Nat→HV} {H:Heap}:RQ N L I X .ret T H=GQ N L (fun _ H=>H.length=L∧X .ret H) T H:=rfl
theorem z16 {N L i:Nat} {I:Heap→Prop} {X:Code→Heap→Prop} {T:Nat→HV} {H:Heap}:RQ N L I X (.exit i) T H=GQ N L (fun _ H=>H.length=L∧X (.exit i) H) T H:=rfl
theorem z15 {N L i:Nat} {I:Heap→Prop} {X:Code→Heap→Prop} {T:Nat→HV} {H:Heap}:RQ N L I X (.goto i) T H=GQ N L (fun _ H=>H.length=L∧X (.goto i) H) T H:=rfl
theorem zA8 {L:Nat} {Q:HV→Heap→Prop} {x:HV} {A B:Heap} (hl:A.length=L) (hn:nmH L A=true) (hq:Q x A):endP L Q (x,A++B):=by
 subst hl
 refine ⟨?_,by simpa using hq⟩
 unfold nmH at hn⊢
 rw[List.take_length] at hn
 simpa using hn
attribute [go_sem] zCU abs1 z4F z4D z4E zWq zMY zWp zWo zWn zCK zSz
attribute [go_sem] zTz yBC yBF yA2 yA7 zOn zRW z1j
attribute [go_sem ↓] zUb z4M z16 z15
end Go.Proofs.YtoknohandclcbaaGreat
namespace Go.Proofs.YtoknohandclcbaaGreat
open Go.RowKit
section
variable {α:Type} [DecidableEq α]
def getM (kv:List (α×Int)) (k:α):Int:=((kv.find? fun e=>decide (k=e.1)).map (·.2)).getD 0
def inM (kv:List (α×Int)) (k:α):Bool:=kv.any fun e=>decide (k=e.1)
def setM (kv:List (α×Int)) (k:α) (v:Int):List (α×Int) :=
 match kv with
 | []=>[(k,v)]
 | e::r=>if k=e.1 then (k,v)::r else e::setM r k v
def entM (kv:List (α×Int)) (k:α):List (α×Int):=if inM kv k=true then kv else kv++[(k,0)]
def idxM (kv:List (α×Int)) (k:α):Nat:=(kv.findIdx fun e=>decide (k=e.1))
def esL (kf:α→Value):Nat→List (α×Int)→List MapEntry
 | _,[]=>[]
 | n,e::r=>⟨kf e.1,.int .i64 e.2,n⟩::esL kf (n+1) r
def esG (kf:α→Value) (kv:List (α×Int)):Array MapEntry:=(esL kf 0 kv).toArray
def mapG (kf:α→Value) (kv:List (α×Int)):HObj:=zAk (esG kf kv) kv.length
def zC4 (k:α):List (α×Int)→Nat→Option (Nat×Value)
 | [],_=>none
 | e::r,i=>if k=e.1 then some (i,.int .i64 e.2) else zC4 k r (i+1)
variable {kf:α→Value} (hk:∀x y,keq (kf x) (kf y)=some (decide (x=y)))
include hk
theorem zEP (k:α):∀(kv:List (α×Int)) (n i:Nat),zCO (kf k) (esL kf n kv) i=some (zC4 k kv i)
 | [],_,_=>rfl
 | e::r,n,i=>by
  simp only[esL,zCO,hk,Option.bind_some,zC4,decide_eq_true_eq,zEP k r (n+1) (i+1)]
  split <;> rfl
omit hk in
theorem zG3 (k:α):∀(kv:List (α×Int)) (i:Nat),((zC4 k kv i).map (·.2)).getD (.int .i64 0)=.int .i64 (getM kv k)∧(zC4 k kv i).isSome=inM kv k
 | [],_=>⟨rfl,rfl⟩
 | e::r,i=>by
  have ih:=zG3 k r (i+1)
  simp only[zC4,getM,inM,List.find?_cons,List.any_cons] at ih⊢
  by_cases h:k=e.1
  ·simp[h]
  ·simpa [h] using ih
theorem zKA (k:α) (kv:List (α×Int)):zPX (esG kf kv) (kf k) (.int .i64 0)=some (.int .i64 (getM kv k),inM kv k):=by
 unfold zPX esG
 rw[List.toList_toArray,zEP hk]
 simp only[Option.map_some,(zG3 k kv 0).1,(zG3 k kv 0).2]
omit hk in
theorem zEu:∀(kv r:List (α×Int)) (n:Nat),esL kf n (kv++r)=esL kf n kv++esL kf (n+kv.length) r
 | [],r,n=>by simp[esL]
 | e::l,r,n=>by simp only[List.cons_append,esL,zEu l r (n+1),List.length_cons];rw[show n+1+l.length=n+(l.length+1) by omega]
omit hk in
theorem zDI:∀(kv:List (α×Int)) (n:Nat),(esL kf n kv).length=kv.length
 | [],_=>rfl
 | e::r,n=>by simp[esL,zDI r]
omit hk in
theorem zJ6 (k:α) (v:Int):∀(kv:List (α×Int)) (i:Nat),zC4 k kv i=none→setM kv k v=kv++[(k,v)]
 | [],_,_=>rfl
 | e::r,i,h=>by
  simp only[zC4] at h
  split at h
  ·cases h
  ·rename_i hne;simp only[setM,if_neg hne,zJ6 k v r (i+1) h,List.cons_append]
omit hk in
theorem zJ5 (k:α) (v:Int):∀(kv:List (α×Int)) (n i j:Nat) (x:Value),zC4 k kv i=some (i+j,x)→(esL kf n kv).modify j (fun e=>{ e with key:=kf k,val:=.int .i64 v })=esL kf n (setM kv k v)∧(setM kv k v).length=kv.length
 | [],n,i,j,x,h=>by simp[zC4] at h
 | e::r,n,i,j,x,h=>by
  simp only[zC4] at h
  split at h
  ·rename_i he
   have:j=0:=by simp at h;omega
   subst this
   simp only[esL,setM,if_pos he,List.modify_zero_cons,List.length_cons,and_self]
  ·rename_i hne
   cases j with
   | zero =>
    exfalso
    have key:∀(l:List (α×Int)) (m:Nat),∀q y,zC4 k l m=some (q,y)→m≤q:=by
     intro l
     induction l with
     | nil=>intro m q y h;simp[zC4] at h
     | cons a l ih =>
      intro m q y h
      simp only[zC4] at h
      split at h
      ·simp at h;omega
      ·have:=ih _ _ _ h;omega
    have:=key _ _ _ _ h
    omega
   | succ j =>
    have:=zJ5 k v r (n+1) (i+1) j x (by rw[show i+1+j=i+(j+1) by omega];exact h)
    simp only[esL,setM,if_neg hne,List.modify_succ_cons,this.1,List.length_cons,this.2,and_self]
theorem zNa (k:α) (v:Int) (kv:List (α×Int)):putO (esG kf kv) kv.length (kf k) (.int .i64 v)=some (mapG kf (setM kv k v)):=by
 unfold putO
 have e:(esG kf kv).toList=esL kf 0 kv:=by unfold esG;rw[List.toList_toArray]
 rw[e,zEP hk]
 simp only[Option.map_some,Option.some.injEq]
 cases h:zC4 k kv 0 with
 | none =>
  simp only[putE]
  rw[zJ6 k v kv 0 h]
  unfold mapG
  have:(esG kf kv).push ⟨kf k,.int .i64 v,kv.length⟩=esG kf (kv++[(k,v)]):=by
   apply Array.ext'
   simp[esG,zEu,esL]
  rw[this];simp
 | some r =>
  obtain ⟨j,x⟩:=r
  obtain ⟨h1,h2⟩:=zJ5 (kf:=kf) k v kv 0 0 j x (by rw[Nat.zero_add];exact h)
  simp only[putE]
  unfold mapG
  rw[h2]
  have:(esG kf kv).modify j (fun e=>{ e with key:=kf k,val:=.int .i64 v })=esG kf (setM kv k v):=by
   apply Array.ext'
   rw[Array.toList_modify,e,h1];simp[esG]
  rw[this]
end
abbrev kI (x:Int):Value:=.int .i64 x
abbrev kP (x:Int×Int):Value:=.agg #[.int .i64 x.1,.int .i64 x.2]
def mapI (kv:List (Int×Int)):HObj:=mapG kI kv
def mapP (kv:List ((Int×Int)×Int)):HObj:=mapG kP kv
theorem zZU {kv:List (Int×Int)}:zCk (mapI kv)=some (esG kI kv,kv.length):=rfl
theorem zZT {kv:List ((Int×Int)×Int)}:zCk (mapP kv)=some (esG kP kv,kv.length):=rfl
theorem zZW {kv:List (Int×Int)} {k:Int}:zPX (esG kI kv) (.int .i64 k) (.int .i64 0)=some (.int .i64 (getM kv k),inM kv k):=zKA (fun _ _=>zI6) k kv
theorem zZV {kv:List ((Int×Int)×Int)} {a b:Int}:zPX (esG kP kv) (.agg #[.int .i64 a,.int .i64 b]) (.int .i64 0)=some (.int .i64 (getM kv (a,b)),inM kv (a,b)):=zKA (kf:=kP) (fun _ _=>zI7) (a,b) kv
theorem z1y {kv:List (Int×Int)} {k v:Int}:putO (esG kI kv) kv.length (.int .i64 k) (.int .i64 v)=some (mapI (setM kv k v)):=zNa (fun _ _=>zI6) k v kv
theorem z1x {kv:List ((Int×Int)×Int)} {a b v:Int}:putO (esG kP kv) kv.length (.agg #[.int .i64 a,.int .i64 b]) (.int .i64 v)=some (mapP (setM kv (a,b) v)):=zNa (kf:=kP) (fun _ _=>zI7) (a,b) v kv
attribute [go_sem] zZU zZT zZW zZV z1y z1x
end Go.Proofs.YtoknohandclcbaaGreat
namespace Go.Proofs.YtoknohandclcbaaGreat
open Go.RowKit
set_option maxRecDepth 8000
theorem zO3 {P:Program} {f:FuncId} {rows:List (List HV)} {R:HV} (h1:rows.isEmpty=false→HFn P f [.sl rows] R) (h0:rows=[]→∀a c,HFn P f [.v (.slice a 0 c)] R):HFn P f [.sl rows] R:=by
 cases hr:rows.isEmpty with
 | false=>exact h1 hr
 | true =>
  obtain rfl:rows=[]:=List.isEmpty_iff.1 hr
  refine ⟨(h0 rfl none 0).1,fun Z G FP w vals hi ha=>?_⟩
  simp only[RL,RV] at ha
  obtain ⟨y,ys,f1,f2,rfl,_,⟨_,a,c,rfl,_⟩,rfl,_⟩:=ha
  exact (h0 rfl a c).2 Z G FP w _ hi (by simp only[RL,RV];exact ⟨_,_,[],[],rfl,rfl,⟨rfl,rfl⟩,rfl,rfl⟩)
set_option maxHeartbeats 4000000 in
theorem zAh (l:List Int) (hl:l.length≤100000000):HFn Tryz.prog 154 [.sl (ints l)] (zBs l):=by
 refine zO3 (fun hr=>?_) (fun hr a c=>?_)
 ·refine zB (fn:=Tryz.f154) 8 [2] (by kernel_rfl) rfl (by kernel_rfl) (HW.run 400 (by kernel_rfl) ?_)
  simp +decide only[go_sem,nT,nA,nS,nM,nB,reduceIte,reduceCtorEq,hr]
  (with_reducible and_intros) <;> first | omega | rfl
 ·obtain rfl:l=[]:=by cases l with | nil=>rfl | cons a l=>cases hr
  refine HCalls.conv (Q:=fun x _=>x=.v (.slice none 0 0)∨x=zBs []) ?_ ?_
  ·refine zB (fn:=Tryz.f154) 8 [2] (by kernel_rfl) rfl (by kernel_rfl) (HW.run 400 (by kernel_rfl) ?_)
   cases a with
   | none=>simp +decide only[go_sem,nT,nA,nS,nM,nB,reduceIte,reduceCtorEq]
   | some a=>simp +decide only[go_sem,nT,nA,nS,nM,nB,reduceIte,reduceCtorEq];exact .inr rfl
  ·rintro x H' (rfl | rfl)
   ·exact ⟨_,rfl,.inr ⟨rfl,Conv.nilOw _ _⟩⟩
   ·exact ⟨_,rfl,.inl rfl⟩
set_option maxHeartbeats 4000000 in
theorem zKs (l:List Thd) (hl:l.length≤100000000):HFn Tryz.prog 155 [.sl (thds l)] (.ow 106 4 (thds l)):=by
 refine zO3 (fun hr=>?_) (fun hr a c=>?_)
 ·refine zB (fn:=Tryz.f155) 8 [2] (by kernel_rfl) rfl (by kernel_rfl) (HW.run 400 (by kernel_rfl) ?_)
  simp +decide only[go_sem,nT,nA,nS,nM,nB,reduceIte,reduceCtorEq,hr]
  (with_reducible and_intros) <;> first | omega | rfl
 ·obtain rfl:l=[]:=by cases l with | nil=>rfl | cons a l=>cases hr
  refine HCalls.conv (Q:=fun x _=>x=.v (.slice none 0 0)∨x=.ow 106 4 (thds [])) ?_ ?_
  ·refine zB (fn:=Tryz.f155) 8 [2] (by kernel_rfl) rfl (by kernel_rfl) (HW.run 400 (by kernel_rfl) ?_)
   cases a with
   | none=>simp +decide only[go_sem,nT,nA,nS,nM,nB,reduceIte,reduceCtorEq]
   | some a=>simp +decide only[go_sem,nT,nA,nS,nM,nB,reduceIte,reduceCtorEq]
  ·rintro x H' (rfl | rfl)
   ·exact ⟨_,rfl,.inr ⟨rfl,Conv.nilOw _ _⟩⟩
   ·exact ⟨_,rfl,.inl rfl⟩
set_option maxHeartbeats 4000000 in
theorem zCQ (l:List (Int×Int)) (hl:l.length≤100000000):HFn Tryz.prog 156 [.sl (wrts l)] (.ow 144 2 (wrts l)):=by
 refine zO3 (fun hr=>?_) (fun hr a c=>?_)
 ·refine zB (fn:=Tryz.f156) 8 [2] (by kernel_rfl) rfl (by kernel_rfl) (HW.run 400 (by kernel_rfl) ?_)
  simp +decide only[go_sem,nT,nA,nS,nM,nB,reduceIte,reduceCtorEq,hr]
  (with_reducible and_intros) <;> first | omega | rfl
 ·obtain rfl:l=[]:=by cases l with | nil=>rfl | cons a l=>cases hr
  refine HCalls.conv (Q:=fun x _=>x=.v (.slice none 0 0)∨x=.ow 144 2 (wrts [])) ?_ ?_
  ·refine zB (fn:=Tryz.f156) 8 [2] (by kernel_rfl) rfl (by kernel_rfl) (HW.run 400 (by kernel_rfl) ?_)
   cases a with
   | none=>simp +decide only[go_sem,nT,nA,nS,nM,nB,reduceIte,reduceCtorEq]
   | some a=>simp +decide only[go_sem,nT,nA,nS,nM,nB,reduceIte,reduceCtorEq]
  ·rintro x H' (rfl | rfl)
   ·exact ⟨_,rfl,.inr ⟨rfl,Conv.nilOw _ _⟩⟩
   ·exact ⟨_,rfl,.inl rfl⟩
end Go.Proofs.YtoknohandclcbaaGreat
namespace Go.Proofs.YtoknohandclcbaaGreat
open Go.RowKit
set_option maxRecDepth 8000
theorem zKl {w:Int×Int} {r:List (Int×Int)} {mem:List Int} (h:¬(0≤w.1∧w.1<mem.length)):zA5 (w::r) mem=(w::r,mem,false):=if_neg h
theorem zQ1 {w:Int×Int} {r:List (Int×Int)} {mem:List Int} (h:0≤w.1∧w.1<mem.length):zA5 (w::r) mem=(r,setI mem w.1 w.2,true):=if_pos h
end Go.Proofs.YtoknohandclcbaaGreat
namespace Go.Proofs.YtoknohandclcbaaGreat
open Go.RowKit
section
variable {N L:Nat} {T:Nat→HV} {H:Heap}
theorem Ghost.open (id r c:Nat):Ghost N L T H T (zDP H id r c):=fun B Z G FP ds a w hL hs=>by
 obtain ⟨G',FP',h1,h2,h3⟩:=zKO hs.inv id r c
 exact ⟨Z,G',FP',hs.evo h1 h2 h3,GLt.of hL h2,h3⟩
theorem Ghost.to {T' : Nat→HV} {H1 H2:Heap} (g:Ghost N L T H T' H1) (e:H1=H2):Ghost N L T H T' H2:=e▸g
theorem zU6 {id r c j len:Nat} {ob oj:HObj} {row:List HV} (ho:H[id]?=some (some ob)) (hr:ob.rows[r]?=some row) (hc:row[c]?=some (.hd j 0 len)) (hj:H[j]?=some (some oj)) (h1:j≠id) (h2:len=oj.rows.length) (h3:nmR 0 oj.rows=true) :
  absorb H id r c=(H.set j none).set id (some { ob with rows:=ob.rows.set r (row.set c (.ow oj.e oj.sz oj.rows)) }):=by
 unfold absorb
 simp only[ho,hr,hc,hj]
 rw[if_pos ⟨h1,h2,h3⟩]
theorem Ghost.absorbHd (id r c:Nat) {j len:Nat} {ob oj:HObj} {row:List HV} (ho:H[id]?=some (some ob)) (hr:ob.rows[r]?=some row) (hc:row[c]?=some (.hd j 0 len)) (hj:H[j]?=some (some oj)) (h1:j≠id) (h2:len=oj.rows.length) (h3:nmR 0 oj.rows=true) :
  Ghost N L T H T ((H.set j none).set id (some { ob with rows:=ob.rows.set r (row.set c (.ow oj.e oj.sz oj.rows)) })):=(Ghost.absorb id r c).to (zU6 ho hr hc hj h1 h2 h3)
variable {R:(Nat→HV)→Heap→Prop} {T' : Nat→HV} {H' : Heap}
theorem GQ.step (g:Ghost N L T H T' H') (h:GQ N L R T' H'):GQ N L R T H:=by
 obtain ⟨T2,H2,g2,hR⟩:=h
 exact ⟨T2,H2,g.trans g2,hR⟩
theorem GQ.done (h:R T H):GQ N L R T H:=⟨T,H,Ghost.refl,h⟩
end
theorem zWm {H:Heap} {id r c:Nat}:zDS H id r c 4=zDP (zDP (zDP (zDP H id r c) id r (c+1)) id r (c+1+1)) id r (c+1+1+1):=rfl
theorem zE5 {A:List (List HV)} {i:Nat} (h:i<A.length) (X:List HV):(A.set i X)[i]?=some X:=by simp[h]
theorem set_set {A:List (List HV)} {i:Nat} (X Y:List HV):(A.set i X).set i Y=A.set i Y:=by simp
theorem yA6 {k:Nat} {H:Heap} {e:TypeId} {sz:Nat} {rows:List (List HV)}:fz (k+1) H (.ow e sz rows)=.sl (fzoR rows):=rfl
attribute [go_sem] yA6 zWm set_set Option.getD_some Option.getD_none Option.isSome_none List.length_set
end Go.Proofs.YtoknohandclcbaaGreat
namespace Go.Proofs.YtoknohandclcbaaGreat
open Go.RowKit
set_option maxRecDepth 8000
def thdB:Thd:=⟨0,[0,0,0,0],false,[]⟩
theorem zU0 (p:Prg):zK p=⟨p.init,List.replicate p.thr.length thdB⟩:=by
 unfold zK thdB
 rw[List.map_const']
end Go.Proofs.YtoknohandclcbaaGreat
namespace Go.Proofs.YtoknohandclcbaaGreat
open Go.RowKit
theorem z2Z {T:Nat→HV}:hev T (.global 999999)=.any:=by
 unfold hev
 exact if_neg (by decide)
def head (all:List Oper) (m f:Nat) (of:Oper):List Oper:=(all.take m).set f { of with op:=.move (.global 999999) }
theorem zF7 {all:List Oper} {m f j t:Nat} {of:Oper} (hof:all[f]?=some of) (hj:zA4 (head all m f of) j=some t):∃oj,all[j]?=some oj∧oj.dst=some t∧j<m:=by
 by_cases e:j=f
 ·subst e
  have hlt:j<(all.take m).length:=by
   unfold zA4 head at hj
   cases hx:((all.take m).set j { of with op:=.move (.global 999999) })[j]? with
   | none=>rw[hx] at hj;cases hj
   | some oj=>have:=(List.getElem?_eq_some_iff.1 hx).1;simpa using this
  have:zA4 (head all m j of) j=of.dst:=by
   unfold zA4 head
   rw[List.getElem?_set_self hlt];rfl
  rw[this] at hj
  rw[List.length_take] at hlt
  exact ⟨of,hof,hj,by omega⟩
 ·have:zA4 (head all m f of) j=zA4 (all.take m) j:=by
   unfold zA4 head
   rw[List.getElem?_set_ne (Ne.symm e)]
  rw[this] at hj
  exact zF1 hj
structure Pend (te:TypeId) (zc:Array Value) (w0:World) (Z:Nat→Prop) (FP:Nat→List Nat) (w:World) (b:Nat):Prop where
 new:w0.heap.size≤b
 cells:w.heap[b]?=some (.cells zc te (0,0))
 z:¬Z b
 fp:∀id,b∉FP id
theorem Pend.evo {te:TypeId} {zc:Array Value} {w0 w w' : World} {Z Z' : Nat→Prop} {FP FP' : Nat→List Nat} {b:Nat} (h:Pend te zc w0 Z FP w b) (e:Evo Z FP w Z' FP' w'):Pend te zc w0 Z' FP' w' b:=by
 have hlt:=(Array.getElem?_eq_some_iff.1 h.cells).1
 refine ⟨h.new,(e.keep b hlt h.fp).trans h.cells,fun hz=>?_,fun id hc=>?_⟩
 ·rcases e.znew b hz with h1 | h1 | ⟨id,h1⟩
  ·exact h.z h1
  ·omega
  ·exact h.fp id h1
 ·rcases e.fnew id b hc with h1 | ⟨id',h1⟩
  ·omega
  ·exact h.fp id' h1
def flT (f d b:Nat) (listed:Array Bool) (l:List Oper) (xs:List HV) (T0:Nat→HV):Nat→HV :=
 if listed.getD f false=true then upd (runM (fun k=>listed.getD k false) 0 l xs T0) d (.v (.pointer (some ⟨b,0,none⟩))) else runM (fun k=>listed.getD k false) 0 l xs T0
theorem z2c {f d b t:Nat} {listed:Array Bool} {l:List Oper} {xs:List HV} {T0:Nat→HV} (h:t≠d):flT f d b listed l xs T0 t=runM (fun k=>listed.getD k false) 0 l xs T0 t:=by
 unfold flT
 split
 ·simp[upd,h]
 ·rfl
section go
variable {P:Program} {N L m mm B:Nat} {base:Nat×Nat} {hv:List Nat} {ro:Option Nat} {all:List Oper} {Φ:Exit→Act→World→Prop}
theorem zU4 {f d:Nat} {te:TypeId} {zc:Array Value} {of:Oper} (hfm:f<m) (hof:all[f]?=some of) (hfv:hv.contains f=false) (hfd:of.dst=some d) (hdN:d<N)
  (hfr:∀(j:Nat) o,j≠f→j<m→all[j]?=some o→o.dst≠some d∧d∉zCc all o)
  (hrun:∀(a:Act) (w:World),Region.wanted of (yielded all.toArray a.tmps)=true∧(execOp a.eval of).run P w=.ok (.value (.pointer (some ⟨w.heap.size,0,none⟩))) (w.alloc (.cells zc te))) (hA:AnyOk3 N m hv all) {Z0:Nat→Prop} {G0:List (Option OG)} {FP0:Nat→List Nat} {ds:List Nat} {T0:Nat→HV} {H0:Heap} {xs:List HV} {hs:List Heap} {w0:World} (hxf:xs[f]?=some .any) (hc0:zFQ P base hv all 0 (head all m f of) T0 H0 xs hs) (hml:m≤all.length)
  (hB:∀Z FP w,Evo Z0 FP0 w0 Z FP w→Bo ro B FP w)
  (hend:∀Z G FP a w b,Pend te zc w0 Z FP w b→St N B Z G FP ds (upd (runM (fun _=>true) 0 (head all m f of) xs T0) d (.v (.pointer (some ⟨b,0,none⟩)))) (zP H0 hs m) a w→GLt L G0 G→Evo Z0 FP0 w0 Z FP w→wpListIn (Wd ro) mm P all.toArray Φ (all.drop m) a w) :
  ∀(fuel:Nat) (listed:Array Bool) (c:Nat) (Z:Nat→Prop) (G:List (Option OG)) (FP:Nat→List Nat) (a:Act) (w:World) (b:Nat),listed.size=all.length→left listed≤fuel→zCv all listed→(∀j,m≤j→j<all.length→listed.getD j false=false)→
  c≤m→(∀(j:Nat),j<m→hv.contains j=true→(listed.getD j false=true↔j<c))→
  (listed.getD f false=true→Pend te zc w0 Z FP w b)→St N B Z G FP ds (flT f d b listed (head all m f of) xs T0) (zP H0 hs c) a w→GLt L G0 G→Evo Z0 FP0 w0 Z FP w→wpAnyIn (Wd ro) mm P .any all.toArray Φ fuel listed a w:=by
 have hlm:(head all m f of).length=m:=by unfold head;rw[List.length_set,List.length_take];omega
 have fin:∀(listed:Array Bool) (c:Nat) (Z:Nat→Prop) (G:List (Option OG)) (FP:Nat→List Nat) (a:Act) (w:World) (b:Nat),c≤m→(∀k,k<m→listed.getD k false=true)→(∀(j:Nat),j<m→hv.contains j=true→(listed.getD j false=true↔j<c))→
   (listed.getD f false=true→Pend te zc w0 Z FP w b)→St N B Z G FP ds (flT f d b listed (head all m f of) xs T0) (zP H0 hs c) a w→GLt L G0 G→Evo Z0 FP0 w0 Z FP w→wpListIn (Wd ro) mm P all.toArray Φ (all.drop m) a w:=by
  intro listed c Z G FP a w b hcm hall hcl hpend hs' hG hE
  have hfl:listed.getD f false=true:=hall f hfm
  have hTe:runM (fun k=>listed.getD k false) 0 (head all m f of) xs T0=runM (fun _=>true) 0 (head all m f of) xs T0:=by
   funext t
   refine zCB _ _ _ _ _ rfl fun j hj=>?_
   obtain ⟨oj,h1,h2,h3⟩:=zF7 hof hj
   simp only[Nat.zero_add]
   exact hall j h3
  have hHe:zP H0 hs m=zP H0 hs c:=zC2 hc0 m c hcm (by omega) fun j h1 h2=>by
   cases hv' : hv.contains j with
   | false=>rfl
   | true=>have:=(hcl j h2 hv').1 (hall j h2);omega
  refine hend Z G FP a w b (hpend hfl) ?_ hG hE
  unfold flT at hs'
  rw[if_pos hfl] at hs'
  rw[←hTe,hHe];exact hs'
 intro fuel
 induction fuel with
 | zero =>
  intro listed c Z G FP a w b hsz hf hc hm hcm hcl hpend hs' hG hE
  have hall:=zCl (Nat.le_zero.1 hf)
  have hml' : all.length≤m:=by
   rcases Nat.lt_or_ge m all.length with h | h
   ·have h1:=hm m (Nat.le_refl _) h
    rw[hall m (by omega)] at h1;cases h1
   ·exact h
  have hno:Region.ready .any all.toArray listed=[]:=by
   rw[List.eq_nil_iff_forall_not_mem]
   intro i hi
   obtain ⟨h1,o,ho,_⟩:=mem_ready.1 hi
   rw[List.getElem?_toArray] at ho
   have hi':=(List.getElem?_eq_some_iff.1 ho).1
   have h2:=hall i (by omega)
   rw[Array.getD_eq_getD_getElem?,zAR h1] at h2
   simp at h2
  refine ⟨hno,?_⟩
  have:=fin listed c Z G FP a w b hcm (fun k hk=>hall k (by omega)) hcl hpend hs' hG hE
  rw[List.drop_eq_nil_of_le hml'] at this
  exact this
 | succ fuel ih =>
  intro listed c Z G FP a w b hsz hf hc hm hcm hcl hpend hs' hG hE
  by_cases hall:∀k,k<m→listed.getD k false=true
  ·have h:=fin listed c Z G FP a w b hcm hall hcl hpend hs' hG hE
   refine zF9 hA.base (all.drop m) m (fuel+1) listed a w rfl (Nat.le_refl _) hml hsz hf hc (fun i hi=>⟨fun hx=>?_,fun hx=>hall i hx⟩) h
   rcases Nat.lt_or_ge i m with h' | h'
   ·exact h'
   ·rw[hm i h' hi] at hx;cases hx
  ·have hex:∃k,k<m∧listed.getD k false=false:=by
    apply Classical.byContradiction
    intro hn
    refine hall fun k h1=>?_
    cases hx:listed.getD k false with
    | true=>rfl
    | false=>exact absurd ⟨k,h1,hx⟩ hn
   obtain ⟨k,⟨hk1,hk3⟩,hkl⟩:=zR (p:=fun k=>k<m∧listed.getD k false=false) hex
   have hkr:k∈Region.ready .any all.toArray listed:=zBH hA.base hsz (by omega) hk3 (fun j hj=>by
    cases hx:listed.getD j false with
    | true=>rfl
    | false=>have:=hkl j ⟨by omega,hx⟩;omega)
   refine ⟨fun h0=>by rw[h0] at hkr;simp at hkr,fun i hi=>?_⟩
   obtain ⟨h1,o,ho,ha⟩:=mem_ready.1 hi
   rw[List.getElem?_toArray] at ho
   have hil:=(List.getElem?_eq_some_iff.1 ho).1
   have hnl:=zAR h1
   have hnf:listed.getD i false=false:=by rw[Array.getD_eq_getD_getElem?,hnl];rfl
   have him:i<m:=by
    rcases Nat.lt_or_ge i m with h' | h'
    ·exact h'
    ·have:=zAE hA.base hc hi (hA.base.ord k i _ o (by omega) (List.getElem?_eq_getElem (show k<all.length by omega)) ho (.inl h'))
     rw[hk3] at this;cases this
   have hadd:=zEF hnl
   have hcl2:=zB8 hc (fun o' ho' e he hb=>by rw[ho] at ho';cases ho';exact ha e (by simpa using he) hb)
   have hm2:∀j,m≤j→j<all.length→(listed.setIfInBounds i true).getD j false=false:=fun j h1 h2=>by
    cases hx:(listed.setIfInBounds i true).getD j false with
    | false=>rfl
    | true =>
     rcases zY hx with rfl | hx
     ·omega
     ·rw[hm j h1 h2] at hx;cases hx
   by_cases hif:i=f
   ·
    subst hif
    rw[hof] at ho;cases ho
    obtain ⟨hwant,hex⟩:=hrun a w
    obtain ⟨hok,hnd⟩:=hA.base.ok i of hof
    have hoT:(head all m i of)[i]?=some { of with op:=.move (.global 999999) }:=by
     unfold head;rw[List.getElem?_set_self (by rw[List.length_take];omega)]
    have hT:runM (fun k=>(listed.setIfInBounds i true).getD k false) 0 (head all m i of) xs T0=updO (runM (fun k=>listed.getD k false) 0 (head all m i of) xs T0) of.dst .any:=by
     refine zCx (head all m i of) xs 0 i T0 { of with op:=.move (.global 999999) } .any hoT hxf ?_ ?_ ?_ ?_
     ·simp only[Nat.zero_add];exact zAJ (by omega)
     ·simp only[Nat.zero_add];exact hnf
     ·intro k hk
      simp only[Nat.zero_add] at hk
      simp only[Array.getD_eq_getD_getElem?,Array.getElem?_setIfInBounds_ne (Ne.symm hk)]
     ·intro k hk hS t ht hdk
      simp only[Nat.zero_add] at hS
      obtain ⟨ok,hok',hd,_⟩:=zF7 hof hdk
      have:=zAL hA.base hc k i ok hok' (hc k ok hok' hS) (hA.base.ord i k of ok hk hof hok' (.inr (by
       unfold zCq
       rw[show of.dst=some t from ht]
       simp[hd])))
      rw[hnf] at this;cases this
    unfold wpOpIn
    rw[List.getElem?_toArray,hof]
    dsimp only
    rw[if_pos hwant]
    refine ⟨fun _ _=>trivial,?_⟩
    rw[zAY _ _ _ (zBV hnd),hex]
    have hsz' : w.heap.size<(w.alloc (.cells zc te)).heap.size:=by simp
    have hEv:Evo Z FP w Z FP (w.alloc (.cells zc te)):=⟨rfl,rfl,rfl,by simp,fun b hb _=>heap_alloc_old w _ hb,fun _ h=>h,fun _ h=>.inl h,fun id b hb=>.inr ⟨id,hb⟩⟩
    have hi2:HInv Z G FP (zP H0 hs c) (w.alloc (.cells zc te)):=hs'.inv.keep (by simp) (fun b hb=>heap_alloc_old w _ (by
     rcases hb with hb | ⟨id,hb⟩
     ·exact hs'.inv.zlt b hb
     ·exact hs'.inv.flt id b hb))
    have hs2:=(hs'.evo hi2 (GLe.refl _) hEv).put (x:=.v (.pointer (some ⟨w.heap.size,0,none⟩))) (y:=.pointer (some ⟨w.heap.size,0,none⟩)) (by simp[RV]) of.dst (fun q hq=>by rw[hfd] at hq;cases hq;exact hdN)
    have hTf:updO (flT i d b listed (head all m i of) xs T0) of.dst (.v (.pointer (some ⟨w.heap.size,0,none⟩)))=flT i d w.heap.size (listed.setIfInBounds i true) (head all m i of) xs T0:=by
     unfold flT
     rw[hnf,if_neg (by simp),if_pos (zAJ (by omega)),hT,hfd]
     funext t
     simp only[updO,upd]
     split <;> rfl
    rw[hTf] at hs2
    refine ih (listed.setIfInBounds i true) c Z G FP _ _ w.heap.size (by simpa using hsz) (by omega) hcl2 hm2 hcm (fun j hj hv'=>?_) (fun _=>⟨hE.size,heap_alloc_new w _,fun hz=>by have:=hs'.inv.zlt _ hz;omega,fun id hc=>by have:=hs'.inv.flt id _ hc;omega⟩) hs2 hG (hE.trans hEv)
    rw[←hcl j hj hv']
    constructor
    ·intro hxx
     rcases zY hxx with rfl | hxx
     ·rw[hfv] at hv';cases hv'
     ·exact hxx
    ·exact zAW
   have hoT:(head all m f of)[i]?=some o:=by unfold head;rw[List.getElem?_set_ne (Ne.symm hif),List.getElem?_take,if_pos him];exact ho
   obtain ⟨hd1,hd2⟩:=hfr i o hif him ho
   obtain ⟨x,hx,hcert⟩:=zBn (head all m f of) xs hs 0 i T0 H0 o hc0 hoT
   obtain ⟨hok,hnd⟩:=hA.base.ok i o ho
   have hsee:∀t∈zCc all o,runM (fun k=>decide (k<0+i)) 0 (head all m f of) xs T0 t=flT f d b listed (head all m f of) xs T0 t:=by
    intro t ht
    rw[z2c (fun e=>hd2 (by rw[←e];exact ht))]
    refine zCB _ _ _ _ _ rfl fun j hj=>?_
    obtain ⟨oj,hoj,hd,hjm⟩:=zF7 hof hj
    simp only[Nat.zero_add]
    rcases Nat.lt_trichotomy j i with h' | h' | h'
    ·have:=zAE hA.base hc hi (hA.base.ord j i oj o h' hoj ho (.inr (by simp[zCq,hd,ht])))
     rw[this];simp[h']
    ·subst h';rw[hnf];simp
    ·have hjl:=(List.getElem?_eq_some_iff.1 hoj).1
     cases hx:listed.getD j false with
     | false=>simp;omega
     | true =>
      have:=zAL hA.base hc j i oj hoj (hc j oj hoj hx) (hA.base.ord i j o oj h' ho hoj (.inr (by
       unfold zCq
       rw[hd]
       simp[ht])))
      rw[hnf] at this;cases this
   have hcert':=zC9 hsee hcert
   rw[Nat.zero_add] at hcert'
   have hdall:all.all (zBr N)=true:=by
    rw[List.all_eq_true]
    intro o' ho'
    obtain ⟨j',hj'⟩:=List.mem_iff_getElem?.1 ho'
    have:=(hA.base.ok j' o' hj').1
    simp only[zG,Bool.and_eq_true] at this
    exact this.1
   have heavyAt:hv.contains i=true→zP H0 hs c=zP H0 hs i∧c≤i:=fun hvi=>by
    have hci:c≤i:=by
     rcases Nat.lt_or_ge i c with h | h
     ·have:=(hcl i him hvi).2 h;rw[hnf] at this;cases this
     ·exact h
    refine ⟨(zC2 hc0 i c hci (by omega) fun j h1 h2=>?_).symm,hci⟩
    cases hv' : hv.contains j with
    | false=>rfl
    | true =>
     have:=zAE hA.base hc hi (hA.hv j i _ o h2 (List.getElem?_eq_getElem (show j<all.length by omega)) ho hv' hvi)
     have:=(hcl j (by omega) hv').1 this
     omega
   have hquiet0:SameTo base.1 (zP H0 hs i) (zP H0 hs c):=by
    rcases Nat.lt_or_ge i c with h | h
    ·exact (zC3 hc0 c i (by omega) (by omega)).1
    ·intro id hid
     exact ((zC3 hc0 i c h (by omega)).1 id hid).symm
   have hquiet:hv.contains i=false→SameTo (bsO hv base i) (zP H0 hs i) (zP H0 hs c):=fun hvi0=>by
    cases hod:hv.contains (1000+i) with
    | false =>
     have:bsO hv base i=base.1:=by unfold bsO;rw[if_neg (by rw[hvi0];simp),if_neg (by rw[hod];simp)]
     rw[this];exact hquiet0
    | true =>
     have:bsO hv base i=base.2:=by unfold bsO;rw[if_neg (by rw[hvi0];simp),if_pos hod]
     rw[this]
     rcases Nat.lt_or_ge i c with h | h
     ·refine (zBu hc0 c i (by omega) (by omega) fun j h1 h2 hv' hw=>?_).1
      have hjl:j<all.length:=by omega
      have hlj:=(hcl j (by omega) hv').2 h2
      rcases Nat.lt_or_ge i j with h3 | h3
      ·have:=zAL hA.base hc j i all[j] (List.getElem?_eq_getElem hjl) (hc j all[j] (List.getElem?_eq_getElem hjl) hlj) (hA.od2 i j o all[j] h3 ho (List.getElem?_eq_getElem hjl) hod hw)
       rw[hnf] at this;cases this
      ·obtain rfl:i=j:=by omega
       rw[hnf] at hlj;cases hlj
     ·intro id hid
      refine ((zBu hc0 i c h (by omega) fun j h1 h2 hv' hw=>?_).1 id hid).symm
      have:=zAE hA.base hc hi (hA.od1 j i _ o h2 (List.getElem?_eq_getElem (show j<all.length by omega)) ho hw hod)
      have:=(hcl j (by omega) hv').1 this
      omega
   have hT:runM (fun k=>(listed.setIfInBounds i true).getD k false) 0 (head all m f of) xs T0=updO (runM (fun k=>listed.getD k false) 0 (head all m f of) xs T0) o.dst x:=by
    refine zCx (head all m f of) xs 0 i T0 o x hoT hx ?_ ?_ ?_ ?_
    ·simp only[Nat.zero_add];exact zAJ (by omega)
    ·simp only[Nat.zero_add];exact hnf
    ·intro k hk
     simp only[Nat.zero_add] at hk
     simp only[Array.getD_eq_getD_getElem?,Array.getElem?_setIfInBounds_ne (Ne.symm hk)]
    ·intro k hk hS t ht hdk
     simp only[Nat.zero_add] at hS
     obtain ⟨ok,hok',hd,_⟩:=zF7 hof hdk
     have:=zAL hA.base hc k i ok hok' (hc k ok hok' hS) (hA.base.ord i k o ok hk ho hok' (.inr (by
      unfold zCq
      rw[ht]
      simp[hd])))
     rw[hnf] at this;cases this
   have hTf:flT f d b (listed.setIfInBounds i true) (head all m f of) xs T0=updO (flT f d b listed (head all m f of) xs T0) o.dst x:=by
    have hfs:(listed.setIfInBounds i true).getD f false=listed.getD f false:=by
     simp only[Array.getD_eq_getD_getElem?,Array.getElem?_setIfInBounds_ne hif]
    unfold flT
    rw[hfs,hT]
    cases listed.getD f false with
    | false=>simp
    | true =>
     simp only[if_true]
     cases hod:o.dst with
     | none=>rfl
     | some t =>
      have:t≠d:=fun e=>hd1 (by rw[hod,e])
      funext q
      simp only[updO,upd]
      by_cases e1:q=d
      ·subst e1;simp[Ne.symm this]
      ·simp[e1]
   have hpend' : ∀Z' FP' w',Evo Z FP w Z' FP' w'→((listed.setIfInBounds i true).getD f false=true→Pend te zc w0 Z' FP' w' b):=fun Z' FP' w' hEE hxx=>by
    rcases zY hxx with rfl | hxx
    ·exact absurd rfl hif
    ·exact (hpend hxx).evo hEE
   cases hvi:hv.contains i with
   | true =>
    rw[hvi] at hcert'
    obtain ⟨hHc,hci⟩:=heavyAt hvi
    refine zET (L:=L) (Hn:=zP H0 hs (i+1)) hdall ho hok hnd hcert' hs' (hB Z FP w hE) hG.len (fun h=>by cases h) (fun _=>⟨hHc,rfl⟩) fun Z' G' FP' a' w' hs2 hG' hE'=>?_
    refine ih (listed.setIfInBounds i true) (i+1) Z' G' FP' a' w' b (by simpa using hsz) (by omega) hcl2 hm2 (by omega) (fun j hj hv'=>?_) (hpend' _ _ _ hE') (by rw[hTf];exact hs2) (hG.trans hG') (hE.trans hE')
    constructor
    ·intro hxx
     rcases zY hxx with rfl | hxx
     ·omega
     ·have:=(hcl j hj hv').1 hxx;omega
    ·intro hlt
     by_cases e:j=i
     ·subst e;exact zAJ (by omega)
     ·refine zAW ?_
      exact zAE hA.base hc hi (hA.hv j i _ o (by omega) (List.getElem?_eq_getElem (show j<all.length by omega)) ho hv' hvi)
   | false =>
    rw[hvi] at hcert'
    refine zET (L:=L) (Hn:=zP H0 hs c) hdall ho hok hnd hcert' hs' (hB Z FP w hE) hG.len (fun _=>⟨rfl,hquiet hvi⟩) (fun h=>by cases h) fun Z' G' FP' a' w' hs2 hG' hE'=>?_
    refine ih (listed.setIfInBounds i true) c Z' G' FP' a' w' b (by simpa using hsz) (by omega) hcl2 hm2 hcm (fun j hj hv'=>?_) (hpend' _ _ _ hE') (by rw[hTf];exact hs2) (hG.trans hG') (hE.trans hE')
    rw[←hcl j hj hv']
    constructor
    ·intro hxx
     rcases zY hxx with rfl | hxx
     ·rw[hvi] at hv';cases hv'
     ·exact hxx
    ·exact zAW
end go
section
variable {P:Program} {N L:Nat} {base:Nat×Nat} {hv:List Nat} {Q:Exit→KS} {H:Heap}
def zTL (N m f:Nat) (hv:List Nat) (all:List Oper):Bool :=
 match all[f]? with
 | some of=>decide (f<m) && !hv.contains f && (match of.guard with | none=>true | some _=>false) &&
  (match of.dst,of.op with
  | some d,.alloc _=>decide (d<N) && (all.take m).zipIdx.all fun (o,j)=>j == f || ((match o.dst with | some t=>t != d | none=>true) && !(zCc all o).contains d)
  | _,_=>false)
 | none=>false
def zSU (P:Program) (k:KS) (of:Oper):KS:=fun T H =>
 match of.op with
 | .alloc t=>onR (zH5 P H t) fun x H'=>k (updO T of.dst x) H'
 | _=>False
theorem HW.float {id:Nat} {all:List Oper} {T:Nat→HV} (n m:Nat) (base:Nat×Nat) (hv:List Nat) (f:Nat) (of:Oper) (hm:P.follows .mixedOrders=true) (hB:zXz N m hv all=true) (hml:m≤all.length) (hof:all[f]?=some of) (hF:zTL N m f hv all=true)
  (h:exM P base hv all (zSU P (ex P N L Q n [.ops all (all.drop m)]) of) 0 (head all m f of) T H):HW P N L (.region id all.toArray true) Q T H:=by
 unfold zTL at hF
 rw[hof] at hF
 simp only[Bool.and_eq_true,decide_eq_true_eq,Bool.not_eq_true'] at hF
 obtain ⟨⟨⟨hfm,hfv⟩,hg⟩,hF⟩:=hF
 have hg:of.guard=none:=by
  split at hg
  ·assumption
  ·cases hg
 split at hF
 case h_2=>cases hF
 rename_i d t hd hop
 simp only[Bool.and_eq_true,decide_eq_true_eq] at hF
 obtain ⟨hdN,hF⟩:=hF
 have hfr:∀(j:Nat) o,j≠f→j<m→all[j]?=some o→o.dst≠some d∧d∉zCc all o:=by
  intro j o hj hjm ho
  have hmem:(o,j)∈(all.take m).zipIdx:=by
   rw[List.mem_zipIdx_iff_getElem?,List.getElem?_take,if_pos hjm];exact ho
  have:=List.all_eq_true.1 hF (o,j) hmem
  simp only[Bool.or_eq_true,beq_iff_eq,Bool.and_eq_true,Bool.not_eq_true'] at this
  rcases this with h | ⟨h1,h2⟩
  ·exact absurd h hj
  ·refine ⟨fun e=>?_,fun hc=>?_⟩
   ·rw[e] at h1;simp at h1
   ·have:(zCc all o).contains d=true:=by simpa using hc
    rw[this] at h2;cases h2
 obtain ⟨xs,hs,hc,hex⟩:=zIl (head all m f of) 0 T H h
 have hlm:(head all m f of).length=m:=by unfold head;rw[List.length_set,List.length_take];omega
 rw[hlm] at hex
 have hxf:xs[f]?=some .any:=by
  obtain ⟨x,hx,hN⟩:=zBn (head all m f of) xs hs 0 f T H { of with op:=.move (.global 999999) } hc (by unfold head;rw[List.getElem?_set_self (by rw[List.length_take];omega)])
  rw[Nat.zero_add,hfv] at hN
  unfold zEZ at hN
  simp only[hg] at hN
  unfold zFC at hN
  simp only[Bool.false_eq_true,if_false] at hN
  rcases hN.1 with ⟨p,H0,hp,hr,_⟩ | ⟨g,args,tys,fid,caps,R,e,_⟩ | ⟨rv,name,args,tys,t,y,fid,R,e,_⟩ | ⟨t,len,parts,p,H0,e,_⟩
  ·have:ropQ P (runM (fun k=>decide (k<f)) 0 (head all m f of) xs T) (zP H hs f) (.move (.global 999999))=some (True,.any,zP H hs f):=by
    show some (True,hev _ (.global 999999),_)=_
    rw[z2Z]
   rw[this] at hr
   simp only[Option.some.injEq,Prod.mk.injEq] at hr
   rw[hx,hr.2.1]
  ·cases e
  ·cases e
  ·cases e
 unfold zSU at hex
 rw[hop] at hex
 obtain ⟨ty,hty,hex⟩:=zC hex
 obtain ⟨cs,hcs,hex⟩:=zC hex
 obtain ⟨z,hz,rfl,hz1,hzs⟩:=zAs hcs
 have hex:=hex.2
 intro ro mm B Z G FP ds a w hB' hL hst
 have hA:=zHr hB
 have hEv:Evo Z FP w Z FP { w with drawn:=w.drawn+1 }:=⟨rfl,rfl,rfl,Nat.le_refl _,fun _ _ _=>rfl,fun _ h=>h,fun _ h=>.inl h,fun id b hb=>.inr ⟨id,hb⟩⟩
 have hi:HInv Z G FP H { w with drawn:=w.drawn+1 }:=hst.inv.keep (Nat.le_refl _) (fun _ _=>rfl)
 have hs':=hst.evo hi (GLe.refl _) hEv
 have hallok:(all.all fun o=>zG N o && zAD o)=true:=by
  rw[List.all_eq_true]
  intro o ho
  obtain ⟨j,hj⟩:=List.mem_iff_getElem?.1 ho
  have:=hA.base.ok j o hj
  simp[this.1,this.2]
 have hdrop:((all.drop m).all fun o=>zG N o && zAD o)=true:=by
  rw[List.all_eq_true]
  intro o ho
  exact List.all_eq_true.1 hallok o (List.mem_of_mem_drop ho)
 refine wpIn_region_any hm ?_
 refine zU4 (m:=m) (B:=B) (L:=L) (Z0:=Z) (G0:=G) (FP0:=FP) (ds:=ds) (w0:=w) (te:=t) (zc:=z.cells) hfm hof hfv hd hdN hfr (fun a w=>⟨by simp[Region.wanted,hg],by simp only[execOp,hop,Instr.alloc,Sem.run_bind,zAi hty hz,Result.andThen_ok,newVar,newRow];simp⟩) hA hxf hc hml (fun Z' FP' w' hE=>hB'.evo hE) ?_ _ _ 0 Z G FP _ _ 0 (by simp) ?_ ?_ (fun j h1 h2=>?_) (Nat.zero_le _) (fun j hj hv=>?_) (fun hx=>?_) ?_ (GLt.refl hL) hEv
 ·intro Z1 G1 FP1 a1 w1 b hp hs1 hG1 hE1
  have hlt:=(Array.getElem?_eq_some_iff.1 hp.cells).1
  have hlen:=hs1.inv.len
  have hob:OB Z1 (G1++[some ⟨some b,t,ty.size,1,1⟩]) w1 ⟨t,ty.size,[z.cells.toList.map .v]⟩ ⟨some b,t,ty.size,1,1⟩ [b]:=by
   refine ⟨rfl,rfl,rfl,by simp[hzs],.inr (.inl ⟨b,z.cells,[],rfl,rfl,hp.cells,by simp[hzs],by simp,by simp[maxLen],?_⟩)⟩
   refine (zCV hp.cells _ 0 [] (Nat.zero_le _)).2 ⟨by simp,?_,?_⟩
   ·simp only[List.flatten_cons,List.flatten_nil,List.append_nil,List.length_map,List.drop_zero]
    rw[List.take_of_length_le (Nat.le_refl _)]
    exact zQh _ _ _ _
   ·simp only[List.drop_zero]
    intro y hy
    exact hz1 y (List.mem_of_mem_take hy)
  have hnew:=hs1.inv.new (Nat.le_refl _) (fun _ _=>rfl) hob (by simp) (fun b' hb'=>by
   obtain rfl:=List.mem_singleton.1 hb'
   exact ⟨hp.z,hlt,hp.fp⟩)
  have hE2:Evo Z FP w Z1 (fun j=>if j=(zP H hs m).length then [b] else FP1 j) w1:=by
   refine ⟨hE1.os,hE1.tape,hE1.output,hE1.size,hE1.keep,hE1.zle,hE1.znew,fun id b' hb'=>?_⟩
   by_cases e:id=(zP H hs m).length
   ·simp only[if_pos e,List.mem_singleton] at hb'
    subst hb';exact .inl hp.new
   ·simp only[if_neg e] at hb'
    exact hE1.fnew id b' hb'
  have hptr:RV Z1 (G1++[some ⟨some b,t,ty.size,1,1⟩]) w1 (.pt (zP H hs m).length 1 0 0) (.pointer (some ⟨b,0,none⟩)) []:=by
   simp only[RV]
   rw[←hlen]
   refine ⟨trivial,rfl,by simp,fun g hg=>?_⟩
   simp at hg;subst hg
   exact ⟨Nat.le_refl _,fun _=>⟨b,rfl,by simp⟩⟩
  have hs2:St N B Z1 (G1++[some ⟨some b,t,ty.size,1,1⟩]) (fun j=>if j=(zP H hs m).length then [b] else FP1 j) ds (updO (runM (fun _=>true) 0 (head all m f of) xs T) of.dst (.pt (zP H hs m).length 1 0 0)) (zP H hs m++[some ⟨t,ty.size,[z.cells.toList.map .v]⟩]) a1 w1:=by
   refine ⟨hnew,hs1.size,fun i hi=>?_,hs1.defers,hs1.dsn,fun q hq=>?_⟩
   ·have:=hs1.tmps i hi
    rw[hd]
    simp only[updO,upd] at this⊢
    split
    ·rename_i e
     rw[if_pos e] at this
     rw[RV_v this]
     exact hptr
    ·rename_i e
     rw[if_neg e] at this
     exact RV.nil_keep (fun _ _=>rfl) (fun _ h=>h) (GLe.more _) this
   ·obtain ⟨q1,q2,q3,q4⟩:=hs1.dsat q hq
    refine ⟨q1,q2,q3,fun id hc=>?_⟩
    by_cases e:id=(zP H hs m).length
    ·simp only[if_pos e,List.mem_singleton] at hc
     subst hc
     rw[hp.cells] at q2;cases q2
    ·simp only[if_neg e] at hc
     exact q4 id hc
  have:=zCP n [.ops all (all.drop m)] _ _ hex (by simp[zAn,hallok,hdrop]) ro mm B Z G FP w Z1 _ _ ds a1 w1 (hB'.evo hE2) hs2 (hG1.trans (GLt.of hG1.len (GLe.more _))) hE2
  simp only[M] at this
  exact this
 ·have:∀k:Nat,left (Array.replicate k false)=k:=by intro k;simp[left]
  rw[this];simp
 ·intro j o hj hl
  exfalso
  have hjl:=(List.getElem?_eq_some_iff.1 hj).1
  simp[Array.getD_eq_getD_getElem?,hjl] at hl
 ·simp[Array.getD_eq_getD_getElem?,h2]
 ·simp[Array.getD_eq_getD_getElem?,show j<all.length by omega]
 ·exfalso
  simp[Array.getD_eq_getD_getElem?,show f<all.length by omega] at hx
 ·have e:runM (fun k=>(Array.replicate all.toArray.size false).getD k false) 0 (head all m f of) xs T=T:=by
   funext t
   rw[zBc]
   intro j _
   simp only[Array.getD_eq_getD_getElem?]
   by_cases hlt:0+j<all.toArray.size
   ·have:0+j<all.length:=by simpa using hlt
    rw[Array.getElem?_eq_getElem (by simpa using hlt)]
    simp
   ·rw[Array.getElem?_eq_none (by simpa using hlt)];rfl
  unfold flT
  rw[if_neg (by simp[Array.getD_eq_getD_getElem?,show f<all.length by omega]),e]
  exact hs'
theorem zJx {k:KS} {d:Option Nat} {t ty:TypeId} {pos:String} {af:Array Edge} {g:Option (Nat×Bool)} {T:Nat→HV}:zSU P k { dst:=d,op:=.alloc t,type:=ty,pos:=pos,after:=af,guard:=g } T H=onR (zH5 P H t) fun x H'=>k (updO T d x) H':=rfl
theorem zWU {p:Prop} {x:HV} {H' : Heap} {K:KT}:onR (some (p,x,H')) K=(p∧K x H'):=rfl
theorem zPd {T:Nat→HV} {g:Nat}:hev T (.global g)=if zHD g=true then .fp [[.ic zKP (.gv g)]] 0 0 else .any:=rfl
attribute [go_sem] zJx zWU zPd head
end
end Go.Proofs.YtoknohandclcbaaGreat
