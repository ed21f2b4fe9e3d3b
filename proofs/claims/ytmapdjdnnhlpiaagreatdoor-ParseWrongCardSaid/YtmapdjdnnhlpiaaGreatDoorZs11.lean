/- Parts of the proof: HiDi, Ne, Ls, Nl. -/
import Derived.Test.YtmapdjdnnhlpiaaGreatDoorZs10
import Derived.Shelf.SlIter.Nil
import Derived.Shelf.SlIter.Sorted
import Derived.Shelf.SortM.Plain
import Derived.Shelf.SortM.SortNone
import Derived.Test.YtmapdjdnnhlpiaaGreatDoorProg
import Derived.KernelRfl
import Derived.Test.YtmapdjdnnhlpiaaGreatDoorZs09
import Derived.StringKeys
set_option linter.unusedSectionVars false
set_option linter.unusedVariables false
set_option linter.unusedSimpArgs false
namespace Go.Proofs.YtmapdjdnnhlpiaaGreatDoor
open Go.RowKit
inductive Plan where
 | leaf
 | stop
 | light (i:Nat) (p:Plan)
 | heavy (j:Nat) (keep:List Nat) (p q:Plan)
def noCall:Op→Bool
 | .call { callee:=.value _,args:=_,argTypes:=_ }=>false
 | .call { callee:=.invoke _ _,args:=_,argTypes:=_ }=>false
 | _=>true
def callFree (all:List Oper) (i:Nat):Bool:=match all[i]? with | some o=>noCall o.op | none=>false
def dm (Ls Ss:List Nat) (k:Nat):Bool:=Ls.contains k || Ss.contains k
def Plan.chk (all:List Oper) (bs:List Nat):Plan→List Nat→List Nat→List Nat→Bool
 | .leaf,Ls,Ss,alts=>alts.isEmpty && (List.range all.length).all fun i=>dm Ls Ss i
 | .stop,Ls,Ss,alts=>!alts.isEmpty && (List.range all.length).all fun i=>dm Ls Ss i || alts.contains i || (List.range all.length).any fun k=>!dm Ls Ss k && mustB bs k i
 | .light i p,Ls,Ss,alts=>alts.isEmpty && decide (i<all.length) && !dm Ls Ss i && callFree all i && ((List.range all.length).all fun k=>!mustB bs k i || dm Ls Ss k) && p.chk all bs (i::Ls) Ss []
 | .heavy j keep p q,Ls,Ss,alts=>decide (j<all.length) && !dm Ls Ss j && ((List.range all.length).all fun k=>!mustB bs k j || dm Ls Ss k) && (Ls.all fun i=>mustB bs i j || keep.contains i) && p.chk all bs Ls (j::Ss) [] && q.chk all bs Ls Ss (j::alts)
def idsV:HV→List Nat
 | .hd i _ _=>[i]
 | .pt i _ _ _=>[i]
 | _=>[]
def idsO (T:Nat→HV) (op:Op):List Nat :=
 if indep op=true then [] else match op with
 | .buildSlice ..=>[]
 | op=>op.operands.toList.flatMap fun y=>idsV (hev T y)
def sameAt (H H' : Heap):List Nat→Prop
 | []=>True
 | i::l=>getO H' i=getO H i∧sameAt H H' l
def agree1 (H H' : Heap) (ids:List Nat):Bool→Prop
 | true=>sameAt H H' ids
 | false=>True
def agreeK (keep:List Nat) (H H' : Heap):List (Nat×List Nat)→Prop
 | []=>True
 | e::rd=>agree1 H H' e.2 (keep.contains e.1)∧agreeK keep H H' rd
def nthO:List Oper→Nat→Option Oper
 | [],_=>none
 | o::_,0=>some o
 | _::l,i+1=>nthO l i
theorem nthO_eq:∀(l:List Oper) (i:Nat),nthO l i=l[i]?
 | [],_=>by simp[nthO]
 | o::l,0=>rfl
 | o::l,i+1=>by simp only[nthO,List.getElem?_cons_succ];exact nthO_eq l i
def atO (r:Option Oper) (f:Oper→Prop):Prop:=match r with | some o=>f o | none=>False
def withI (ids:List Nat) (f:List Nat→Prop):Prop:=f ids
def withH (H:Heap) (f:Heap→Prop):Prop:=f H
def exT (P:Program) (all:List Oper) (K:KS):Plan→List (Nat×List Nat)→KS
 | .leaf,_=>K
 | .stop,_=>fun _ _=>True
 | .light i p,rd=>fun T H=>atO (nthO all i) fun o=>withI (idsO T o.op) fun ids=>exGq (fun _ T' _=>exT P all K p ((i,ids)::rd) T' H) P all o [] [] T H
 | .heavy j keep p q,rd=>fun T H=>(atO (nthO all j) fun o=>exG (fun _ T' H'=>withH H' fun H'=>agreeK keep H H' rd∧exT P all K p rd T' H') P all o [] [] T H)∧exT P all K q rd T H
section
variable {P:Program} {all:List Oper}
theorem must_lt {N m:Nat} (hA:AnyOk N m all):∀(j i:Nat),j<all.length→mustB (befs all []) i j=true→i<j:=by
 intro j
 induction j using Nat.strongRecOn with
 | _ j ih =>
  intro i hj hm
  unfold mustB at hm
  obtain ⟨e,he,h1,h2⟩:=befs_spec all [] j _ (List.getElem?_eq_getElem hj) (by simpa using hm)
  have hlt:=hA.back j _ (List.getElem?_eq_getElem hj) e he h1
  rcases h2 with rfl | h2
  ·exact hlt
  ·have:=ih e.on hlt i (by omega) h2
   omega
theorem runM_xs {S:Nat→Bool}:∀(l:List Oper) (xs xs' : List HV) (i:Nat) (T:Nat→HV),xs.length=xs'.length→(∀j,S (i+j)=true→xs[j]?=xs'[j]?)→runM S i l xs T=runM S i l xs' T
 | [],xs,xs',i,T,_,_=>by cases xs <;> cases xs' <;> rfl
 | o::l,[],xs',i,T,hl,_=>by
  obtain rfl:xs'=[]:=by cases xs' with | nil=>rfl | cons=>simp at hl
  rfl
 | o::l,x::xs,[],i,T,hl,_=>by simp at hl
 | o::l,x::xs,x'::xs',i,T,hl,h=>by
  simp only[runM]
  have e:(if S i=true then updO T o.dst x else T)=if S i=true then updO T o.dst x' else T:=by
   split
   ·rename_i hs
    have:=h 0 (by rw[Nat.add_zero];exact hs)
    simp only[List.getElem?_cons_zero,Option.some.injEq] at this
    rw[this]
   ·rfl
  rw[e]
  exact runM_xs l xs xs' (i+1) _ (by simpa using hl) fun j hj=>by
   have:=h (j+1) (by rw[show i+(j+1)=i+1+j by omega];exact hj)
   simpa using this
def vals (n:Nat) (f:Nat→HV):List HV:=(List.range n).map f
theorem vals_get {n j:Nat} {f:Nat→HV} (h:j<n):(vals n f)[j]?=some (f j):=by simp[vals,h]
theorem vals_len {n:Nat} {f:Nat→HV}:(vals n f).length=n:=by simp[vals]
def tvS (all:List Oper) (S:Nat→Bool) (f:Nat→HV) (T0:Nat→HV):Nat→HV:=runM S 0 all (vals all.length f) T0
variable {S S' : Nat→Bool} {f f' : Nat→HV} {T0:Nat→HV}
theorem tvS_f (h:∀j,j<all.length→S j=true→f j=f' j):tvS all S f T0=tvS all S f' T0:=by
 unfold tvS
 refine runM_xs all _ _ 0 T0 (by rw[vals_len,vals_len]) fun j hj=>?_
 rw[Nat.zero_add] at hj
 by_cases hl:j<all.length
 ·rw[vals_get hl,vals_get hl,h j hl hj]
 ·rw[List.getElem?_eq_none (by rw[vals_len];omega),List.getElem?_eq_none (by rw[vals_len];omega)]
theorem tvS_at {t:Nat} (h:∀(j:Nat) o,all[j]?=some o→o.dst=some t→S j=S' j):tvS all S f T0 t=tvS all S' f T0 t:=by
 unfold tvS
 refine runM_at _ _ _ _ _ rfl fun j hj=>?_
 unfold dstAt at hj
 cases ho:all[j]? with
 | none=>rw[ho] at hj;cases hj
 | some o =>
  rw[ho] at hj
  rw[Nat.zero_add]
  exact h j o ho hj
theorem tvS_add {j:Nat} {o:Oper} (ho:all[j]?=some o) (h1:S' j=true) (h2:S j=false) (h3:∀k,k≠j→S' k=S k) (h4:∀(k:Nat) ok,j<k→S k=true→all[k]?=some ok→∀t,o.dst=some t→ok.dst≠some t):tvS all S' f T0=updO (tvS all S f T0) o.dst (f j):=by
 have hl:=(List.getElem?_eq_some_iff.1 ho).1
 unfold tvS
 refine runM_add all _ 0 j T0 o (f j) ho (vals_get hl) (by rw[Nat.zero_add];exact h1) (by rw[Nat.zero_add];exact h2) (fun k hk=>h3 k (by omega)) fun k hk hS t ht hd=>?_
 unfold dstAt at hd
 cases hok:all[k]? with
 | none=>rw[hok] at hd;cases hd
 | some ok =>
  rw[hok] at hd
  exact h4 k ok hk (by rw[Nat.zero_add] at hS;exact hS) hok t ht hd
theorem sameAt_spec {H H' : Heap}:∀{l:List Nat},sameAt H H' l→∀i∈l,getO H' i=getO H i
 | [],_,i,h=>by simp at h
 | j::l,hs,i,h=>by
  rcases List.mem_cons.1 h with rfl | h
  ·exact hs.1
  ·exact sameAt_spec hs.2 i h
theorem agreeK_spec {keep:List Nat} {H H' : Heap}:∀{rd:List (Nat×List Nat)},agreeK keep H H' rd→∀e∈rd,keep.contains e.1=true→∀i∈e.2,getO H' i=getO H i
 | [],_,e,h=>by simp at h
 | a::rd,hs,e,h=>by
  rcases List.mem_cons.1 h with rfl | h
  ·intro hk
   have h1:=hs.1
   rw[hk] at h1
   exact sameAt_spec h1
  ·exact agreeK_spec hs.2 e h
theorem nmed_ids {x:HV} {i:Nat} (h:nmed i x):i∈idsV x:=by
 cases x <;> simp only[nmed] at h <;> simp[idsV,h]
theorem CertO_ids {T:Nat→HV} {H H' : Heap} {op:Op} {x:HV} (hn:noCall op=true) (hs:∀i∈idsO T op,getO H' i=getO H i) (hc:CertO P T H op x):CertO P T H' op x:=by
 rcases hc with ⟨p,H0,hp,hr⟩ | ⟨f,args,tys,fid,caps,n,R,args',rfl,_⟩ | ⟨rv,name,args,tys,t,y,fid,n,R,args',rfl,_⟩ | ⟨t,len,parts,p,H0,rfl,hp,hr⟩
 ·have hR:RRel (ropQ P T H op) (ropQ P T H' op):=by
   by_cases hi:indep op=true
   ·exact ropQ_indep hi
   ·refine ropQ_agr fun y hy id hid ob ho=>?_
    have:id∈idsO T op:=by
     unfold idsO
     rw[if_neg hi]
     split
     ·unfold ropQ at hr;cases hr
     ·exact List.mem_flatMap.2 ⟨y,hy,nmed_ids hid⟩
    rw[hs id this];exact ho
  obtain ⟨p',H0',hp',hr'⟩:=hR p x H0 hp hr
  exact .inl ⟨p',H0',hp',hr'⟩
 ·simp[noCall] at hn
 ·simp[noCall] at hn
 ·exact .inr (.inr (.inr ⟨t,len,parts,p,H',rfl,hp,rbuildSliceF_congr (fun _ _=>rfl) hr⟩))
theorem CertG_ids {T:Nat→HV} {H H' : Heap} {o:Oper} {x:HV} (hn:noCall o.op=true) (hs:∀i∈idsO T o.op,getO H' i=getO H i) (hc:CertG P all T H o x):CertG P all T H' o x:=by
 unfold CertG at hc⊢
 split at hc
 ·exact CertO_ids hn hs hc
 ·obtain ⟨t,ht,⟨c,h1,h2,h3⟩ | hc⟩:=hc
  ·exact ⟨t,ht,.inl ⟨c,h1,fun e=>CertO_ids hn hs (h2 e),h3⟩⟩
  ·exact ⟨t,ht,.inr hc⟩
theorem idsO_congr {T T' : Nat→HV} {op:Op} (h:∀y∈op.operands.toList,hev T y=hev T' y):idsO T op=idsO T' op:=by
 unfold idsO
 split
 ·rfl
 ·split
  ·rfl
  ·have:∀(l:List Operand),(∀y∈l,hev T y=hev T' y)→l.flatMap (fun y=>idsV (hev T y))=l.flatMap fun y=>idsV (hev T' y):=by
    intro l
    induction l with
    | nil=>intro _;rfl
    | cons a l ih =>
     intro h
     simp only[List.flatMap_cons]
     rw[h a (by simp),ih fun y hy=>h y (by simp[hy])]
   exact this _ h
def shiftK (T T' : Nat→HV) (d:Option Nat) (kk:KS):KS:=fun T1 H1=>∃x,T1=updO T' d x∧kk (updO T d x) H1
theorem exO_shift {kk:KS} {d:Option Nat} {op:Op} {T T' : Nat→HV} {H:Heap} (h:∀y∈op.operands.toList,hev T y=hev T' y) (hx:exO (fun _=>kk) P all d op [] [] T H):exO (fun _=>shiftK T T' d kk) P all d op [] [] T' H:=by
 unfold exO at hx⊢
 split at hx
 ·rename_i f args tys
  have e1:=h f (by simp[Op.operands,Call.operands])
  have e2:args.toList.map (hev T)=args.toList.map (hev T'):=hevs_congr fun x hx=>h x (by simp[Op.operands,Call.operands];exact .inr (by simpa using hx))
  rw[←e1,←e2]
  unfold exCall at hx⊢
  split at hx
  ·obtain ⟨Q,h1,h2⟩:=hx
   exact ⟨Q,h1,fun x H' hq hl=>⟨_,rfl,h2 x H' hq hl⟩⟩
  ·obtain ⟨Kb,h1,h2⟩:=hx
   exact ⟨Kb,h1,fun b H' hq hl=>⟨_,rfl,h2 b H' hq hl⟩⟩
  ·exact hx.elim
 ·rename_i rv name args tys
  have e1:=h rv (by simp[Op.operands,Call.operands])
  have e2:args.toList.map (hev T)=args.toList.map (hev T'):=hevs_congr fun x hx=>h x (by simp[Op.operands,Call.operands];exact .inr (by simpa using hx))
  rw[←e1,←e2]
  unfold exInv at hx⊢
  split at hx
  ·unfold exInv2 at hx⊢
   split at hx
   ·obtain ⟨Q,h1,h2⟩:=hx
    exact ⟨Q,h1,fun x H' hq hl=>⟨_,rfl,h2 x H' hq hl⟩⟩
   ·exact hx.elim
  ·exact hx.elim
 ·unfold exR at hx⊢
  rw[←rop_congr h]
  cases hr:rop P T H op with
  | none=>rw[hr] at hx;exact hx.elim
  | some q =>
   obtain ⟨p,x,H'⟩:=q
   rw[hr] at hx
   exact ⟨hx.1,x,rfl,hx.2⟩
theorem exG_shift {kk:KS} {o:Oper} {T T' : Nat→HV} {H:Heap} (h:∀t∈seenT all o,T t=T' t) (hx:exG (fun _=>kk) P all o [] [] T H):exG (fun _=>shiftK T T' o.dst kk) P all o [] [] T' H:=by
 have hv:=seen_hev h
 unfold exG at hx⊢
 split at hx
 ·exact exO_shift hv hx
 ·rename_i j b hg
  unfold exB at hx⊢
  split at hx
  ·rename_i t ht
   have e:T t=T' t:=h t (by unfold seenT;rw[hg];simp[ht])
   rw[←e]
   unfold exB2 at hx⊢
   split at hx
   ·exact ⟨fun hc=>exO_shift hv (hx.1 hc),fun hc=>⟨_,rfl,hx.2 hc⟩⟩
   ·exact ⟨_,rfl,hx⟩
   ·exact hx.elim
  ·exact hx.elim
end
section
variable {P:Program} {N L B mm:Nat} {all:List Oper} {Z:Nat→Prop} {G:List (Option OG)} {FP:Nat→List Nat} {ds:List Nat} {T:Nat→HV} {H:Heap} {a:Act} {w:World} {ro:Option Nat}
theorem exO_HO {kk:KS} {o:Oper} (hok:operOk N o=true) (hn:noDefer o=true) (h:exO (fun _=>kk) P all o.dst o.op [] [] T H):HO P N L o T H kk:=by
 have hnd:=noDefer_spec hn
 have hdst:∀i,o.dst=some i→i<N:=fun i hi=>by
  have:=hok;simp only[operOk,dstOk,hi,Bool.and_eq_true,decide_eq_true_eq] at this;exact this.1
 unfold exO at h
 split at h
 ·rename_i f args tys hop
  unfold exCall at h
  split at h
  ·rename_i fid caps hf
   obtain ⟨Q',hc,hk⟩:=h
   exact HO_call (K:=kk) hop hok hf hc hk
  ·rename_i id hf
   obtain ⟨Kb,hc,hk⟩:=h
   exact HO_yield (K:=kk) hop hok hf hc hk
  ·exact h.elim
 ·rename_i rv name args tys hop
  unfold exInv at h
  split at h
  ·rename_i t x hf
   unfold exInv2 at h
   split at h
   ·rename_i fid hm
    obtain ⟨Q',hc,hk⟩:=h
    exact HO_invoke (K:=kk) hop hok hf hm hc hk
   ·exact h.elim
  ·exact h.elim
 ·exact HO_of_HR (K:=kk) hnd hdst (HR_rop hok h)
theorem exG_run {kk:KS} {j:Nat} {o:Oper} {K:Act→World→Prop} {Q' : Exit→Act→World→Prop} (hall:all.all (dstOk N)=true) (hj:all[j]?=some o) (hok:operOk N o=true) (hn:noDefer o=true) (h:exG (fun _=>kk) P all o [] [] T H)
  (hs:St N B Z G FP ds T H a w) (hB:Bo ro B FP w) (hL:L≤G.length)
  (hK:∀T' H' Z' G' FP' a' w',kk T' H'→St N B Z' G' FP' ds T' H' a' w'→GLt L G G'→Evo Z FP w Z' FP' w'→K a' w'):wpOpIn (Wd ro) mm P all.toArray Q' j K a w:=by
 have hdst:∀i,o.dst=some i→i<N:=fun i hi=>by
  have:=hok;simp only[operOk,dstOk,hi,Bool.and_eq_true,decide_eq_true_eq] at this;exact this.1
 have run:exO (fun _=>kk) P all o.dst o.op [] [] T H→o.wpIn (Wd ro) mm P a w K Q':=fun hM=>by
  refine exO_HO (L:=L) hok hn hM ro mm B Z G FP ds a w hB hL hs K Q' ?_
  rintro a' w' ⟨T2,H2,Z',G',FP',hk,hs',hG',hE'⟩
  exact hK T2 H2 Z' G' FP' a' w' hk hs' hG' hE'
 have noRun:kk (updO T o.dst (.v undef)) H→K (a.put o.dst undef) w:=fun hk =>
  hK _ _ _ _ _ _ _ hk (hs.drop o.dst hdst) (GLt.refl hL) (Evo.refl _ _ _)
 unfold wpOpIn
 rw[List.getElem?_toArray,hj]
 dsimp only
 unfold exG at h
 split at h
 ·rename_i hg
  simp only[Region.wanted,hg,if_true]
  exact run h
 ·rename_i k b hg
  unfold exB at h
  split at h
  ·rename_i t ht
   unfold exB2 at h
   split at h
   ·rename_i c h1
    have hy:yielded all.toArray a.tmps k=some c:=hs.yields hall (by rw[dstAt_gval ht];exact h1)
    have hw:Region.wanted o (yielded all.toArray a.tmps)=(c == b):=by
     simp only[Region.wanted,hg,hy]
     cases c <;> cases b <;> rfl
    rw[hw]
    by_cases hcb:c=b
    ·rw[if_pos (by simp[hcb])]
     exact run (h.1 hcb)
    ·have hc:c=(!b):=by cases c <;> cases b <;> simp_all
     rw[if_neg (by simp[hcb])]
     exact ⟨fun _ _=>trivial,noRun (h.2 hc)⟩
   ·rename_i ts h1
    have hy:yielded all.toArray a.tmps k=none:=hs.yieldsNo hall (by rw[dstAt_gval ht];exact h1)
    have hw:Region.wanted o (yielded all.toArray a.tmps)=false:=by
     simp only[Region.wanted,hg,hy]
     cases b <;> rfl
    rw[hw,if_neg (by simp)]
    exact ⟨fun _ _=>trivial,noRun h⟩
   ·exact h.elim
  ·exact h.elim
end
section
variable {P:Program} {N L B mm:Nat} {all:List Oper} {K:KS} {T0:Nat→HV}
theorem dm_cons {i k:Nat} {Ls Ss:List Nat}:dm (i::Ls) Ss k=(k == i || dm Ls Ss k):=by
 simp only[dm,List.contains_cons,Bool.or_assoc]
theorem dm_cons' {i k:Nat} {Ls Ss:List Nat}:dm Ls (i::Ss) k=(k == i || dm Ls Ss k):=by
 simp only[dm,List.contains_cons]
 cases (k == i) <;> cases Ls.contains k <;> simp
structure NodeI (P:Program) (N:Nat) (all:List Oper) (K:KS) (T0:Nat→HV) (p:Plan) (Ls Ss:List Nat) (rd:List (Nat×List Nat)) (f:Nat→HV) (T:Nat→HV) (H:Heap) (lst:Nat→Bool):Prop where
 chk:p.chk all (befs all []) Ls Ss []=true
 run:exT P all K p rd T H
 teq:T=tvS all (dm Ls Ss) f T0
 closed:∀i k,dm Ls Ss i=true→mustB (befs all []) k i=true→dm Ls Ss k=true
 lt:∀i,dm Ls Ss i=true→i<all.length
 sub:∀i,lst i=true→dm Ls Ss i=true
 hs:∀i,Ss.contains i=true→lst i=true
 cert:∀i,Ls.contains i=true→lst i=false→∃ids,(i,ids)∈rd∧∀o,all[i]?=some o→noCall o.op=true∧∀H',(∀id∈ids,getO H' id=getO H id)→CertG P all (tvS all (fun k=>mustB (befs all []) k i) f T0) H' o (f i)
def Plan.isLight:Plan→Bool
 | .light _ _=>true
 | _=>false
theorem range_all {n:Nat} {q:Nat→Bool} (h:(List.range n).all q=true) {i:Nat} (hi:i<n):q i=true:=List.all_eq_true.1 h i (List.mem_range.2 hi)
theorem seen_same {m:Nat} (hA:AnyOk N m all) {S:Nat→Bool} {f:Nat→HV} {i:Nat} {o:Oper} (ho:all[i]?=some o) (h1:∀k,mustB (befs all []) k i=true→S k=true) (h2:S i=false) (h3:∀k,S k=true→mustB (befs all []) i k=true→S i=true) (hS:∀k,S k=true→k<all.length) :
  ∀t∈seenT all o,tvS all (fun k=>mustB (befs all []) k i) f T0 t=tvS all S f T0 t:=by
 intro t ht
 have hil:=(List.getElem?_eq_some_iff.1 ho).1
 refine tvS_at fun j oj hoj hd=>?_
 have hjl:=(List.getElem?_eq_some_iff.1 hoj).1
 rcases Nat.lt_trichotomy j i with h | h | h
 ·have hm:=hA.ord j i oj o h hoj ho (.inr (by simp[confB,hd,ht]))
  rw[hm,h1 j hm]
 ·subst h
  rw[h2]
  cases hx:mustB (befs all []) j j with
  | false=>rfl
  | true=>have:=must_lt hA j j hil hx;omega
 ·have e1:mustB (befs all []) j i=false:=by
   cases hx:mustB (befs all []) j i with
   | false=>rfl
   | true=>have:=must_lt hA i j hil hx;omega
  have e2:S j=false:=by
   cases hx:S j with
   | false=>rfl
   | true =>
    have:=h3 j hx (hA.ord i j o oj h ho hoj (.inr (by unfold confB;rw[hd];simp[ht])))
    rw[h2] at this;cases this
  rw[e1,e2]
theorem add_dst {m:Nat} (hA:AnyOk N m all) {S:Nat→Bool} {i:Nat} {o:Oper} (ho:all[i]?=some o) (h2:S i=false) (h3:∀k,S k=true→mustB (befs all []) i k=true→S i=true) :
  ∀(k:Nat) ok,i<k→S k=true→all[k]?=some ok→∀t,o.dst=some t→ok.dst≠some t:=by
 intro k ok hik hS hok t ht hd
 have:=h3 k hS (hA.ord i k o ok hik ho hok (.inr (by unfold confB;rw[ht];simp[hd])))
 rw[h2] at this;cases this
theorem settle {m:Nat} (hA:AnyOk N m all) {H:Heap} {lst:Nat→Bool} {Ss:List Nat}:∀(p:Plan) (Ls:List Nat) (rd:List (Nat×List Nat)) (f:Nat→HV) (T:Nat→HV),NodeI P N all K T0 p Ls Ss rd f T H lst→
  ∃p' Ls' rd' f' T',NodeI P N all K T0 p' Ls' Ss rd' f' T' H lst∧p'.isLight=false∧∀k,dm Ls Ss k=true→f' k=f k
 | .leaf,Ls,rd,f,T,h=>⟨_,_,_,_,_,h,rfl,fun _ _=>rfl⟩
 | .stop,Ls,rd,f,T,h=>⟨_,_,_,_,_,h,rfl,fun _ _=>rfl⟩
 | .heavy ..,Ls,rd,f,T,h=>⟨_,_,_,_,_,h,rfl,fun _ _=>rfl⟩
 | .light i p,Ls,rd,f,T,h=>by
  have hc:=h.chk
  simp only[Plan.chk,Bool.and_eq_true,decide_eq_true_eq,Bool.not_eq_true'] at hc
  obtain ⟨⟨⟨⟨⟨_,hil⟩,hnd⟩,hcf⟩,hpre⟩,hp⟩:=hc
  have ho:all[i]?=some all[i]:=List.getElem?_eq_getElem hil
  generalize all[i]=o at ho
  have hno:noCall o.op=true:=by unfold callFree at hcf;rw[ho] at hcf;exact hcf
  have hpre' : ∀k,mustB (befs all []) k i=true→dm Ls Ss k=true:=fun k hk=>by
   have hkl:=must_lt hA i k hil hk
   have:=range_all hpre (i:=k) (by omega)
   simpa [hk] using this
  have hr:=h.run
  simp only[exT,nthO_eq,ho,atO,withI] at hr
  obtain ⟨x,hcert,hk⟩:=exGq_cert (k:=fun _ T' _=>exT P all K p ((i,idsO T o.op)::rd) T' H) hr
  have hcl:∀k,dm Ls Ss k=true→mustB (befs all []) i k=true→dm Ls Ss i=true:=fun k h1 h2=>h.closed k i h1 h2
  let f1:Nat→HV:=fun k=>if k=i then x else f k
  have f1i:f1 i=x:=if_pos rfl
  have f1n:∀k,dm Ls Ss k=true→f k=f1 k:=fun k hk=>by
   have:k≠i:=fun e=>by rw[e,hnd] at hk;cases hk
   exact (if_neg this).symm
  have hT1:T=tvS all (dm Ls Ss) f1 T0:=h.teq.trans (tvS_f fun j _ hj=>f1n j hj)
  have hsee:=seen_same (T0:=T0) (f:=f1) hA ho hpre' hnd hcl h.lt
  have new:NodeI P N all K T0 p (i::Ls) Ss ((i,idsO T o.op)::rd) f1 (updO T o.dst x) H lst:=by
   refine ⟨hp,hk,?_,fun a k ha hm=>?_,fun a ha=>?_,fun a ha=>?_,h.hs,fun a ha hl=>?_⟩
   ·rw[hT1,←f1i]
    exact (tvS_add ho (by rw[dm_cons];simp) hnd (fun k hk=>by rw[dm_cons];simp[hk]) (add_dst hA ho hnd hcl)).symm
   ·rw[dm_cons] at ha⊢
    simp only[Bool.or_eq_true,beq_iff_eq] at ha⊢
    rcases ha with rfl | ha
    ·exact .inr (hpre' k hm)
    ·exact .inr (h.closed a k ha hm)
   ·rw[dm_cons] at ha
    simp only[Bool.or_eq_true,beq_iff_eq] at ha
    rcases ha with rfl | ha
    ·exact hil
    ·exact h.lt a ha
   ·rw[dm_cons,h.sub a ha];simp
   ·by_cases e:a=i
    ·subst e
     refine ⟨_,List.mem_cons_self,fun o' ho'=>?_⟩
     rw[ho] at ho';cases ho'
     refine ⟨hno,fun H' hH'=>?_⟩
     rw[f1i]
     refine CertG_ids (H:=H) hno (fun id hid=>hH' id ?_) ?_
     ·rw[idsO_congr (T':=T) (seen_hev fun t ht=>by rw[hT1];exact hsee t ht)] at hid
      exact hid
     ·refine CertG_congr (T:=T) (fun t ht=>?_) hcert
      rw[hT1];exact (hsee t ht).symm
    ·have ha' : Ls.contains a=true:=by
      simp only[List.contains_cons,Bool.or_eq_true,beq_iff_eq] at ha
      exact ha.resolve_left e
     obtain ⟨ids,h1,h2⟩:=h.cert a ha' hl
     refine ⟨ids,List.mem_cons_of_mem _ h1,fun o' ho'=>⟨(h2 o' ho').1,fun H' hH'=>?_⟩⟩
     have hda:dm Ls Ss a=true:=by unfold dm;rw[ha'];rfl
     have:=(h2 o' ho').2 H' hH'
     rw[f1n a hda] at this
     rw[tvS_f (f':=f1) fun j _ hj=>f1n j (h.closed a j hda hj)] at this
     exact this
  obtain ⟨p',Ls',rd',f',T',h1,h2,h3⟩:=settle hA p (i::Ls) _ f1 _ new
  exact ⟨p',Ls',rd',f',T',h1,h2,fun k hk=>(h3 k (by rw[dm_cons,hk];simp)).trans (f1n k hk).symm⟩
theorem alts_spec {H:Heap} {Ls Ss:List Nat} {rd:List (Nat×List Nat)} {T:Nat→HV} {j:Nat} (hj:j<all.length) (hd:dm Ls Ss j=false) (hpre:∀k,mustB (befs all []) k j=true→dm Ls Ss k=true) :
  ∀(p:Plan) (alts:List Nat),p.chk all (befs all []) Ls Ss alts=true→(p.isLight=false∨alts≠[])→exT P all K p rd T H→
  alts.contains j=true∨∃keep p',p'.chk all (befs all []) Ls (j::Ss) []=true∧(Ls.all fun i=>mustB (befs all []) i j || keep.contains i)=true∧∃o,all[j]?=some o∧exG (fun _ T' H'=>agreeK keep H H' rd∧exT P all K p' rd T' H') P all o [] [] T H
 | .leaf,alts,hc,_,_=>by
  simp only[Plan.chk,Bool.and_eq_true] at hc
  have:=range_all hc.2 hj
  rw[hd] at this;cases this
 | .stop,alts,hc,_,_=>by
  simp only[Plan.chk,Bool.and_eq_true] at hc
  have:=range_all hc.2 hj
  rw[hd] at this
  simp only[Bool.false_or,Bool.or_eq_true] at this
  rcases this with h | h
  ·exact .inl h
  ·obtain ⟨k,_,hk⟩:=List.any_eq_true.1 h
   simp only[Bool.and_eq_true,Bool.not_eq_true'] at hk
   have:=hpre k hk.2
   rw[hk.1] at this;cases this
 | .light i p,alts,hc,hl,_=>by
  simp only[Plan.chk,Bool.and_eq_true] at hc
  rcases hl with hl | hl
  ·cases hl
  ·have:=hc.1.1.1.1.1
   exact absurd (List.isEmpty_iff.1 this) hl
 | .heavy i keep p q,alts,hc,_,hx=>by
  simp only[Plan.chk,Bool.and_eq_true,decide_eq_true_eq] at hc
  obtain ⟨⟨⟨⟨⟨h1,h2⟩,h3⟩,h4⟩,h5⟩,h6⟩:=hc
  obtain ⟨hx1,hx2⟩:=hx
  by_cases e:i=j
  ·subst e
   have ho:all[i]?=some all[i]:=List.getElem?_eq_getElem h1
   rw[nthO_eq,ho] at hx1
   exact .inr ⟨keep,p,h5,h4,_,ho,hx1⟩
  ·rcases alts_spec hj hd hpre q (i::alts) h6 (.inr (by simp)) hx2 with h | h
   ·simp only[List.contains_cons,Bool.or_eq_true,beq_iff_eq] at h
    rcases h with h | h
    ·exact absurd h.symm e
    ·exact .inl h
   ·exact .inr h
theorem any_tree {m:Nat} {ro:Option Nat} {Φ:Exit→Act→World→Prop} (hA:AnyOk N m all) {Z0:Nat→Prop} {G0:List (Option OG)} {FP0:Nat→List Nat} {ds:List Nat} {w0:World}
  (hB:∀Z FP w,Evo Z0 FP0 w0 Z FP w→Bo ro B FP w)
  (hend:∀T H Z G FP a w,K T H→St N B Z G FP ds T H a w→GLt L G0 G→Evo Z0 FP0 w0 Z FP w→Φ .normal a w) :
  ∀(fuel:Nat) (listed:Array Bool) (p:Plan) (Ls Ss:List Nat) (rd:List (Nat×List Nat)) (f:Nat→HV) (T:Nat→HV) (H:Heap) (Z:Nat→Prop) (G:List (Option OG)) (FP:Nat→List Nat) (a:Act) (w:World),
  listed.size=all.length→left listed≤fuel→Closed all listed→NodeI P N all K T0 p Ls Ss rd f T H (fun k=>listed.getD k false)→
  St N B Z G FP ds (tvS all (fun k=>listed.getD k false) f T0) H a w→GLt L G0 G→Evo Z0 FP0 w0 Z FP w→wpAnyIn (Wd ro) mm P .any all.toArray Φ fuel listed a w:=by
 have hdall:all.all (dstOk N)=true:=by
  rw[List.all_eq_true]
  intro o' ho'
  obtain ⟨j',hj'⟩:=List.mem_iff_getElem?.1 ho'
  have:=(hA.ok j' o' hj').1
  simp only[operOk,Bool.and_eq_true] at this
  exact this.1
 have fin:∀(listed:Array Bool) (p:Plan) (Ls Ss:List Nat) (rd:List (Nat×List Nat)) (f:Nat→HV) (T:Nat→HV) (H:Heap) (Z:Nat→Prop) (G:List (Option OG)) (FP:Nat→List Nat) (a:Act) (w:World),
   (∀k,k<all.length→listed.getD k false=true)→p.isLight=false→NodeI P N all K T0 p Ls Ss rd f T H (fun k=>listed.getD k false)→
   St N B Z G FP ds (tvS all (fun k=>listed.getD k false) f T0) H a w→GLt L G0 G→Evo Z0 FP0 w0 Z FP w→Φ .normal a w:=by
  intro listed p Ls Ss rd f T H Z G FP a w hall hpl hN hs hG hE
  have hT:tvS all (fun k=>listed.getD k false) f T0=T:=by
   rw[hN.teq]
   funext t
   refine tvS_at fun j o ho hd=>?_
   have h1:=hall j (List.getElem?_eq_some_iff.1 ho).1
   rw[h1,hN.sub j h1]
  rw[hT] at hs
  have hc:=hN.chk
  have hr:=hN.run
  cases p with
  | leaf=>exact hend T H Z G FP a w hr hs hG hE
  | stop=>simp[Plan.chk] at hc
  | light i p=>cases hpl
  | heavy j keep p q =>
   simp only[Plan.chk,Bool.and_eq_true,decide_eq_true_eq,Bool.not_eq_true'] at hc
   have h1:=hc.1.1.1.1.1
   have h2:=hN.sub j (hall j h1)
   rw[hc.1.1.1.1.2] at h2;cases h2
 intro fuel
 induction fuel with
 | zero =>
  intro listed p Ls Ss rd f T H Z G FP a w hsz hf hc hN hs hG hE
  obtain ⟨p',Ls',rd',f',T',hN',hpl,hff⟩:=settle hA p Ls rd f T hN
  rw[tvS_f (f':=f') fun j _ hj=>(hff j (hN.sub j hj)).symm] at hs
  have hall:=left_zero (Nat.le_zero.1 hf)
  refine ⟨?_,fin listed p' Ls' Ss rd' f' T' H Z G FP a w (fun k hk=>hall k (by omega)) hpl hN' hs hG hE⟩
  rw[List.eq_nil_iff_forall_not_mem]
  intro i hi
  obtain ⟨h1,o,ho,_⟩:=mem_ready.1 hi
  rw[List.getElem?_toArray] at ho
  have hi':=(List.getElem?_eq_some_iff.1 ho).1
  have h2:=hall i (by omega)
  rw[Array.getD_eq_getD_getElem?,not_listed h1] at h2
  simp at h2
 | succ fuel ih =>
  intro listed p Ls Ss rd f T H Z G FP a w hsz hf hc hN hs hG hE
  obtain ⟨p',Ls',rd',f',T',hN',hpl,hff⟩:=settle hA p Ls rd f T hN
  rw[tvS_f (f':=f') fun j _ hj=>(hff j (hN.sub j hj)).symm] at hs
  clear hN
  refine ⟨fun h0=>?_,fun i hi=>?_⟩
  ·refine fin listed p' Ls' Ss rd' f' T' H Z G FP a w (fun k hk=>?_) hpl hN' hs hG hE
   cases hx:listed.getD k false with
   | true=>rfl
   | false =>
    obtain ⟨k',⟨h1,h2⟩,h3⟩:=exists_least (p:=fun k=>k<all.length∧listed.getD k false=false) ⟨k,hk,hx⟩
    have:=ready_least hA hsz h1 h2 (fun j hj=>by
     cases hx:listed.getD j false with
     | true=>rfl
     | false=>have:=h3 j ⟨by omega,hx⟩;omega)
    rw[h0] at this;simp at this
  obtain ⟨h1,o,ho,ha⟩:=mem_ready.1 hi
  rw[List.getElem?_toArray] at ho
  have hil:=(List.getElem?_eq_some_iff.1 ho).1
  have hnl:=not_listed h1
  have hnf:listed.getD i false=false:=by rw[Array.getD_eq_getD_getElem?,hnl];rfl
  obtain ⟨hok,hnd⟩:=hA.ok i o ho
  have hadd:=left_add hnl
  have hcl2:=closed_add hc (fun o' ho' e he hb=>by rw[ho] at ho';cases ho';exact ha e (by simpa using he) hb)
  have hmust:∀k,mustB (befs all []) k i=true→listed.getD k false=true:=fun k hk=>ready_must hA hc hi hk
  have hlt:∀k,listed.getD k false=true→k<all.length:=fun k hk=>hN'.lt k (hN'.sub k hk)
  have hclm:∀k,listed.getD k false=true→mustB (befs all []) i k=true→listed.getD i false=true:=fun k hk hm=>by
   have hkl:=hlt k hk
   exact closed_must hA hc k i _ (List.getElem?_eq_getElem hkl) (hc k _ (List.getElem?_eq_getElem hkl) hk) hm
  have hset:∀k,(listed.setIfInBounds i true).getD k false=(k == i || listed.getD k false):=fun k=>by
   by_cases e:k=i
   ·subst e;rw[getD_set_self (by omega)];simp
   ·simp only[Array.getD_eq_getD_getElem?,Array.getElem?_setIfInBounds_ne (Ne.symm e)]
    simp[e]
  have hTadd:∀g:Nat→HV,tvS all (fun k=>(listed.setIfInBounds i true).getD k false) g T0=updO (tvS all (fun k=>listed.getD k false) g T0) o.dst (g i):=fun g =>
   tvS_add ho (by rw[hset];simp) hnf (fun k hk=>by rw[hset];simp[hk]) (add_dst hA ho hnf hclm)
  by_cases hdi:dm Ls' Ss i=true
  ·
   have hiL:Ls'.contains i=true:=by
    unfold dm at hdi
    rcases Bool.or_eq_true_iff.1 hdi with h | h
    ·exact h
    ·have:listed.getD i false=true:=hN'.hs i h
     rw[hnf] at this;cases this
   obtain ⟨ids,_,h2⟩:=hN'.cert i hiL hnf
   obtain ⟨_,h3⟩:=h2 o ho
   have hcert:=h3 H (fun _ _=>rfl)
   have hsee:=seen_same (T0:=T0) (f:=f') hA ho hmust hnf hclm hlt
   refine certG_run hdall ho hok hnd (CertG_congr hsee hcert) hs fun Z' G' FP' a' w' hs2 hG' hE'=>?_
   refine ih (listed.setIfInBounds i true) p' Ls' Ss rd' f' T' H Z' G' FP' a' w' (by simpa using hsz) (by omega) hcl2 ?_ (by rw[hTadd];exact hs2) (hG.trans (GLt.of hG.len hG')) (hE.trans hE')
   refine ⟨hN'.chk,hN'.run,hN'.teq,hN'.closed,hN'.lt,fun k hk=>?_,fun k hk=>?_,fun k hk hl=>?_⟩
   ·rw[hset] at hk
    simp only[Bool.or_eq_true,beq_iff_eq] at hk
    rcases hk with rfl | hk
    ·exact hdi
    ·exact hN'.sub k hk
   ·rw[hset,hN'.hs k hk];simp
   ·rw[hset] at hl
    exact hN'.cert k hk (Bool.or_eq_false_iff.1 hl).2
  ·
   have hdi:dm Ls' Ss i=false:=by simpa using hdi
   have hpre:∀k,mustB (befs all []) k i=true→dm Ls' Ss k=true:=fun k hk=>hN'.sub k (hmust k hk)
   rcases alts_spec hil hdi hpre p' [] hN'.chk (.inl hpl) hN'.run with h | ⟨keep,p2,hc2,hk2,o',ho',hx⟩
   ·simp at h
   rw[ho] at ho';cases ho'
   have hcl:∀k,dm Ls' Ss k=true→mustB (befs all []) i k=true→dm Ls' Ss i=true:=fun k h1 h2=>hN'.closed k i h1 h2
   have hsee:∀t∈seenT all o,T' t=tvS all (fun k=>listed.getD k false) f' T0 t:=fun t ht=>by
    rw[hN'.teq,←seen_same (T0:=T0) (f:=f') hA ho hpre hdi hcl hN'.lt t ht]
    exact seen_same (T0:=T0) (f:=f') hA ho hmust hnf hclm hlt t ht
   refine exG_run (L:=L) hdall ho hok hnd (exG_shift hsee hx) hs (hB Z FP w hE) hG.len fun T2 H2 Z' G' FP' a' w' hkk hs2 hG' hE'=>?_
   obtain ⟨x,rfl,hag,hrun⟩:=hkk
   let f1:Nat→HV:=fun k=>if k=i then x else f' k
   have f1i:f1 i=x:=if_pos rfl
   have f1n:∀k,dm Ls' Ss k=true→f' k=f1 k:=fun k hk=>by
    have:k≠i:=fun e=>by rw[e,hdi] at hk;cases hk
    exact (if_neg this).symm
   refine ih (listed.setIfInBounds i true) p2 Ls' (i::Ss) rd' f1 (updO T' o.dst x) H2 Z' G' FP' a' w' (by simpa using hsz) (by omega) hcl2 ?_ ?_ (hG.trans hG') (hE.trans hE')
   ·refine ⟨hc2,hrun,?_,fun a k ha hm=>?_,fun a ha=>?_,fun a ha=>?_,fun a ha=>?_,fun a ha hl=>?_⟩
    ·rw[hN'.teq,tvS_f (f':=f1) fun j _ hj=>f1n j hj,←f1i]
     exact (tvS_add ho (by rw[dm_cons'];simp) hdi (fun k hk=>by rw[dm_cons'];simp[hk]) (add_dst hA ho hdi hcl)).symm
    ·rw[dm_cons'] at ha⊢
     simp only[Bool.or_eq_true,beq_iff_eq] at ha⊢
     rcases ha with rfl | ha
     ·exact .inr (hpre k hm)
     ·exact .inr (hN'.closed a k ha hm)
    ·rw[dm_cons'] at ha
     simp only[Bool.or_eq_true,beq_iff_eq] at ha
     rcases ha with rfl | ha
     ·exact hil
     ·exact hN'.lt a ha
    ·rw[hset] at ha
     rw[dm_cons']
     simp only[Bool.or_eq_true,beq_iff_eq] at ha⊢
     exact ha.imp id fun ha=>hN'.sub a ha
    ·rw[hset]
     simp only[List.contains_cons,Bool.or_eq_true,beq_iff_eq] at ha⊢
     exact ha.imp id fun ha=>hN'.hs a ha
    ·rw[hset] at hl
     obtain ⟨e,hl⟩:=Bool.or_eq_false_iff.1 hl
     have hda:dm Ls' Ss a=true:=by unfold dm;rw[ha];rfl
     obtain ⟨ids,h1,h2⟩:=hN'.cert a ha hl
     refine ⟨ids,h1,fun o' ho'=>⟨(h2 o' ho').1,fun H' hH'=>?_⟩⟩
     have hka:keep.contains a=true:=by
      have:=List.all_eq_true.1 hk2 a (by simpa using ha)
      rcases Bool.or_eq_true_iff.1 this with hm | hk
      ·have:=hmust a hm
       rw[hl] at this;cases this
      ·exact hk
     have:=(h2 o' ho').2 H' (fun id hid=>(hH' id hid).trans (agreeK_spec hag _ h1 hka id hid))
     rw[f1n a hda] at this
     rw[tvS_f (f':=f1) fun j _ hj=>f1n j (hN'.closed a j hda hj)] at this
     exact this
   ·rw[hTadd,f1i,←tvS_f (f:=f') fun j _ hj=>f1n j (hN'.sub j hj)]
    exact hs2
theorem HW.tree {id:Nat} {Q:Exit→KS} {T:Nat→HV} {H:Heap} (n:Nat) (p:Plan) (hm:P.follows .mixedOrders=true) (hB:anyB N all.length all=true) (hp:p.chk all (befs all []) [] [] []=true)
  (h:exT P all (ex P N L Q n []) p [] T H):HW P N L (.region id all.toArray true) Q T H:=by
 intro ro mm B Z G FP ds a w hB' hL hst
 have hA:=anyB_spec hB
 have hEv:Evo Z FP w Z FP { w with drawn:=w.drawn+1 }:=⟨rfl,rfl,rfl,Nat.le_refl _,fun _ _ _=>rfl,fun _ h=>h,fun _ h=>.inl h,fun id b hb=>.inr ⟨id,hb⟩⟩
 have hi:HInv Z G FP H { w with drawn:=w.drawn+1 }:=hst.inv.keep (Nat.le_refl _) (fun _ _=>rfl)
 have hs':=hst.evo hi (GLe.refl _) hEv
 have hrep:∀k,(Array.replicate all.toArray.size false).getD k false=false:=fun k=>by
  simp only[Array.getD_eq_getD_getElem?]
  by_cases hlt:k<all.toArray.size
  ·rw[Array.getElem?_eq_getElem (by simpa using hlt)]
   simp
  ·rw[Array.getElem?_eq_none (by simpa using hlt)];rfl
 have e:∀g,tvS all (fun k=>(Array.replicate all.toArray.size false).getD k false) g T=T:=fun g=>by
  funext t
  unfold tvS
  rw[runM_no]
  intro j _
  exact hrep _
 have e2:∀g,tvS all (dm [] []) g T=T:=fun g=>by
  funext t
  unfold tvS
  rw[runM_no]
  intro j _
  rfl
 refine wpIn_region_any hm ?_
 refine any_tree (K:=ex P N L Q n []) (T0:=T) (B:=B) (L:=L) (Z0:=Z) (G0:=G) (FP0:=FP) (ds:=ds) (w0:=w) hA (fun Z' FP' w' hE=>hB'.evo hE) ?_ _ _ p [] [] [] (fun _=>.any) T H Z G FP _ _ (by simp) ?_ ?_ ?_ ?_ (GLt.refl hL) hEv
 ·intro T1 H1 Z1 G1 FP1 a1 w1 hK hs1 hG1 hE1
  exact ex_run n [] T1 H1 hK (by simp) ro mm B Z G FP w Z1 G1 FP1 ds a1 w1 (hB'.evo hE1) hs1 hG1 hE1
 ·have:∀k:Nat,left (Array.replicate k false)=k:=by intro k;simp[left]
  rw[this];simp
 ·intro j o hj hl
  rw[hrep] at hl;cases hl
 ·exact ⟨hp,h,(e2 _).symm,fun i k hi=>(by simp[dm] at hi),fun i hi=>(by simp[dm] at hi),fun i hi=>(by rw[hrep] at hi;cases hi),fun i hi=>(by simp at hi),fun i hi=>(by simp at hi)⟩
 ·rw[e];exact hs'
def onlyN (R:KS):Exit→KS
 | .normal=>R
 | _=>fun _ _=>False
theorem HW.treeI {id:Nat} {Q:Exit→KS} {T:Nat→HV} {H:Heap} (I:KS) (p:Plan) (hm:P.follows .mixedOrders=true) (hB:anyB N all.length all=true) (hp:p.chk all (befs all []) [] [] []=true)
  (h:exT P all (GQ N L I) p [] T H) (k:∀T H,I T H→Q .normal T H):HW P N L (.region id all.toArray true) Q T H:=by
 refine HW.weaken (Q':=onlyN (GQ N L I)) (HW.tree 1 p hm hB hp h) fun e T' H' hq=>?_
 cases e with
 | normal =>
  obtain ⟨T2,H2,g,hi⟩:=hq
  exact ⟨T2,H2,g,k _ _ hi⟩
 | _=>exact hq.elim
end
section
variable {P:Program} {all l:List Oper} {K:KS} {k:List Item→KS} {p q:Plan} {rd:List (Nat×List Nat)} {T:Nat→HV} {H H' : Heap} {i j:Nat} {keep:List Nat} {d:Option Nat} {r:List Item}
def contQ (P:Program) (all:List Oper) (K:KS) (p:Plan) (rd:List (Nat×List Nat)) (i:Nat) (ids:List Nat) (H:Heap):List Item→KS:=fun _ T' _=>exT P all K p ((i,ids)::rd) T' H
def contT (P:Program) (all:List Oper) (K:KS) (p:Plan) (rd:List (Nat×List Nat)) (keep:List Nat) (H:Heap):List Item→KS:=fun _ T' H'=>withH H' fun H'=>agreeK keep H H' rd∧exT P all K p rd T' H'
theorem contQ_at {ids:List Nat}:contQ P all K p rd i ids H r T H'=exT P all K p ((i,ids)::rd) T H:=rfl
theorem contT_at:contT P all K p rd keep H r T H'=withH H' fun H'=>agreeK keep H H' rd∧exT P all K p rd T H':=rfl
theorem exT_leaf:exT P all K .leaf rd T H=K T H:=rfl
theorem exT_stop:exT P all K .stop rd T H=True:=rfl
theorem exT_light:exT P all K (.light i p) rd T H=atO (nthO all i) fun o=>withI (idsO T o.op) fun ids=>exGq (contQ P all K p rd i ids H) P all o [] [] T H:=rfl
theorem exT_heavy1:exT P all K (.heavy j keep p .stop) rd T H=atO (nthO all j) fun o=>exG (contT P all K p rd keep H) P all o [] [] T H:=and_true _
theorem exT_heavy {j' : Nat} {keep' : List Nat} {p' q' : Plan}:exT P all K (.heavy j keep p (.heavy j' keep' p' q')) rd T H=((atO (nthO all j) fun o=>exG (contT P all K p rd keep H) P all o [] [] T H)∧exT P all K (.heavy j' keep' p' q') rd T H):=rfl
theorem nthO_zero {o:Oper}:nthO (o::l) 0=some o:=rfl
theorem nthO_succ {o:Oper} {i:Nat}:nthO (o::l) (i+1)=nthO l i:=rfl
theorem atO_some {o:Oper} {f:Oper→Prop}:atO (some o) f=f o:=rfl
theorem atO_congr {r r' : Option Oper} {f:Oper→Prop} (h:r=r'):atO r f=atO r' f:=by rw[h]
theorem withI_congr {a b:List Nat} {f:List Nat→Prop} (h:a=b):withI a f=withI b f:=by rw[h]
theorem withH_congr {f:Heap→Prop} (h:H=H'):withH H f=withH H' f:=by rw[h]
theorem withI_eq {a:List Nat} {f:List Nat→Prop}:withI a f=f a:=rfl
theorem withH_eq {f:Heap→Prop}:withH H f=f H:=rfl
theorem callX_congr2 {fid:Nat} {args args' : List HV} (hH:H=H') (ha:args=args'):callX k P fid H args all d l r T=callX k P fid H' args' all d l r T:=by rw[hH,ha]
theorem yieldX_congr2 {id:Nat} {args args' : List HV} (hH:H=H') (ha:args=args'):yieldX k P id H args all d l r T=yieldX k P id H' args' all d l r T:=by rw[hH,ha]
theorem exGq_none {op:Op} {ty:TypeId} {pos:String} {af:Array Edge}:exGq k P all ⟨d,op,ty,pos,af,none⟩ l r T H=exOq k P all d op l r T H:=rfl
theorem exGq_some {op:Op} {ty:TypeId} {pos:String} {af:Array Edge} {b:Bool}:exGq k P all ⟨d,op,ty,pos,af,some (i,b)⟩ l r T H=exBq k P (dstAt all i) b all d op l r T H:=rfl
theorem exG_none {op:Op} {ty:TypeId} {pos:String} {af:Array Edge}:exG k P all ⟨d,op,ty,pos,af,none⟩ l r T H=exO k P all d op l r T H:=rfl
theorem exG_some {op:Op} {ty:TypeId} {pos:String} {af:Array Edge} {b:Bool}:exG k P all ⟨d,op,ty,pos,af,some (i,b)⟩ l r T H=exB k P (dstAt all i) b all d op l r T H:=rfl
theorem sameAt_nil:sameAt H H' []=True:=rfl
theorem sameAt_cons {l:List Nat}:sameAt H H' (i::l)=(getO H' i=getO H i∧sameAt H H' l):=rfl
theorem agree1_true {ids:List Nat}:agree1 H H' ids true=sameAt H H' ids:=rfl
theorem agree1_false {ids:List Nat}:agree1 H H' ids false=True:=rfl
theorem agree1_congr {ids:List Nat} {b c:Bool} (h:b=c):agree1 H H' ids b=agree1 H H' ids c:=by rw[h]
theorem agreeK_nil:agreeK keep H H' []=True:=rfl
theorem agreeK_cons {e:Nat×List Nat}:agreeK keep H H' (e::rd)=(agree1 H H' e.2 (keep.contains e.1)∧agreeK keep H H' rd):=rfl
theorem agreeK_keep:agreeK [] H H' rd=True:=by
 induction rd with
 | nil=>rfl
 | cons e rd ih=>rw[agreeK_cons,ih];simp[agree1]
theorem idsO_buildSlice {t:TypeId} {len:Nat} {ps:Array (Nat×Operand)}:idsO T (.buildSlice t len ps)=[]:=rfl
theorem idsO_load {t:TypeId} {x:Operand}:idsO T (.load t x)=idsV (hev T x):=by simp[idsO,indep,Op.operands]
theorem idsO_nilCheck {x:Operand}:idsO T (.nilCheck x)=idsV (hev T x):=by simp[idsO,indep,Op.operands]
theorem idsO_convert {s t:TypeId} {x:Operand}:idsO T (.convert s t x)=idsV (hev T x):=by simp[idsO,indep,Op.operands]
theorem idsO_fieldAddr {t:TypeId} {x:Operand} {i:Nat}:idsO T (.fieldAddr t x i)=idsV (hev T x):=by simp[idsO,indep,Op.operands]
theorem idsO_indexAddr {t:TypeId} {x y:Operand}:idsO T (.indexAddr t x y)=idsV (hev T x)++idsV (hev T y):=by simp[idsO,indep,Op.operands]
theorem idsO_len {x:Operand} {t:TypeId}:idsO T (.call { callee:=.builtin .len,args:=#[x],argTypes:=#[t] })=idsV (hev T x):=by simp[idsO,indep,Op.operands,Call.operands]
theorem idsO_max {x y:Operand} {t u:TypeId}:idsO T (.call { callee:=.builtin .max,args:=#[x,y],argTypes:=#[t,u] })=idsV (hev T x)++idsV (hev T y):=by simp[idsO,indep,Op.operands,Call.operands]
theorem idsO_min {x y:Operand} {t u:TypeId}:idsO T (.call { callee:=.builtin .min,args:=#[x,y],argTypes:=#[t,u] })=idsV (hev T x)++idsV (hev T y):=by simp[idsO,indep,Op.operands,Call.operands]
theorem idsO_slice2 {x:Operand} {t:TypeId}:idsO T (.slice t x none none none)=idsV (hev T x):=by simp[idsO,indep,Op.operands]
theorem idsO_slice4 {x y:Operand} {t:TypeId}:idsO T (.slice t x (some y) none none)=idsV (hev T x)++idsV (hev T y):=by simp[idsO,indep,Op.operands]
theorem idsO_slice1 {x y z:Operand} {t:TypeId}:idsO T (.slice t x (some y) (some z) none)=idsV (hev T x)++(idsV (hev T y)++idsV (hev T z)):=by simp[idsO,indep,Op.operands]
theorem idsO_slice3 {x y:Operand} {t:TypeId}:idsO T (.slice t x none (some y) none)=idsV (hev T x)++idsV (hev T y):=by simp[idsO,indep,Op.operands]
theorem idsO_move {x:Operand}:idsO T (.move x)=[]:=rfl
theorem idsO_assign {x:Operand}:idsO T (.assign x)=[]:=rfl
theorem idsO_pick {x y z:Operand}:idsO T (.pick x y z)=[]:=rfl
theorem idsO_build {t:TypeId} {ps:Array (Nat×Operand)}:idsO T (.build t ps)=[]:=rfl
theorem idsO_bin {op:BinOp} {t t' : TypeId} {x y:Operand}:idsO T (.binOp op t x y t')=[]:=rfl
theorem idsO_un {op:UnOp} {t:TypeId} {x:Operand}:idsO T (.unOp op t x)=[]:=rfl
theorem idsO_iface {t:TypeId} {x:Operand}:idsO T (.makeInterface t x)=[]:=rfl
theorem idsO_func {f:Fn} {xs ys:Array Operand}:idsO T (.makeFunc f xs ys)=[]:=rfl
theorem idsO_field {t:TypeId} {x:Operand} {i:Nat}:idsO T (.field t x i)=[]:=rfl
theorem idsO_index {t:TypeId} {x i:Operand}:idsO T (.index t x i)=[]:=rfl
theorem idsO_extract {x:Operand} {i:Nat}:idsO T (.extract x i)=[]:=rfl
theorem idsV_hd {a b c:Nat}:idsV (.hd a b c)=[a]:=rfl
theorem idsV_pt {a b c e:Nat}:idsV (.pt a b c e)=[a]:=rfl
theorem idsV_v {x:Value}:idsV (.v x)=[]:=rfl
theorem idsV_sl {x:List (List HV)}:idsV (.sl x)=[]:=rfl
theorem idsV_fp {x:List (List HV)} {a b:Nat}:idsV (.fp x a b)=[]:=rfl
theorem idsV_fn {x:List HV} {a:Nat}:idsV (.fn a x)=[]:=rfl
theorem idsV_ic {x:HV} {a:Nat}:idsV (.ic a x)=[]:=rfl
theorem idsV_ag {x:List HV}:idsV (.ag x)=[]:=rfl
end
attribute [congr] atO_congr withI_congr withH_congr agree1_congr callX_congr2 yieldX_congr2
attribute [go_sem] withI_eq withH_eq sameAt_nil sameAt_cons agree1_true agree1_false idsV_hd idsV_pt idsV_v idsV_sl idsV_fp idsV_fn idsV_ic idsV_ag List.append_nil List.isEmpty_nil
attribute [go_sem ↓] contQ_at contT_at exT_leaf exT_stop exT_light exT_heavy1 exT_heavy nthO_zero nthO_succ atO_some exGq_none exGq_some exG_none exG_some agreeK_keep agreeK_nil agreeK_cons idsO_buildSlice idsO_load idsO_nilCheck idsO_convert idsO_fieldAddr idsO_indexAddr idsO_len idsO_max idsO_min idsO_slice1 idsO_slice2 idsO_slice3 idsO_slice4 idsO_move idsO_assign idsO_pick idsO_build idsO_bin idsO_un idsO_iface idsO_func idsO_field idsO_index idsO_extract
end Go.Proofs.YtmapdjdnnhlpiaaGreatDoor
namespace Go.Proofs.YtmapdjdnnhlpiaaGreatDoor
open Go.RowKit
set_option maxRecDepth 8000
def labsL (l:List LT):List (List UInt8):=(l.filter fun x=>decide (x.op=11)).map (·.lab)
theorem labsL_snoc (l:List LT) (x:LT):labsL (l++[x])=if x.op=11 then labsL l++[x.lab] else labsL l:=by
 unfold labsL
 by_cases h:x.op=11 <;> simp[h,List.filter_append]
theorem labsL_len (l:List LT):(labsL l).length≤l.length:=by
 unfold labsL
 rw[List.length_map]
 exact List.length_filter_le _ _
theorem labN_cons (s:List UInt8) (x:LT) (l:List LT):labN s (x::l)=(if x.op=11∧x.lab=s then 1 else 0)+labN s l:=by
 unfold labN
 by_cases h1:x.op=11 <;> by_cases h2:x.lab=s <;> simp[h1,h2] <;> omega
theorem labN_snoc (s:List UInt8) (x:LT) (l:List LT):labN s (l++[x])=labN s l+(if x.op=11∧x.lab=s then 1 else 0):=by
 unfold labN
 by_cases h1:x.op=11 <;> by_cases h2:x.lab=s <;> simp[h1,h2,List.filter_append]
theorem labN_labs (s:List UInt8):∀l:List LT,((labsL l).filter fun y=>decide (y=s)).length=labN s l
 | []=>rfl
 | x::l=>by
  have:=labN_labs s l
  rw[labN_cons,←this]
  unfold labsL
  by_cases h1:x.op=11 <;> by_cases h2:x.lab=s <;> simp[h1,h2] <;> omega
theorem getM_labs (s:List UInt8) (l:List LT):getM (foldC [] (labsL l)) s=labN s l:=by
 rw[getM_foldC,getM_nil',labN_labs];omega
theorem labN_le (s:List UInt8) (l:List LT):labN s l≤l.length:=List.length_filter_le _ _
theorem fenN_le (l:List LT):fenN l≤l.length:=List.length_filter_le _ _
theorem mrkN_le (l:List LT):mrkN l≤l.length:=List.length_filter_le _ _
theorem insN_le (l:List LT):insN l≤l.length:=List.length_filter_le _ _
theorem fenN_snoc (l:List LT) (x:LT):fenN (l++[x])=fenN l+if x.op=6 then 1 else 0:=by
 unfold fenN
 by_cases h:x.op=6 <;> simp[h,List.filter_append]
theorem mrkN_snoc (l:List LT) (x:LT):mrkN (l++[x])=mrkN l+if x.op=11 then 1 else 0:=by
 unfold mrkN
 by_cases h:x.op=11 <;> simp[h,List.filter_append]
theorem insN_snoc (l:List LT) (x:LT):insN (l++[x])=insN l+if x.op≠6∧x.op≠11 then 1 else 0:=by
 unfold insN
 by_cases h:x.op=6 <;> by_cases h2:x.op=11 <;> simp[h,h2,List.filter_append]
theorem fenB_snoc (l:List LT) (x:LT):fenB (l++[x])=decide (x.op=6):=by simp[fenB]
abbrev a3 (x y z:Int):HObj:=⟨131,3,[[.v (.int .i64 x),.v (.int .i64 y),.v (.int .i64 z)]]⟩
def thrO (t:Int) (l:List LT):Option (Int×Int×Int):=(thrE [] l).map fun p=>(t,(p.1:Int),p.2)
set_option maxHeartbeats 16000000 in
theorem validThread (t:Int) (l:List LT) (hl:l.length≤1000000):HFn Tryz.prog 64 [.v (.int .i64 t),.sl (lns l)] (wrO (thrO t l)):=by
 refine HCalls_body (fn:=Tryz.f64) 120 [4] (by kernel_rfl) rfl (by kernel_rfl) (HW.run 400 (by kernel_rfl) ?_)
 simp (config:={ decide:=true }) only[go_sem,Int.reduceToNat,Nat.reduceAdd,Nat.reduceSub,Nat.reduceMul,Nat.reduceBEq,reduceIte,reduceCtorEq]
 refine HW.loopG (fun k T H=>∃(i:Nat),k=l.length-i∧i≤l.length∧T 0=.v (.int .i64 t)∧T 1=.sl (lns l)∧T 5=.pt 0 1 0 0∧T 6=.pt 1 1 0 0∧T 7=.mp 2∧T 8=.mp 3∧T 22=.sl (lns l)∧T 23=.v (.int .i64 l.length)∧T 24=.v (.int .i64 i)∧H=[some (a3 l.length 8 8),some (a3 0 0 0),some (mapS (foldC [] (labsL (l.take i)))),some (mapS [])]) l.length ⟨_,_,Ghost.refl,0,rfl,by omega,rfl,rfl,rfl,rfl,rfl,rfl,rfl,rfl,rfl,rfl⟩ ?_
 rintro k T H ⟨i,rfl,hil,h0,h1,h5,h6,h7,h8,h22,h23,h24,rfl⟩
 refine HW.run 200 (by kernel_rfl) ?_
 by_cases hlt:i<l.length
 ·have hlt' : ((i:Int)<(l.length:Int))=True:=by simp only[eq_iff_iff,iff_true];omega
  have hx:l[i]?=some l[i]:=List.getElem?_eq_getElem hlt
  have htk:l.take (i+1)=l.take i++[l[i]]:=by rw[List.take_add_one,hx];rfl
  have hjl:=labsL_len (l.take i)
  rw[List.length_take] at hjl
  generalize l[i]=x at hx htk
  have hs:=labsL_snoc (l.take i) x
  rw[←htk] at hs
  have hg:=getM_labs x.lab (l.take i)
  have hg2:=labN_le x.lab (l.take i)
  rw[List.length_take] at hg2
  have hw:IntKind.i64.wrap (getM (foldC [] (labsL (l.take i))) x.lab+1)=getM (foldC [] (labsL (l.take i))) x.lab+1:=w64 (by omega) (by omega)
  simp (config:={ decide:=true }) only[go_sem,Int.reduceToNat,Nat.reduceAdd,Nat.reduceSub,Nat.reduceMul,Nat.reduceBEq,reduceIte,reduceCtorEq,h0,h1,h5,h6,h7,h8,h22,h23,h24,hlt',hx,lnrow]
  refine callX_fn 3 (validKind x) (by simp only[go_sem]) rfl ?_
  by_cases hop:x.op=11
  ·have hk:kindI x.op=1:=by unfold kindI;rw[hop];rfl
   rw[if_pos hop] at hs
   simp (config:={ decide:=true }) only[go_sem,Int.reduceToNat,Nat.reduceAdd,Nat.reduceSub,Nat.reduceMul,Nat.reduceBEq,reduceIte,reduceCtorEq,h0,h1,h5,h6,h7,h8,h22,h23,h24,hk,hw]
   refine ⟨_,_,Ghost.trunc [0,1,5,6,7,8,22,23,24] 4 (by omega) ?_ ?_,l.length-(i+1),by omega,i+1,rfl,by omega,?_,?_,?_,?_,?_,?_,?_,?_,?_,?_⟩
   all_goals first | (simp (config:={ decide:=true }) only[go_sem,Nat.reduceBEq,reduceIte,h0,h1,h5,h6,h7,h8,h22,h23,h24];done) | (simp (config:={ decide:=true }) only[go_sem,Nat.reduceBEq,reduceIte];rw[w64 (by omega) (by omega)];rfl) | (rw[hs,foldC_snoc];rfl)
  ·have hk:(kindI x.op=1)=False:=by unfold kindI;split <;> simp_all
   rw[if_neg hop] at hs
   simp (config:={ decide:=true }) only[go_sem,Int.reduceToNat,Nat.reduceAdd,Nat.reduceSub,Nat.reduceMul,Nat.reduceBEq,reduceIte,reduceCtorEq,h0,h1,h5,h6,h7,h8,h22,h23,h24,hk]
   refine ⟨_,_,Ghost.trunc [0,1,5,6,7,8,22,23,24] 4 (by omega) ?_ ?_,l.length-(i+1),by omega,i+1,rfl,by omega,?_,?_,?_,?_,?_,?_,?_,?_,?_,?_⟩
   all_goals first | (simp (config:={ decide:=true }) only[go_sem,Nat.reduceBEq,reduceIte,h0,h1,h5,h6,h7,h8,h22,h23,h24];done) | (simp (config:={ decide:=true }) only[go_sem,Nat.reduceBEq,reduceIte];rw[w64 (by omega) (by omega)];rfl) | (rw[hs];rfl)
 ·have hlt' : ((i:Int)<(l.length:Int))=False:=by simp only[eq_iff_iff,iff_false];omega
  obtain rfl:i=l.length:=by omega
  rw[List.take_length]
  simp (config:={ decide:=true }) only[go_sem,Int.reduceToNat,Nat.reduceAdd,Nat.reduceSub,Nat.reduceMul,Nat.reduceBEq,reduceIte,reduceCtorEq,h0,h1,h5,h6,h7,h8,h22,h23,h24,hlt']
  refine HW.loopG (fun k T H=>∃(i:Nat) (left seen:List (List UInt8×Int)),k=l.length-i∧i≤l.length∧(∀s,getM left s=labN s (l.drop i))∧(∀s,getM seen s=labN s (l.take i))∧thrE [] l=thrE (l.take i) (l.drop i)∧T 0=.v (.int .i64 t)∧T 5=.pt 0 1 0 0∧T 6=.pt 1 1 0 0∧T 7=.mp 2∧T 8=.mp 3∧T 11=.v (.bool (fenB (l.take i)))∧T 37=.sl (lns l)∧T 38=.v (.int .i64 l.length)∧T 39=.v (.int .i64 i)∧H=[some (a3 l.length 8 8),some (a3 (fenN (l.take i)) (mrkN (l.take i)) (insN (l.take i))),some (mapS left),some (mapS seen)]) l.length ⟨_,_,Ghost.refl,0,foldC [] (labsL l),[],rfl,by omega,fun s=>getM_labs s l,fun s=>rfl,rfl,by simp (config:={ decide:=true }) only[go_sem,Nat.reduceBEq,reduceIte,h0],by simp (config:={ decide:=true }) only[go_sem,Nat.reduceBEq,reduceIte,h5],by simp (config:={ decide:=true }) only[go_sem,Nat.reduceBEq,reduceIte,h6],by simp (config:={ decide:=true }) only[go_sem,Nat.reduceBEq,reduceIte,h7],by simp (config:={ decide:=true }) only[go_sem,Nat.reduceBEq,reduceIte,h8],rfl,rfl,rfl,rfl,rfl⟩ ?_
  clear h0 h1 h5 h6 h7 h8 h22 h23 h24 hlt' hlt
  rintro k T H ⟨i,left,seen,rfl,hil,hL,hS,hI,h0,h5,h6,h7,h8,h11,h37,h38,h39,rfl⟩
  refine HW.run 300 (by kernel_rfl) ?_
  by_cases hlt:i<l.length
  ·have hlt' : ((i:Int)<(l.length:Int))=True:=by simp only[eq_iff_iff,iff_true];omega
   have hx:l[i]?=some l[i]:=List.getElem?_eq_getElem hlt
   have htk:l.take (i+1)=l.take i++[l[i]]:=by rw[List.take_add_one,hx];rfl
   have hdr:l.drop i=l[i]::l.drop (i+1):=List.drop_eq_getElem_cons hlt
   have hal:(l.take i).length=i:=by rw[List.length_take];omega
   have hbl:(l.drop (i+1)).length≤1000000:=by rw[List.length_drop];omega
   rw[hdr] at hI
   simp only[hdr] at hL
   generalize l[i]=x at hx htk hI hL
   generalize l.take i=a at htk hal hI hS h11
   generalize hbb:l.drop (i+1)=b at hI hL hbl
   rw[thrE] at hI
   have bad:∀e,lineE a x b=e→e≠0→thrO t l=some (t,(i:Int),e):=fun e he h0=>by
    unfold thrO;rw[hI,he,if_neg h0,hal];rfl
   have fN:=fenN_le a
   have mN:=mrkN_le a
   have iN:=insN_le a
   have lx:=labN_le x.lab b
   have sx:=labN_le x.lab a
   have Lx:=hL x.lab
   have Sx:=hS x.lab
   simp (config:={ decide:=true }) only[go_sem,Int.reduceToNat,Nat.reduceAdd,Nat.reduceSub,Nat.reduceMul,Nat.reduceBEq,reduceIte,reduceCtorEq,h0,h5,h6,h7,h8,h11,h37,h38,h39,hlt',hx,lnrow]
   refine callX_fn 3 (validKind x) (by simp only[go_sem]) rfl ?_
   have hR:rightB x.op x.rg x.loc x.lab x.n=x.right:=rfl
   by_cases o6:x.op=6
   ·have hk:kindI x.op=0:=by unfold kindI;rw[o6];rfl
    have o8:¬8≤x.op:=by omega
    have hLn:∀s,getM left s=labN s b:=fun s=>by rw[hL s,labN_cons,if_neg (by omega)];simp
    have hSn:∀s,getM seen s=labN s (a++[x]):=fun s=>by rw[hS s,labN_snoc,if_neg (by omega)];simp
    simp (config:={ decide:=true }) only[go_sem,Int.reduceToNat,Nat.reduceAdd,Nat.reduceSub,Nat.reduceMul,Nat.reduceBEq,reduceIte,reduceCtorEq,h0,h5,h6,h7,h8,h11,h37,h38,h39,hk,o6]
    rw[o6] at hR
    refine callX_fn 3 (opsRight 6 x.rg x.loc x.lab x.n) (by simp only[go_sem]) rfl ?_
    rw[hR]
    cases hr:x.right with
    | false =>
     have hb:=bad 11 (by unfold lineE;rw[if_pos hr]) (by decide)
     simp (config:={ decide:=true }) only[go_sem,Int.reduceToNat,Nat.reduceAdd,Nat.reduceSub,Nat.reduceMul,Nat.reduceBEq,reduceIte,reduceCtorEq,h0,h5,h6,h7,h8,h11,h37,h38,h39]
     rw[hb];rfl
    | true =>
     cases hf:fenB a with
     | true =>
      have hb:=bad 23 (by unfold lineE;rw[if_neg (by simp[hr]),if_neg (by omega),if_pos ⟨o6,hf⟩]) (by decide)
      rw[hf] at h11
      simp (config:={ decide:=true }) only[go_sem,Int.reduceToNat,Nat.reduceAdd,Nat.reduceSub,Nat.reduceMul,Nat.reduceBEq,reduceIte,reduceCtorEq,h0,h5,h6,h7,h8,h11,h37,h38,h39]
      rw[hb];rfl
     | false =>
      have he:lineE a x b=0:=by unfold lineE;rw[if_neg (by simp[hr]),if_neg (by omega),if_neg (by simp[hf]),if_neg (by omega),if_neg (by omega)]
      rw[if_pos he] at hI
      rw[hf] at h11
      have c1:((l.length:Int)≤(fenN a:Int))=False:=by simp only[eq_iff_iff,iff_false];omega
      have hw:IntKind.i64.wrap ((fenN a:Int)+1)=(fenN a:Int)+1:=w64 (by omega) (by omega)
      simp (config:={ decide:=true }) only[go_sem,Int.reduceToNat,Nat.reduceAdd,Nat.reduceSub,Nat.reduceMul,Nat.reduceBEq,reduceIte,reduceCtorEq,h0,h5,h6,h7,h8,h11,h37,h38,h39]
      refine HW.tree 1 (.light 0 (.light 1 (.light 2 (.light 3 (.light 4 (.light 5 (.light 6 (.light 7 .leaf)))))))) follows (by kernel_rfl) (by kernel_rfl) ?_
      simp (config:={ decide:=true }) only[go_sem,Int.reduceToNat,Nat.reduceAdd,Nat.reduceSub,Nat.reduceMul,Nat.reduceBEq,reduceIte,reduceCtorEq,h0,h5,h6,h7,h8,h11,h37,h38,h39,c1,hw]
      refine ⟨_,_,Ghost.trunc [0,5,6,7,8,11,37,38,39] 4 (by omega) ?_ ?_,l.length-(i+1),by omega,i+1,left,seen,rfl,by omega,by rw[hbb];exact hLn,by rw[htk];exact hSn,by rw[htk,hbb];exact hI,?_,?_,?_,?_,?_,?_,?_,?_,?_,?_⟩
      all_goals first | (simp (config:={ decide:=true }) only[go_sem,Nat.reduceBEq,reduceIte,h0,h5,h6,h7,h8,h11,h37,h38,h39];done) | (simp (config:={ decide:=true }) only[go_sem,Nat.reduceBEq,reduceIte];rw[w64 (by omega) (by omega)];rfl) | (rw[htk,fenB_snoc,o6];rfl) | (rw[htk,fenN_snoc,mrkN_snoc,insN_snoc];simp only[o6];rfl)
   ·by_cases o11:x.op=11
    ·have hk:kindI x.op=1:=by unfold kindI;rw[o11];rfl
     have hlx:labN x.lab (x::b)=1+labN x.lab b:=by rw[labN_cons,if_pos ⟨o11,rfl⟩]
     have hwl:IntKind.i64.wrap (getM left x.lab-1)=getM left x.lab-1:=w64 (by omega) (by omega)
     have hws:IntKind.i64.wrap (getM seen x.lab+1)=getM seen x.lab+1:=w64 (by omega) (by omega)
     have hwm:IntKind.i64.wrap ((mrkN a:Int)+1)=(mrkN a:Int)+1:=w64 (by omega) (by omega)
     have hLn:∀s,getM (setM left x.lab (getM left x.lab-1)) s=labN s b:=fun s=>by
      rw[getM_setM']
      by_cases hs:s=x.lab
      ·rw[if_pos hs,Lx,hlx,hs];omega
      ·rw[if_neg hs,hL s,labN_cons,if_neg (fun h=>hs h.2.symm)];simp
     have hSn:∀s,getM (setM seen x.lab (getM seen x.lab+1)) s=labN s (a++[x]):=fun s=>by
      rw[getM_setM',labN_snoc]
      by_cases hs:s=x.lab
      ·rw[if_pos hs,Sx,hs,if_pos ⟨o11,rfl⟩];omega
      ·rw[if_neg hs,hS s,if_neg (fun h=>hs h.2.symm)];simp
     simp (config:={ decide:=true }) only[go_sem,Int.reduceToNat,Nat.reduceAdd,Nat.reduceSub,Nat.reduceMul,Nat.reduceBEq,reduceIte,reduceCtorEq,h0,h5,h6,h7,h8,h11,h37,h38,h39,hk,o11,hwl]
     rw[o11] at hR
     refine callX_fn 3 (opsRight 11 x.rg x.loc x.lab x.n) (by simp only[go_sem]) rfl ?_
     rw[hR]
     cases hr:x.right with
     | false =>
      have hb:=bad 11 (by unfold lineE;rw[if_pos hr]) (by decide)
      simp (config:={ decide:=true }) only[go_sem,Int.reduceToNat,Nat.reduceAdd,Nat.reduceSub,Nat.reduceMul,Nat.reduceBEq,reduceIte,reduceCtorEq,h0,h5,h6,h7,h8,h11,h37,h38,h39]
      rw[hb];rfl
     | true =>
      by_cases hse:0<labN x.lab a
      ·have hb:=bad 21 (by unfold lineE;rw[if_neg (by simp[hr]),if_pos ⟨o11,hse⟩]) (by decide)
       have c1:((0:Int)<getM seen x.lab)=True:=by simp only[eq_iff_iff,iff_true];omega
       simp (config:={ decide:=true }) only[go_sem,Int.reduceToNat,Nat.reduceAdd,Nat.reduceSub,Nat.reduceMul,Nat.reduceBEq,reduceIte,reduceCtorEq,h0,h5,h6,h7,h8,h11,h37,h38,h39,c1]
       rw[hb];rfl
      ·have c1:((0:Int)<getM seen x.lab)=False:=by simp only[eq_iff_iff,iff_false];omega
       by_cases hm:8≤mrkN a
       ·have hb:=bad 5 (by unfold lineE;rw[if_neg (by simp[hr]),if_neg (by omega),if_neg (by omega),if_neg (by omega),if_pos (by omega)]) (by decide)
        have c2:((8:Int)≤(mrkN a:Int))=True:=by simp only[eq_iff_iff,iff_true];omega
        simp (config:={ decide:=true }) only[go_sem,Int.reduceToNat,Nat.reduceAdd,Nat.reduceSub,Nat.reduceMul,Nat.reduceBEq,reduceIte,reduceCtorEq,h0,h5,h6,h7,h8,h11,h37,h38,h39,c1]
        refine HW.tree 1 (.light 0 (.light 1 (.light 2 (.light 3 (.light 4 (.light 5 (.light 6 (.light 7 .leaf)))))))) follows (by kernel_rfl) (by kernel_rfl) ?_
        simp (config:={ decide:=true }) only[go_sem,Int.reduceToNat,Nat.reduceAdd,Nat.reduceSub,Nat.reduceMul,Nat.reduceBEq,reduceIte,reduceCtorEq,h0,h5,h6,h7,h8,h11,h37,h38,h39,c2]
        rw[hb];rfl
       ·have he:lineE a x b=0:=by unfold lineE;rw[if_neg (by simp[hr]),if_neg (by omega),if_neg (by omega),if_neg (by omega),if_neg (by omega)]
        rw[if_pos he] at hI
        have c2:((8:Int)≤(mrkN a:Int))=False:=by simp only[eq_iff_iff,iff_false];omega
        simp (config:={ decide:=true }) only[go_sem,Int.reduceToNat,Nat.reduceAdd,Nat.reduceSub,Nat.reduceMul,Nat.reduceBEq,reduceIte,reduceCtorEq,h0,h5,h6,h7,h8,h11,h37,h38,h39,c1]
        refine HW.tree 1 (.light 0 (.light 1 (.light 2 (.light 3 (.light 4 (.light 5 (.light 6 (.light 7 .leaf)))))))) follows (by kernel_rfl) (by kernel_rfl) ?_
        simp (config:={ decide:=true }) only[go_sem,Int.reduceToNat,Nat.reduceAdd,Nat.reduceSub,Nat.reduceMul,Nat.reduceBEq,reduceIte,reduceCtorEq,h0,h5,h6,h7,h8,h11,h37,h38,h39,c2,hws,hwm]
        refine ⟨_,_,Ghost.trunc [0,5,6,7,8,11,37,38,39] 4 (by omega) ?_ ?_,l.length-(i+1),by omega,i+1,setM left x.lab (getM left x.lab-1),setM seen x.lab (getM seen x.lab+1),rfl,by omega,by rw[hbb];exact hLn,by rw[htk];exact hSn,by rw[htk,hbb];exact hI,?_,?_,?_,?_,?_,?_,?_,?_,?_,?_⟩
        all_goals first | (simp (config:={ decide:=true }) only[go_sem,Nat.reduceBEq,reduceIte,h0,h5,h6,h7,h8,h11,h37,h38,h39];done) | (simp (config:={ decide:=true }) only[go_sem,Nat.reduceBEq,reduceIte];rw[w64 (by omega) (by omega)];rfl) | (rw[htk,fenB_snoc,o11];rfl) | (rw[htk,fenN_snoc,mrkN_snoc,insN_snoc];simp only[o11];rfl)
    ·have hk:kindI x.op=2:=by unfold kindI;rw[if_neg o6,if_neg o11]
     have hLn:∀s,getM left s=labN s b:=fun s=>by rw[hL s,labN_cons,if_neg (by omega)];simp
     have hSn:∀s,getM seen s=labN s (a++[x]):=fun s=>by rw[hS s,labN_snoc,if_neg (by omega)];simp
     have hwi:IntKind.i64.wrap ((insN a:Int)+1)=(insN a:Int)+1:=w64 (by omega) (by omega)
     have Lb:=hLn x.lab
     have fin:(8≤x.op∧x.op≤10→labN x.lab b≠0)→x.right=true→(8≤insN a→lineE a x b=5)∧(¬8≤insN a→lineE a x b=0):=fun hj hr=>by
      refine ⟨fun h=>?_,fun h=>?_⟩
      ·unfold lineE;rw[if_neg (by simp[hr]),if_neg (by omega),if_neg (by omega),if_neg (fun hh=>hj ⟨hh.1,hh.2.1⟩ hh.2.2),if_pos (.inl ⟨o6,o11,h⟩)]
      ·unfold lineE;rw[if_neg (by simp[hr]),if_neg (by omega),if_neg (by omega),if_neg (fun hh=>hj ⟨hh.1,hh.2.1⟩ hh.2.2),if_neg (by omega)]
     by_cases j1:8≤x.op
     ·by_cases j2:x.op≤10
      ·simp (config:={ decide:=true }) only[go_sem,Int.reduceToNat,Nat.reduceAdd,Nat.reduceSub,Nat.reduceMul,Nat.reduceBEq,reduceIte,reduceCtorEq,h0,h5,h6,h7,h8,h11,h37,h38,h39,hk,o6,o11,j1,j2]
       refine callX_fn 3 (opsRight x.op x.rg x.loc x.lab x.n) (by simp only[go_sem]) rfl ?_
       rw[hR]
       cases hr:x.right with
       | false =>
        have hb:=bad 11 (by unfold lineE;rw[if_pos hr]) (by decide)
        simp (config:={ decide:=true }) only[go_sem,Int.reduceToNat,Nat.reduceAdd,Nat.reduceSub,Nat.reduceMul,Nat.reduceBEq,reduceIte,reduceCtorEq,h0,h5,h6,h7,h8,h11,h37,h38,h39]
        rw[hb];rfl
       | true =>
        by_cases h0b:labN x.lab b=0
        ·have hb:=bad 22 (by unfold lineE;rw[if_neg (by simp[hr]),if_neg (by omega),if_neg (by omega),if_pos ⟨j1,j2,h0b⟩]) (by decide)
         have c1:(getM left x.lab=0)=True:=by simp only[eq_iff_iff,iff_true];omega
         simp (config:={ decide:=true }) only[go_sem,Int.reduceToNat,Nat.reduceAdd,Nat.reduceSub,Nat.reduceMul,Nat.reduceBEq,reduceIte,reduceCtorEq,h0,h5,h6,h7,h8,h11,h37,h38,h39,c1]
         rw[hb];rfl
        ·have c1:(getM left x.lab=0)=False:=by simp only[eq_iff_iff,iff_false];omega
         have hfin:=fin (fun _=>h0b) hr
         by_cases hm:8≤insN a
         ·have hb:=bad 5 (hfin.1 hm) (by decide)
          have c2:((8:Int)≤(insN a:Int))=True:=by simp only[eq_iff_iff,iff_true];omega
          simp (config:={ decide:=true }) only[go_sem,Int.reduceToNat,Nat.reduceAdd,Nat.reduceSub,Nat.reduceMul,Nat.reduceBEq,reduceIte,reduceCtorEq,h0,h5,h6,h7,h8,h11,h37,h38,h39,c1]
          refine HW.tree 1 (.light 0 (.light 1 (.light 2 (.light 3 (.light 4 (.light 5 (.light 6 (.light 7 .leaf)))))))) follows (by kernel_rfl) (by kernel_rfl) ?_
          simp (config:={ decide:=true }) only[go_sem,Int.reduceToNat,Nat.reduceAdd,Nat.reduceSub,Nat.reduceMul,Nat.reduceBEq,reduceIte,reduceCtorEq,h0,h5,h6,h7,h8,h11,h37,h38,h39,c2]
          rw[hb];rfl
         ·rw[if_pos (hfin.2 hm)] at hI
          have c2:((8:Int)≤(insN a:Int))=False:=by simp only[eq_iff_iff,iff_false];omega
          simp (config:={ decide:=true }) only[go_sem,Int.reduceToNat,Nat.reduceAdd,Nat.reduceSub,Nat.reduceMul,Nat.reduceBEq,reduceIte,reduceCtorEq,h0,h5,h6,h7,h8,h11,h37,h38,h39,c1]
          refine HW.tree 1 (.light 0 (.light 1 (.light 2 (.light 3 (.light 4 (.light 5 (.light 6 (.light 7 .leaf)))))))) follows (by kernel_rfl) (by kernel_rfl) ?_
          simp (config:={ decide:=true }) only[go_sem,Int.reduceToNat,Nat.reduceAdd,Nat.reduceSub,Nat.reduceMul,Nat.reduceBEq,reduceIte,reduceCtorEq,h0,h5,h6,h7,h8,h11,h37,h38,h39,c2,hwi]
          refine ⟨_,_,Ghost.trunc [0,5,6,7,8,11,37,38,39] 4 (by omega) ?_ ?_,l.length-(i+1),by omega,i+1,left,seen,rfl,by omega,by rw[hbb];exact hLn,by rw[htk];exact hSn,by rw[htk,hbb];exact hI,?_,?_,?_,?_,?_,?_,?_,?_,?_,?_⟩
          all_goals first | (simp (config:={ decide:=true }) only[go_sem,Nat.reduceBEq,reduceIte,h0,h5,h6,h7,h8,h11,h37,h38,h39];done) | (simp (config:={ decide:=true }) only[go_sem,Nat.reduceBEq,reduceIte];rw[w64 (by omega) (by omega)];rfl) | (rw[htk,fenB_snoc,decide_eq_false o6];rfl) | (rw[htk,fenN_snoc,mrkN_snoc,insN_snoc,if_neg o6,if_neg o11,if_pos ⟨o6,o11⟩];rfl)
      ·simp (config:={ decide:=true }) only[go_sem,Int.reduceToNat,Nat.reduceAdd,Nat.reduceSub,Nat.reduceMul,Nat.reduceBEq,reduceIte,reduceCtorEq,h0,h5,h6,h7,h8,h11,h37,h38,h39,hk,o6,o11,j1,j2]
       refine callX_fn 3 (opsRight x.op x.rg x.loc x.lab x.n) (by simp only[go_sem]) rfl ?_
       rw[hR]
       cases hr:x.right with
       | false =>
        have hb:=bad 11 (by unfold lineE;rw[if_pos hr]) (by decide)
        simp (config:={ decide:=true }) only[go_sem,Int.reduceToNat,Nat.reduceAdd,Nat.reduceSub,Nat.reduceMul,Nat.reduceBEq,reduceIte,reduceCtorEq,h0,h5,h6,h7,h8,h11,h37,h38,h39]
        rw[hb];rfl
       | true =>
        have c1:True=True:=rfl
        have hfin:=fin (fun h=>absurd h.2 j2) hr
        by_cases hm:8≤insN a
        ·have hb:=bad 5 (hfin.1 hm) (by decide)
         have c2:((8:Int)≤(insN a:Int))=True:=by simp only[eq_iff_iff,iff_true];omega
         simp (config:={ decide:=true }) only[go_sem,Int.reduceToNat,Nat.reduceAdd,Nat.reduceSub,Nat.reduceMul,Nat.reduceBEq,reduceIte,reduceCtorEq,h0,h5,h6,h7,h8,h11,h37,h38,h39,c1]
         refine HW.tree 1 (.light 0 (.light 1 (.light 2 (.light 3 (.light 4 (.light 5 (.light 6 (.light 7 .leaf)))))))) follows (by kernel_rfl) (by kernel_rfl) ?_
         simp (config:={ decide:=true }) only[go_sem,Int.reduceToNat,Nat.reduceAdd,Nat.reduceSub,Nat.reduceMul,Nat.reduceBEq,reduceIte,reduceCtorEq,h0,h5,h6,h7,h8,h11,h37,h38,h39,c2]
         rw[hb];rfl
        ·rw[if_pos (hfin.2 hm)] at hI
         have c2:((8:Int)≤(insN a:Int))=False:=by simp only[eq_iff_iff,iff_false];omega
         simp (config:={ decide:=true }) only[go_sem,Int.reduceToNat,Nat.reduceAdd,Nat.reduceSub,Nat.reduceMul,Nat.reduceBEq,reduceIte,reduceCtorEq,h0,h5,h6,h7,h8,h11,h37,h38,h39,c1]
         refine HW.tree 1 (.light 0 (.light 1 (.light 2 (.light 3 (.light 4 (.light 5 (.light 6 (.light 7 .leaf)))))))) follows (by kernel_rfl) (by kernel_rfl) ?_
         simp (config:={ decide:=true }) only[go_sem,Int.reduceToNat,Nat.reduceAdd,Nat.reduceSub,Nat.reduceMul,Nat.reduceBEq,reduceIte,reduceCtorEq,h0,h5,h6,h7,h8,h11,h37,h38,h39,c2,hwi]
         refine ⟨_,_,Ghost.trunc [0,5,6,7,8,11,37,38,39] 4 (by omega) ?_ ?_,l.length-(i+1),by omega,i+1,left,seen,rfl,by omega,by rw[hbb];exact hLn,by rw[htk];exact hSn,by rw[htk,hbb];exact hI,?_,?_,?_,?_,?_,?_,?_,?_,?_,?_⟩
         all_goals first | (simp (config:={ decide:=true }) only[go_sem,Nat.reduceBEq,reduceIte,h0,h5,h6,h7,h8,h11,h37,h38,h39];done) | (simp (config:={ decide:=true }) only[go_sem,Nat.reduceBEq,reduceIte];rw[w64 (by omega) (by omega)];rfl) | (rw[htk,fenB_snoc,decide_eq_false o6];rfl) | (rw[htk,fenN_snoc,mrkN_snoc,insN_snoc,if_neg o6,if_neg o11,if_pos ⟨o6,o11⟩];rfl)
     ·simp (config:={ decide:=true }) only[go_sem,Int.reduceToNat,Nat.reduceAdd,Nat.reduceSub,Nat.reduceMul,Nat.reduceBEq,reduceIte,reduceCtorEq,h0,h5,h6,h7,h8,h11,h37,h38,h39,hk,o6,o11,j1]
      refine callX_fn 3 (opsRight x.op x.rg x.loc x.lab x.n) (by simp only[go_sem]) rfl ?_
      rw[hR]
      cases hr:x.right with
      | false =>
       have hb:=bad 11 (by unfold lineE;rw[if_pos hr]) (by decide)
       simp (config:={ decide:=true }) only[go_sem,Int.reduceToNat,Nat.reduceAdd,Nat.reduceSub,Nat.reduceMul,Nat.reduceBEq,reduceIte,reduceCtorEq,h0,h5,h6,h7,h8,h11,h37,h38,h39]
       rw[hb];rfl
      | true =>
       have c1:True=True:=rfl
       have hfin:=fin (fun h=>absurd h.1 j1) hr
       by_cases hm:8≤insN a
       ·have hb:=bad 5 (hfin.1 hm) (by decide)
        have c2:((8:Int)≤(insN a:Int))=True:=by simp only[eq_iff_iff,iff_true];omega
        simp (config:={ decide:=true }) only[go_sem,Int.reduceToNat,Nat.reduceAdd,Nat.reduceSub,Nat.reduceMul,Nat.reduceBEq,reduceIte,reduceCtorEq,h0,h5,h6,h7,h8,h11,h37,h38,h39,c1]
        refine HW.tree 1 (.light 0 (.light 1 (.light 2 (.light 3 (.light 4 (.light 5 (.light 6 (.light 7 .leaf)))))))) follows (by kernel_rfl) (by kernel_rfl) ?_
        simp (config:={ decide:=true }) only[go_sem,Int.reduceToNat,Nat.reduceAdd,Nat.reduceSub,Nat.reduceMul,Nat.reduceBEq,reduceIte,reduceCtorEq,h0,h5,h6,h7,h8,h11,h37,h38,h39,c2]
        rw[hb];rfl
       ·rw[if_pos (hfin.2 hm)] at hI
        have c2:((8:Int)≤(insN a:Int))=False:=by simp only[eq_iff_iff,iff_false];omega
        simp (config:={ decide:=true }) only[go_sem,Int.reduceToNat,Nat.reduceAdd,Nat.reduceSub,Nat.reduceMul,Nat.reduceBEq,reduceIte,reduceCtorEq,h0,h5,h6,h7,h8,h11,h37,h38,h39,c1]
        refine HW.tree 1 (.light 0 (.light 1 (.light 2 (.light 3 (.light 4 (.light 5 (.light 6 (.light 7 .leaf)))))))) follows (by kernel_rfl) (by kernel_rfl) ?_
        simp (config:={ decide:=true }) only[go_sem,Int.reduceToNat,Nat.reduceAdd,Nat.reduceSub,Nat.reduceMul,Nat.reduceBEq,reduceIte,reduceCtorEq,h0,h5,h6,h7,h8,h11,h37,h38,h39,c2,hwi]
        refine ⟨_,_,Ghost.trunc [0,5,6,7,8,11,37,38,39] 4 (by omega) ?_ ?_,l.length-(i+1),by omega,i+1,left,seen,rfl,by omega,by rw[hbb];exact hLn,by rw[htk];exact hSn,by rw[htk,hbb];exact hI,?_,?_,?_,?_,?_,?_,?_,?_,?_,?_⟩
        all_goals first | (simp (config:={ decide:=true }) only[go_sem,Nat.reduceBEq,reduceIte,h0,h5,h6,h7,h8,h11,h37,h38,h39];done) | (simp (config:={ decide:=true }) only[go_sem,Nat.reduceBEq,reduceIte];rw[w64 (by omega) (by omega)];rfl) | (rw[htk,fenB_snoc,decide_eq_false o6];rfl) | (rw[htk,fenN_snoc,mrkN_snoc,insN_snoc,if_neg o6,if_neg o11,if_pos ⟨o6,o11⟩];rfl)
  ·have hlt' : ((i:Int)<(l.length:Int))=False:=by simp only[eq_iff_iff,iff_false];omega
   rw[List.drop_of_length_le (by omega)] at hI
   simp (config:={ decide:=true }) only[go_sem,Int.reduceToNat,Nat.reduceAdd,Nat.reduceSub,Nat.reduceMul,Nat.reduceBEq,reduceIte,reduceCtorEq,h0,h5,h6,h7,h8,h11,h37,h38,h39,hlt']
   unfold thrO;rw[hI];rfl
end Go.Proofs.YtmapdjdnnhlpiaaGreatDoor
namespace Go.Proofs.YtmapdjdnnhlpiaaGreatDoor
open Go.Shelf
set_option maxRecDepth 100000
def keysS_ren:Go.Shelf.Ren:=⟨fun | 7=>83 | 10=>103 | n=>n,fun | 23=>132 | 26=>9 | 3=>3 | 28=>77 | 0=>0 | 27=>76 | 33=>32 | 4=>4 | n=>n,fun | n=>n⟩
theorem keysS:Go.Proofs.SlLaysZ.n7 Tryz.prog keysS_ren where
 mixed:=by kernel_rfl
 f7:=⟨"maps.Keys[map[string]int,string,int]",by decide,Tryz.func83.trans (congrArg some (by kernel_rfl))⟩
 f10:=⟨"maps.Keys[map[string]int,string,int]$1",by decide,Tryz.func103.trans (congrArg some (by kernel_rfl))⟩
 t0:=Tryz.underlying0
 a0:=Tryz.isAgg0
 z0:=Tryz.sizeOf0
 v0:=Tryz.zeroValue0
 t4:=Tryz.underlying4
 a4:=Tryz.isAgg4
 z4:=Tryz.sizeOf4
 v4:=Tryz.zeroValue4
 t23:=Tryz.underlying132
 a23:=Tryz.isAgg132
 z23:=Tryz.sizeOf132
 v23:=Tryz.zeroValue132
 t26:=Tryz.underlying9
 a26:=Tryz.isAgg9
 z26:=Tryz.sizeOf9
 v26:=Tryz.zeroValue9
 t27:=Tryz.underlying76
 a27:=Tryz.isAgg76
 z27:=Tryz.sizeOf76
 v27:=Tryz.zeroValue76
 t28:=Tryz.underlying77
 a28:=Tryz.isAgg77
 z28:=Tryz.sizeOf77
 v28:=Tryz.zeroValue77
 t33:=Tryz.underlying32
 a33:=Tryz.isAgg32
 z33:=Tryz.sizeOf32
 v33:=Tryz.zeroValue32
def sortedS_ren:Go.Shelf.Ren:=⟨fun | 6=>82 | 8=>101 | 9=>102 | 11=>115 | 13=>117 | 12=>116 | 23=>134 | 24=>135 | 14=>125 | 15=>126 | 16=>127 | 17=>128 | 18=>129 | 19=>130 | 20=>131 | 21=>132 | 22=>133 | 25=>140 | 26=>141 | 27=>142 | 28=>143 | 29=>144 | 30=>145 | 31=>147 | n=>n,fun | 26=>9 | 28=>77 | 24=>34 | 0=>0 | 3=>3 | 37=>149 | 48=>165 | 50=>172 | 4=>4 | 40=>181 | 39=>180 | 45=>91 | 5=>5 | 9=>9 | 51=>193 | 55=>197 | 57=>200 | 58=>201 | 33=>32 | n=>n,fun | n=>n⟩
theorem sortedS:Go.Proofs.SlLaysZ.n6 Tryz.prog sortedS_ren where
 mixed:=by kernel_rfl
 f6:=⟨"slices.Sorted[string]",by decide,Tryz.func82.trans (congrArg some (by kernel_rfl))⟩
 f8:=⟨"slices.Collect[string]",by decide,Tryz.func101.trans (congrArg some (by kernel_rfl))⟩
 f11:=⟨"slices.AppendSeq[[]string,string]",by decide,Tryz.func115.trans (congrArg some (by kernel_rfl))⟩
 t0:=Tryz.underlying0
 a0:=Tryz.isAgg0
 z0:=Tryz.sizeOf0
 v0:=Tryz.zeroValue0
 t24:=Tryz.underlying34
 a24:=Tryz.isAgg34
 z24:=Tryz.sizeOf34
 v24:=Tryz.zeroValue34
 t26:=Tryz.underlying9
 a26:=Tryz.isAgg9
 z26:=Tryz.sizeOf9
 v26:=Tryz.zeroValue9
 t28:=Tryz.underlying77
 a28:=Tryz.isAgg77
 z28:=Tryz.sizeOf77
 v28:=Tryz.zeroValue77
 i26:=by kernel_rfl
def sortS_ren:Go.Shelf.Ren:=⟨fun | 6=>102 | 8=>117 | 9=>116 | 19=>134 | 20=>135 | 21=>125 | 22=>126 | 23=>127 | 24=>128 | 25=>129 | 26=>130 | 27=>131 | 28=>132 | 29=>133 | 36=>140 | 31=>141 | 32=>142 | 37=>143 | 38=>144 | 39=>145 | 41=>147 | n=>n,fun | 27=>34 | 29=>9 | 3=>3 | 32=>149 | 26=>34 | 0=>0 | 44=>165 | 46=>172 | 4=>4 | 36=>181 | 35=>180 | 41=>91 | 5=>5 | 9=>9 | 53=>193 | 57=>197 | 63=>200 | 64=>201 | n=>n,fun | n=>n⟩
theorem sortS:Go.Proofs.SlLaysM.n6 Tryz.prog sortS_ren where
 mixed:=by kernel_rfl
 f6:=⟨"slices.Sort[[]string,string]",by decide,Tryz.func102.trans (congrArg some (by kernel_rfl))⟩
 f8:=Tryz.func117.trans (congrArg some (by kernel_rfl))
 f9:=⟨"slices.pdqsortOrdered[string]",by decide,Tryz.func116.trans (congrArg some (by kernel_rfl))⟩
 f19:=Tryz.func134.trans (congrArg some (by kernel_rfl))
 f20:=Tryz.func135.trans (congrArg some (by kernel_rfl))
 f21:=⟨"slices.insertionSortOrdered[string]",by decide,Tryz.func125.trans (congrArg some (by kernel_rfl))⟩
 f22:=⟨"slices.heapSortOrdered[string]",by decide,Tryz.func126.trans (congrArg some (by kernel_rfl))⟩
 f23:=⟨"slices.breakPatternsOrdered[string]",by decide,Tryz.func127.trans (congrArg some (by kernel_rfl))⟩
 f24:=⟨"slices.choosePivotOrdered[string]",by decide,Tryz.func128.trans (congrArg some (by kernel_rfl))⟩
 f25:=⟨"slices.reverseRangeOrdered[string]",by decide,Tryz.func129.trans (congrArg some (by kernel_rfl))⟩
 f26:=⟨"slices.partialInsertionSortOrdered[string]",by decide,Tryz.func130.trans (congrArg some (by kernel_rfl))⟩
 f27:=⟨"cmp.Less[string]",by decide,Tryz.func131.trans (congrArg some (by kernel_rfl))⟩
 f28:=⟨"slices.partitionEqualOrdered[string]",by decide,Tryz.func132.trans (congrArg some (by kernel_rfl))⟩
 f29:=⟨"slices.partitionOrdered[string]",by decide,Tryz.func133.trans (congrArg some (by kernel_rfl))⟩
 f31:=Tryz.func141.trans (congrArg some (by kernel_rfl))
 f32:=Tryz.func142.trans (congrArg some (by kernel_rfl))
 f36:=⟨"slices.siftDownOrdered[string]",by decide,Tryz.func140.trans (congrArg some (by kernel_rfl))⟩
 f37:=⟨"slices.medianAdjacentOrdered[string]",by decide,Tryz.func143.trans (congrArg some (by kernel_rfl))⟩
 f38:=⟨"slices.medianOrdered[string]",by decide,Tryz.func144.trans (congrArg some (by kernel_rfl))⟩
 f39:=⟨"cmp.isNaN[string]",by decide,Tryz.func145.trans (congrArg some (by kernel_rfl))⟩
 f41:=⟨"slices.order2Ordered[string]",by decide,Tryz.func147.trans (congrArg some (by kernel_rfl))⟩
 t0:=Tryz.underlying0
 a0:=Tryz.isAgg0
 z0:=Tryz.sizeOf0
 v0:=Tryz.zeroValue0
 t3:=Tryz.underlying3
 a3:=Tryz.isAgg3
 z3:=Tryz.sizeOf3
 v3:=Tryz.zeroValue3
 t4:=Tryz.underlying4
 a4:=Tryz.isAgg4
 z4:=Tryz.sizeOf4
 v4:=Tryz.zeroValue4
 t5:=Tryz.underlying5
 a5:=Tryz.isAgg5
 z5:=Tryz.sizeOf5
 v5:=Tryz.zeroValue5
 t9:=Tryz.underlying9
 a9:=Tryz.isAgg9
 z9:=Tryz.sizeOf9
 v9:=Tryz.zeroValue9
 t26:=Tryz.underlying34
 a26:=Tryz.isAgg34
 z26:=Tryz.sizeOf34
 v26:=Tryz.zeroValue34
 t27:=Tryz.underlying34
 a27:=Tryz.isAgg34
 z27:=Tryz.sizeOf34
 v27:=Tryz.zeroValue34
 t29:=Tryz.underlying9
 a29:=Tryz.isAgg9
 z29:=Tryz.sizeOf9
 v29:=Tryz.zeroValue9
 t32:=Tryz.underlying149
 a32:=Tryz.isAgg149
 z32:=Tryz.sizeOf149
 v32:=Tryz.zeroValue149
 t35:=Tryz.underlying180
 a35:=Tryz.isAgg180
 z35:=Tryz.sizeOf180
 v35:=Tryz.zeroValue180
 t36:=Tryz.underlying181
 a36:=Tryz.isAgg181
 z36:=Tryz.sizeOf181
 v36:=Tryz.zeroValue181
 t41:=Tryz.underlying91
 a41:=Tryz.isAgg91
 z41:=Tryz.sizeOf91
 v41:=Tryz.zeroValue91
 t44:=Tryz.underlying165
 a44:=Tryz.isAgg165
 z44:=Tryz.sizeOf165
 v44:=Tryz.zeroValue165
 t46:=Tryz.underlying172
 a46:=Tryz.isAgg172
 z46:=Tryz.sizeOf172
 v46:=Tryz.zeroValue172
 t53:=Tryz.underlying193
 a53:=Tryz.isAgg193
 z53:=Tryz.sizeOf193
 v53:=Tryz.zeroValue193
 t57:=Tryz.underlying197
 a57:=Tryz.isAgg197
 z57:=Tryz.sizeOf197
 v57:=Tryz.zeroValue197
 t63:=Tryz.underlying200
 a63:=Tryz.isAgg200
 z63:=Tryz.sizeOf200
 v63:=Tryz.zeroValue200
 t64:=Tryz.underlying201
 a64:=Tryz.isAgg201
 z64:=Tryz.sizeOf201
 v64:=Tryz.zeroValue201
end Go.Proofs.YtmapdjdnnhlpiaaGreatDoor
namespace Go.Proofs.YtmapdjdnnhlpiaaGreatDoor
open Go.RowKit
open Go.WideElems (Fit rd rg rd_mk rg_of)
set_option maxRecDepth 8000
theorem Ghost.holeS {N L:Nat} {T:Nat→HV} {H:Heap} (e:TypeId) (sz:Nat):Ghost N L T H T (H++[some ⟨e,sz,[]⟩]):=fun B Z G FP ds a w hL hs=>by
 have hinv:=hs.inv.new (w':=w) (o:=⟨e,sz,[]⟩) (g:=⟨none,e,sz,0,0⟩) (fp:=[]) (Nat.le_refl _) (fun _ _=>rfl) ⟨rfl,rfl,rfl,by simp,.inl ⟨rfl,rfl,rfl⟩⟩ (by simp) (by simp)
 have hE:Evo Z FP w Z (fun j=>if j=H.length then [] else FP j) w:=evo_new (hs.inv.nofp _ (by simp)) rfl rfl rfl (Nat.le_refl _) (fun _ _=>rfl) (by simp)
 exact ⟨Z,_,_,hs.evo hinv (GLe.more _) hE,GLt.of hL (GLe.more _),hE⟩
abbrev mapBoxS (id:Nat):HObj:=⟨132,1,[[.mp id]]⟩
theorem mapsKeysS {H:Heap} {id j:Nat} {kv:List (List UInt8×Int)} (hid:H[id]?=some (some (mapS kv))) (hj:H[j]?=some (some ⟨132,1,[]⟩)) :
  HCalls Tryz.prog 83 H [.mp id] (fun r H'=>r=.fn 103 [.pt j 1 0 0]∧H'=H.set j (some (mapBoxS id))):=by
 refine ⟨fun vals w=>enters_of (P:=Tryz.prog) Tryz.func83 (by kernel_rfl) rfl vals w,fun Z G FP w vals hi ha=>?_⟩
 simp only[RL] at ha
 obtain ⟨y,ys,f1,f2,rfl,e1,hv,rfl,rfl⟩:=ha
 obtain ⟨rfl,-⟩:f1=[]∧True:=by simpa using e1
 obtain ⟨r,rfl,hg,hfp,hb⟩:=map_at hi hid hv
 have hne:id≠j:=fun e=>by rw[e,hj] at hid;simp[mapS,mapG,mapObj] at hid
 obtain ⟨gj,hgj,hobj⟩:=hi.live j _ hj
 have hn0:gj.n=0:=hobj.n
 have cK:Calls Tryz.prog 83 #[.map (some r)] w fun e w'=>e=.returned (.func (.func 103) #[] #[.pointer (some ⟨w.heap.size,0,none⟩)])∧w'=w.alloc (.cells #[.map (some r)] 132) :=
  callsIn_wide.1 (AnyZ.keys_in keysS Fence.wide 5 trivial rfl (some r) w)
 refine Calls.mono cK ?_
 rintro e w' ⟨rfl,rfl⟩
 have hnew:=heap_alloc_new w (.cells #[.map (some r)] 132)
 have hold:∀b,b<w.heap.size→(w.alloc (.cells #[.map (some r)] 132)).heap[b]?=w.heap[b]?:=fun b hb=>Below.heap_alloc w _ b hb
 have hlt:j<G.length:=hi.lt hj
 have hset:∀k,k≠j→(G.set j (some (some ⟨some w.heap.size,132,1,1,1⟩:Option OG)).join)[k]?=G[k]?:=fun k hk=>by simp[List.getElem?_set,Ne.symm hk]
 have hmp:RV Z (G.set j (some ⟨some w.heap.size,132,1,1,1⟩)) (w.alloc (.cells #[.map (some r)] 132)) (.mp id) (.map (some r)) []:=by
  simp only[RV]
  refine ⟨trivial,rfl,by rw[List.length_set];exact hi.lt hid,fun g hg'=>?_⟩
  rw[List.getElem?_set_ne (Ne.symm hne),hg] at hg'
  cases hg'
  exact ⟨Nat.le_refl _,fun _ _=>rfl⟩
 have hinv:=hi.turn (w':=w.alloc (.cells #[.map (some r)] 132)) (o':=mapBoxS id) (g':=⟨some w.heap.size,132,1,1,1⟩) (fp':=[w.heap.size]) hj hgj (.inr (by rw[hn0];exact Nat.one_pos)) (by simp) (fun b hb _=>hold b hb)
  ⟨rfl,rfl,rfl,by simp,.inr (.inl ⟨w.heap.size,#[.map (some r)],[],rfl,rfl,hnew,by simp,by simp,by simp[maxLen],by
   simp only[RR,RC]
   refine ⟨[],[],rfl,⟨_,[],[],rfl,?_,rfl,hmp,rfl⟩,rfl⟩
   unfold World.cell?;rw[hnew];rfl⟩)⟩ (by simp) (fun b hb=>by
    obtain rfl:=List.mem_singleton.1 hb
    refine ⟨fun hz=>?_,by simp,fun k _ hc=>?_⟩
    ·have:=hi.zlt _ hz;omega
    ·have:=hi.flt k _ hc;omega)
 refine ⟨_,_,_,_,_,_,[],rfl,⟨rfl,rfl⟩,by simp,hinv,?_,by simp,by simp,by simp,GLe.set hgj (.inr (by rw[hn0];exact Nat.one_pos)),evo_turn rfl rfl rfl (by simp) (fun b hb _=>hold b hb) (fun b hb=>by
  obtain rfl:=List.mem_singleton.1 hb
  exact .inl (Nat.le_refl _))⟩
 simp only[RV]
 refine ⟨#[.pointer (some ⟨w.heap.size,0,none⟩)],(fnV_lt (by decide) _).symm,?_⟩
 simp only[RL,RV]
 refine ⟨_,_,[],[],rfl,rfl,⟨rfl,rfl,by rw[List.length_set];exact hlt,fun g hg'=>?_⟩,rfl,rfl⟩
 rw[List.getElem?_set_self hlt] at hg'
 cases hg'
 exact ⟨Nat.le_refl _,fun _=>⟨_,rfl,by simp⟩⟩
theorem RR_strsAt {Z:Nat→Prop} {w:World} {b:Nat}:∀(xs:List (List UInt8)) (k:Nat),(∀(i:Nat) x,xs[i]?=some x→w.cell? ⟨b,k+i,none⟩=some (str x))→RR Z [] w (strs xs) b k []
 | [],k,_=>by simp[strs,RR]
 | x::xs,k,h=>by
  show RR Z [] w ([.v (str x)]::strs xs) b k []
  simp only[RR,RC,RV]
  refine ⟨[],[],rfl,⟨_,[],[],rfl,by have:=h 0 x rfl;simpa using this,rfl,⟨rfl,rfl⟩,rfl⟩,?_⟩
  refine RR_strsAt xs (k+1) fun i y hy=>?_
  rw[show k+1+i=k+(i+1) by omega]
  exact h (i+1) y (by simpa using hy)
def unitS:Value→Option (DataW Unit×List MemPlace):=fun _=>some (.nil,[])
theorem esS_mem {kv:List (List UInt8×Int)} {x:MapEntry}:∀{n:Nat},x∈esL kS n kv→∃e∈kv,x.key=str e.1∧n≤x.born∧x.born<n+kv.length:=by
 induction kv with
 | nil=>intro n h;simp[esL] at h
 | cons e r ih =>
  intro n h
  simp only[esL,List.mem_cons] at h
  rcases h with rfl | h
  ·exact ⟨e,by simp,rfl,Nat.le_refl _,by simp⟩
  ·obtain ⟨e',h1,h2,h3,h4⟩:=ih h
   exact ⟨e',by simp[h1],h2,by omega,by simp only[List.length_cons];omega⟩
theorem esS_stamped {kv:List (List UInt8×Int)} (hnd:(kv.map (·.1)).Nodup):∀n,((esL kS n kv).map (·.born)).Nodup∧(esL kS n kv).Pairwise (fun x y=>x.key≠y.key):=by
 induction kv with
 | nil=>intro n;simp[esL]
 | cons e r ih =>
  intro n
  simp only[List.map_cons,List.nodup_cons] at hnd
  obtain ⟨h1,h2⟩:=ih hnd.2 (n+1)
  simp only[esL,List.map_cons,List.nodup_cons,List.pairwise_cons]
  refine ⟨⟨fun hm=>?_,h1⟩,fun y hy hk=>?_,h2⟩
  ·obtain ⟨y,hy,he⟩:=List.mem_map.1 hm
   obtain ⟨_,_,_,h3,_⟩:=esS_mem hy
   omega
  ·obtain ⟨e',h3,h4,_,_⟩:=esS_mem hy
   rw[h4] at hk
   have hk' : e.1=e'.1:=by simpa [str] using hk
   exact hnd.1 (hk'▸List.mem_map.2 ⟨e',h3,rfl⟩)
theorem keysS_read {kv:List (List UInt8×Int)} (hr:∀e∈kv,e.1.length≤1000000):∀n,(esL kS n kv).map (rg (H:=Unit) Tryz.prog 9 unitS)=kv.map (fun e=>(Lit.string e.1,DataW.nil))∧∀x∈esL kS n kv,∃y,rd (H:=Unit) Tryz.prog 9 unitS x=some y:=by
 induction kv with
 | nil=>intro n;simp[esL]
 | cons e r ih =>
  intro n
  obtain ⟨h1,h2⟩:=ih (fun e' h=>hr e' (by simp[h])) (n+1)
  have hk:keyOf Tryz.prog 9 (str e.1)=some (.string e.1):=Go.WideMaps.keyOf_string_mk Tryz.underlying9 (by
   have:=hr e (by simp)
   show e.1.toArray.size≤maxLen
   rw[List.size_toArray];unfold maxLen;omega)
  have hd:rd (H:=Unit) Tryz.prog 9 unitS ⟨str e.1,.int .i64 e.2,n⟩=some (.string e.1,.nil):=rd_mk (yv:=(.nil,[])) hk rfl
  refine ⟨?_,fun x hx=>?_⟩
  ·simp only[esL,List.map_cons,h1]
   rw[rg_of hd]
  ·simp only[esL,List.mem_cons] at hx
   rcases hx with rfl | hx
   ·exact ⟨_,hd⟩
   ·exact h2 x hx
theorem sortsS (m:Nat):AnyZ.SortsIn Tryz.prog sortedS_ren Fence.wide m :=
  ⟨fun blk off cap ss W hH hblk hsz=>callsIn_wide.2 (AnyM.slices_Sort_string sortS blk off cap ss W hH hblk hsz),
   fun p cap W=>callsIn_wide.2 (AnyM.slices_Sort_string_none sortS p cap W)⟩
def sortedMS (kv:List (List UInt8×Int)):List (List UInt8):=(kv.map (·.1)).mergeSort fun x y=>decide (x≤y)
set_option maxHeartbeats 1000000 in
theorem slicesSortedS {H:Heap} {id j:Nat} {kv:List (List UInt8×Int)} (hid:H[id]?=some (some (mapS kv))) (hj:H[j]?=some (some (mapBoxS id))) (hnd:(kv.map (·.1)).Nodup) (hr:∀e∈kv,e.1.length≤1000000) (hlen:kv.length≤1000000) :
  HCalls Tryz.prog 82 H [.fn 103 [.pt j 1 0 0]] (fun r H'=>r=owStrs (sortedMS kv)∧H'=H):=by
 refine ⟨fun vals w=>enters_of (P:=Tryz.prog) Tryz.func82 (by kernel_rfl) rfl vals w,fun Z G FP w vals hi ha=>?_⟩
 simp only[RL] at ha
 obtain ⟨y,ys,f1,f2,rfl,e1,hv,rfl,rfl⟩:=ha
 obtain ⟨rfl,-⟩:f1=[]∧True:=by simpa using e1
 rw[RV] at hv
 obtain ⟨zs,rfl,hv⟩:=hv
 rw[fnV_lt (by decide)]
 obtain ⟨zs⟩:=zs
 simp only[RL] at hv
 obtain ⟨q,ys,f1,f2,rfl,e2,hq,rfl,rfl⟩:=hv
 obtain ⟨rfl,-⟩:f1=[]∧True:=by simpa using e2
 obtain ⟨g,b,cells,f,hg,hob,hgb,hfp,hb,hcs,hc1,hc2,hrr,rfl,_⟩:=pt_at hi hj rfl rfl hq
 simp only[RR,RC] at hrr
 obtain ⟨_,_,_,⟨mv,_,_,_,hcell,_,hmv,_⟩,_⟩:=hrr
 have hmv' : RV Z G w (.mp id) mv []:=by
  simp only[RV] at hmv⊢
  exact ⟨trivial,hmv.2⟩
 obtain ⟨r,rfl,_,_,hrb⟩:=map_at hi hid hmv'
 have hbl:b<w.heap.size:=(Array.getElem?_eq_some_iff.1 hb).1
 obtain ⟨h1,h2⟩:=keysS_read hr 0
 have htl:(esG kS kv).toList=esL kS 0 kv:=by unfold esG;rw[List.toList_toArray]
 let D0:DataW Unit:=.map (((esG kS kv).toList.map (rg Tryz.prog 9 unitS)).foldr DataW.insert [])
 have hsz:Go.Maps.size D0=kv.length:=by
  show (((esG kS kv).toList.map (rg Tryz.prog 9 unitS)).foldr DataW.insert []).length=_
  rw[length_sorted,List.length_map,htl,esL_length]
 have hown:w.ownsMap Tryz.prog 9 unitS r kv.length D0:=by
  refine ⟨esG kS kv,kv.length,hrb,⟨?_,?_,fun x hx=>h2 x (htl▸hx)⟩,?_,rfl⟩
  ·rw[←Array.length_toList,htl,esL_length];unfold maxLen;omega
  ·rw[Go.MapKept.stamped_iff,htl]
   obtain ⟨k1,k2⟩:=esS_stamped hnd 0
   exact ⟨fun x hx=>by obtain ⟨_,_,_,_,k⟩:=esS_mem hx;omega,k1,k2⟩
  ·rw[←Array.length_toList,htl,esL_length];exact Nat.le_refl _
 have hperm:(strKeys D0).Perm (kv.map (·.1)):=by
  show ((((esG kS kv).toList.map (rg Tryz.prog 9 unitS)).foldr DataW.insert []).map fun p=>Go.strOf p.1).Perm _
  refine ((Go.WideShapes.sorted_perm _).map _).trans ?_
  rw[htl,h1,List.map_map]
  exact List.Perm.refl _
 have hcb:w.cell? ⟨b,0,none⟩=some (.map (some r)):=by simpa using hcell
 have hseq:Go.SeqGives Fence.wide 2 Tryz.prog 103 #[.pointer (some ⟨b,0,none⟩)] encStr (fun ss=>ss.Perm (strKeys D0)) (Go.Maps.size D0) w :=
  AnyZ.keys_gives (ρ:=keysS_ren) { keysS with } Fence.wide 2 trivial rfl (by omega) b r kv.length D0 w hbl hcb hown
 have cS:=AnyZ.sorted_in sortedS Fence.wide 5 trivial trivial trivial trivial rfl (by omega) (sortsS _) (enters_of Tryz.func102 (by kernel_rfl) rfl) 103 #[.pointer (some ⟨b,0,none⟩)] trivial (enters_of Tryz.func103 (by kernel_rfl) rfl) _ _ (by rw[hsz];unfold maxLen;omega) (by rw[hsz];omega) w hseq
 have cS' : Calls Tryz.prog 82 #[.func (.func 103) #[] #[.pointer (some ⟨b,0,none⟩)]] w _:=callsIn_wide.1 cS
 have hy:(Value.pointer (some ⟨b,0*(mapBoxS id).sz+0,none⟩))=.pointer (some ⟨b,0,none⟩):=by simp
 rw[hy]
 refine Calls.mono cS' ?_
 rintro e w' ⟨v,ss,rfl,hS,hrow,hnil,hbw⟩
 have hsort:(ss.mergeSort fun x y=>decide (x≤y))=sortedMS kv:=mergeSort_of_perm (hS.trans hperm)
 rw[hsort] at hrow
 have hlen2:(sortedMS kv).length=ss.length:=by rw[←hsort,List.length_mergeSort]
 have hold:∀k,k<w.heap.size→w'.heap[k]?=w.heap[k]?:=hbw.block
 have hi' : HInv Z G FP H w':=hi.keep hbw.size fun k hk=>hold k (by
  rcases hk with hk | ⟨i,hk⟩
  ·exact hi.zlt k hk
  ·exact hi.flt i k hk)
 have hEv:Evo Z FP w Z FP w':=⟨hbw.os,hbw.tape,hbw.output,hbw.size,fun k hk _=>hold k hk,fun _ h=>h,fun _ h=>.inl h,fun i k hk=>.inr ⟨i,hk⟩⟩
 rcases hrow.2 with ⟨rfl,h0⟩ | ⟨gb,cap,cur,rfl,hbase,hgb',r1,r2,r3,r4⟩
 ·refine ⟨_,_,H,Z,G,FP,[],rfl,⟨rfl,rfl⟩,rfl,hi',?_,by simp,by simp,by simp,GLe.refl _,hEv⟩
  have:sortedMS kv=[]:=List.eq_nil_of_length_eq_zero (by omega)
  rw[this]
  simp only[owStrs,RV]
  exact .inl ⟨rfl,trivial,trivial⟩
 ·have hgl:gb<w'.heap.size:=(Array.getElem?_eq_some_iff.1 hgb').1
  refine ⟨_,_,H,Z,G,FP,[gb],rfl,⟨rfl,rfl⟩,rfl,hi',?_,by simp,fun k hk=>?_,fun k hk=>?_,GLe.refl _,hEv⟩
  ·simp only[owStrs,RV]
   refine .inr ⟨gb,cap,cur,[],by rw[strs_length,hlen2],rfl,hgb',r3,by rw[strs_length];omega,r2,fun r hr=>?_,?_⟩
   ·obtain ⟨_,_,rfl⟩:=List.mem_map.1 hr;rfl
   ·refine RR_strsAt _ 0 fun i x hx=>?_
    have hil:i<ss.length:=by have:=(List.getElem?_eq_some_iff.1 hx).1;omega
    have:(cur.toList.take (ss.length*1))[i]?=some (str x):=by rw[r4,List.getElem?_map,hx];rfl
    rw[List.getElem?_take_of_lt (by omega)] at this
    unfold World.cell?
    rw[hgb',Nat.zero_add]
    simpa using this
  ·obtain rfl:=List.mem_singleton.1 hk
   exact ⟨fun hz=>by have:=hi.zlt _ hz;omega,hgl,fun i hc=>by have:=hi.flt i _ hc;omega⟩
  ·obtain rfl:=List.mem_singleton.1 hk
   exact .inl hbase
end Go.Proofs.YtmapdjdnnhlpiaaGreatDoor
