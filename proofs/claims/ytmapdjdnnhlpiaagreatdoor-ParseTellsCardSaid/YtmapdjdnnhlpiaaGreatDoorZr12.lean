/- Parts of the proof: HiDd, HiDe, HiDf, HiDg, HiDh, HiDi. -/
import Derived.Test.YtmapdjdnnhlpiaaGreatDoorZr11
import Derived.Test.YtmapdjdnnhlpiaaGreatDoorZr09
import Derived.Test.YtmapdjdnnhlpiaaGreatDoorZr06
set_option linter.unusedSectionVars false
set_option linter.unusedVariables false
set_option linter.unusedSimpArgs false
namespace Go.Proofs.YtmapdjdnnhlpiaaGreatDoor
open Go.RowKit
def anyB3 (N m:Nat) (hv:List Nat) (all:List Oper):Bool :=
 let bs:=befs all []
 (all.all fun o=>operOk N o && noDefer o) &&
 (all.zipIdx.all fun (o,j)=>(o.after.toList.all fun e=>!Region.binds .any e || decide (e.on<j)) &&
  (all.zipIdx.all fun (o',i)=>!decide (i<j) || (!(decide (m≤j) || confB all o' o || (hv.contains i && hv.contains j) || (hv.contains (2000+i) && hv.contains (1000+j)) || (hv.contains (1000+i) && hv.contains (2000+j)))) || mustB bs i j))
structure AnyOk3 (N m:Nat) (hv:List Nat) (all:List Oper):Prop where
 base:AnyOk N m all
 od1:∀(i j:Nat) o' o,i<j→all[i]?=some o'→all[j]?=some o→hv.contains (2000+i)=true→hv.contains (1000+j)=true→mustB (befs all []) i j=true
 od2:∀(i j:Nat) o' o,i<j→all[i]?=some o'→all[j]?=some o→hv.contains (1000+i)=true→hv.contains (2000+j)=true→mustB (befs all []) i j=true
 hv:∀(i j:Nat) o' o,i<j→all[i]?=some o'→all[j]?=some o→hv.contains i=true→hv.contains j=true→mustB (befs all []) i j=true
theorem anyB3_spec {N m:Nat} {hv:List Nat} {all:List Oper} (h:anyB3 N m hv all=true):AnyOk3 N m hv all:=by
 simp only[anyB3,Bool.and_eq_true] at h
 obtain ⟨h1,h2⟩:=h
 rw[List.all_eq_true] at h1 h2
 have mem:∀{j:Nat} {o:Oper},all[j]?=some o→(o,j)∈all.zipIdx:=fun {j o} hj=>by
  rw[List.mem_zipIdx_iff_getElem?];exact hj
 have key:∀(i j:Nat) o' o,i<j→all[i]?=some o'→all[j]?=some o→(decide (m≤j) || confB all o' o || (hv.contains i && hv.contains j) || (hv.contains (2000+i) && hv.contains (1000+j)) || (hv.contains (1000+i) && hv.contains (2000+j)))=true→mustB (befs all []) i j=true:=by
  intro i j o' o hij hi hj hc
  have:=h2 (o,j) (mem hj)
  simp only[Bool.and_eq_true,List.all_eq_true] at this
  have:=this.2 (o',i) (mem hi)
  simp only[hij,decide_true,Bool.not_true,Bool.false_or] at this
  rw[hc] at this
  simpa using this
 refine ⟨⟨fun j o hj=>?_,fun j o hj e he hb=>?_,fun i j o' o hij hi hj hc=>?_⟩,fun i j o' o hij hi hj h1 h2=>key i j o' o hij hi hj (by rw[h1,h2];simp),fun i j o' o hij hi hj h1 h2=>key i j o' o hij hi hj (by rw[h1,h2];simp),fun i j o' o hij hi hj h1 h2=>key i j o' o hij hi hj (by rw[h1,h2];simp)⟩
 ·have:=h1 o (List.mem_of_getElem? hj)
  simpa using this
 ·have:=h2 (o,j) (mem hj)
  simp only[Bool.and_eq_true,List.all_eq_true] at this
  have:=this.1 e he
  simp only[hb,Bool.not_true,Bool.false_or,decide_eq_true_eq] at this
  exact this
 ·refine key i j o' o hij hi hj ?_
  rcases hc with hc | hc
  ·simp[hc]
  ·simp[hc]
section go
variable {P:Program} {N L m mm B:Nat} {base:Nat×Nat} {hv:List Nat} {ro:Option Nat} {all:List Oper} {Φ:Exit→Act→World→Prop}
theorem any_mix (hA:AnyOk3 N m hv all) {Z0:Nat→Prop} {G0:List (Option OG)} {FP0:Nat→List Nat} {ds:List Nat} {T0:Nat→HV} {H0:Heap} {xs:List HV} {hs:List Heap} {w0:World} (hc0:CertNL P base hv all 0 (all.take m) T0 H0 xs hs) (hml:m≤all.length)
  (hB:∀Z FP w,Evo Z0 FP0 w0 Z FP w→Bo ro B FP w)
  (hend:∀Z G FP a w,St N B Z G FP ds (runM (fun _=>true) 0 (all.take m) xs T0) (heapAt H0 hs m) a w→GLt L G0 G→Evo Z0 FP0 w0 Z FP w→wpListIn (Wd ro) mm P all.toArray Φ (all.drop m) a w) :
  ∀(fuel:Nat) (listed:Array Bool) (c:Nat) (Z:Nat→Prop) (G:List (Option OG)) (FP:Nat→List Nat) (a:Act) (w:World),listed.size=all.length→left listed≤fuel→Closed all listed→(∀j,m≤j→j<all.length→listed.getD j false=false)→
  c≤m→(∀(j:Nat),j<m→hv.contains j=true→(listed.getD j false=true↔j<c))→
  St N B Z G FP ds (runM (fun k=>listed.getD k false) 0 (all.take m) xs T0) (heapAt H0 hs c) a w→GLt L G0 G→Evo Z0 FP0 w0 Z FP w→wpAnyIn (Wd ro) mm P .any all.toArray Φ fuel listed a w:=by
 have hlm:(all.take m).length=m:=by rw[List.length_take];omega
 have fin:∀(listed:Array Bool) (c:Nat) (Z:Nat→Prop) (G:List (Option OG)) (FP:Nat→List Nat) (a:Act) (w:World),c≤m→(∀k,k<m→listed.getD k false=true)→(∀(j:Nat),j<m→hv.contains j=true→(listed.getD j false=true↔j<c))→
   St N B Z G FP ds (runM (fun k=>listed.getD k false) 0 (all.take m) xs T0) (heapAt H0 hs c) a w→GLt L G0 G→Evo Z0 FP0 w0 Z FP w→wpListIn (Wd ro) mm P all.toArray Φ (all.drop m) a w:=by
  intro listed c Z G FP a w hcm hall hcl hs' hG hE
  have hTe:runM (fun k=>listed.getD k false) 0 (all.take m) xs T0=runM (fun _=>true) 0 (all.take m) xs T0:=by
   funext t
   refine runM_at _ _ _ _ _ rfl fun j hj=>?_
   obtain ⟨oj,h1,h2,h3⟩:=take_dst hj
   simp only[Nat.zero_add]
   exact hall j h3
  have hHe:heapAt H0 hs m=heapAt H0 hs c:=heapAt_same hc0 m c hcm (by omega) fun j h1 h2=>by
   cases hv' : hv.contains j with
   | false=>rfl
   | true=>have:=(hcl j h2 hv').1 (hall j h2);omega
  exact hend Z G FP a w (by rw[←hTe,hHe];exact hs') hG hE
 intro fuel
 induction fuel with
 | zero =>
  intro listed c Z G FP a w hsz hf hc hm hcm hcl hs' hG hE
  have hall:=left_zero (Nat.le_zero.1 hf)
  have hml' : all.length≤m:=by
   rcases Nat.lt_or_ge m all.length with h | h
   ·have h1:=hm m (Nat.le_refl _) h
    rw[hall m (by omega)] at h1;cases h1
   ·exact h
  have hno:Region.ready .any all.toArray listed=[]:=by
   rw[List.eq_nil_iff_forall_not_mem]
   intro i hi
   obtain ⟨h1,o,ho,_⟩:=mem_ready.1 hi
   rw[List.getElem?_toArray] at ho
   have hi':=(List.getElem?_eq_some_iff.1 ho).1
   have h2:=hall i (by omega)
   rw[Array.getD_eq_getD_getElem?,not_listed h1] at h2
   simp at h2
  refine ⟨hno,?_⟩
  have:=fin listed c Z G FP a w hcm (fun k hk=>hall k (by omega)) hcl hs' hG hE
  rw[List.drop_eq_nil_of_le hml'] at this
  exact this
 | succ fuel ih =>
  intro listed c Z G FP a w hsz hf hc hm hcm hcl hs' hG hE
  by_cases hall:∀k,k<m→listed.getD k false=true
  ·have h:=fin listed c Z G FP a w hcm hall hcl hs' hG hE
   refine any_tail hA.base (all.drop m) m (fuel+1) listed a w rfl (Nat.le_refl _) hml hsz hf hc (fun i hi=>⟨fun hx=>?_,fun hx=>hall i hx⟩) h
   rcases Nat.lt_or_ge i m with h' | h'
   ·exact h'
   ·rw[hm i h' hi] at hx;cases hx
  ·have hex:∃k,k<m∧listed.getD k false=false:=by
    apply Classical.byContradiction
    intro hn
    refine hall fun k h1=>?_
    cases hx:listed.getD k false with
    | true=>rfl
    | false=>exact absurd ⟨k,h1,hx⟩ hn
   obtain ⟨k,⟨hk1,hk3⟩,hkl⟩:=exists_least (p:=fun k=>k<m∧listed.getD k false=false) hex
   have hkr:k∈Region.ready .any all.toArray listed:=ready_least hA.base hsz (by omega) hk3 (fun j hj=>by
    cases hx:listed.getD j false with
    | true=>rfl
    | false=>have:=hkl j ⟨by omega,hx⟩;omega)
   refine ⟨fun h0=>by rw[h0] at hkr;simp at hkr,fun i hi=>?_⟩
   obtain ⟨h1,o,ho,ha⟩:=mem_ready.1 hi
   rw[List.getElem?_toArray] at ho
   have hil:=(List.getElem?_eq_some_iff.1 ho).1
   have hnl:=not_listed h1
   have hnf:listed.getD i false=false:=by rw[Array.getD_eq_getD_getElem?,hnl];rfl
   have him:i<m:=by
    rcases Nat.lt_or_ge i m with h' | h'
    ·exact h'
    ·have:=ready_must hA.base hc hi (hA.base.ord k i _ o (by omega) (List.getElem?_eq_getElem (show k<all.length by omega)) ho (.inl h'))
     rw[hk3] at this;cases this
   have hoT:(all.take m)[i]?=some o:=by rw[List.getElem?_take,if_pos him];exact ho
   obtain ⟨x,hx,hcert⟩:=CertNL_at (all.take m) xs hs 0 i T0 H0 o hc0 hoT
   obtain ⟨hok,hnd⟩:=hA.base.ok i o ho
   have hsee:∀t∈seenT all o,runM (fun k=>decide (k<0+i)) 0 (all.take m) xs T0 t=runM (fun k=>listed.getD k false) 0 (all.take m) xs T0 t:=by
    intro t ht
    refine runM_at _ _ _ _ _ rfl fun j hj=>?_
    obtain ⟨oj,hoj,hd,hjm⟩:=take_dst hj
    simp only[Nat.zero_add]
    rcases Nat.lt_trichotomy j i with h' | h' | h'
    ·have:=ready_must hA.base hc hi (hA.base.ord j i oj o h' hoj ho (.inr (by simp[confB,hd,ht])))
     rw[this];simp[h']
    ·subst h';rw[hnf];simp
    ·have hjl:=(List.getElem?_eq_some_iff.1 hoj).1
     cases hx:listed.getD j false with
     | false=>simp;omega
     | true =>
      have:=closed_must hA.base hc j i oj hoj (hc j oj hoj hx) (hA.base.ord i j o oj h' ho hoj (.inr (by
       unfold confB
       rw[hd]
       simp[ht])))
      rw[hnf] at this;cases this
   have hcert':=CertN_congr hsee hcert
   rw[Nat.zero_add] at hcert'
   have hdall:all.all (dstOk N)=true:=by
    rw[List.all_eq_true]
    intro o' ho'
    obtain ⟨j',hj'⟩:=List.mem_iff_getElem?.1 ho'
    have:=(hA.base.ok j' o' hj').1
    simp only[operOk,Bool.and_eq_true] at this
    exact this.1
   have heavyAt:hv.contains i=true→heapAt H0 hs c=heapAt H0 hs i∧c≤i:=fun hvi=>by
    have hci:c≤i:=by
     rcases Nat.lt_or_ge i c with h | h
     ·have:=(hcl i him hvi).2 h;rw[hnf] at this;cases this
     ·exact h
    refine ⟨(heapAt_same hc0 i c hci (by omega) fun j h1 h2=>?_).symm,hci⟩
    cases hv' : hv.contains j with
    | false=>rfl
    | true =>
     have:=ready_must hA.base hc hi (hA.hv j i _ o h2 (List.getElem?_eq_getElem (show j<all.length by omega)) ho hv' hvi)
     have:=(hcl j (by omega) hv').1 this
     omega
   have hquiet0:SameTo base.1 (heapAt H0 hs i) (heapAt H0 hs c):=by
    rcases Nat.lt_or_ge i c with h | h
    ·exact (heapAt_mono hc0 c i (by omega) (by omega)).1
    ·intro id hid
     exact ((heapAt_mono hc0 i c h (by omega)).1 id hid).symm
   have hquiet:hv.contains i=false→SameTo (bsO hv base i) (heapAt H0 hs i) (heapAt H0 hs c):=fun hvi0=>by
    cases hod:hv.contains (1000+i) with
    | false =>
     have:bsO hv base i=base.1:=by unfold bsO;rw[if_neg (by rw[hvi0];simp),if_neg (by rw[hod];simp)]
     rw[this];exact hquiet0
    | true =>
     have:bsO hv base i=base.2:=by unfold bsO;rw[if_neg (by rw[hvi0];simp),if_pos hod]
     rw[this]
     rcases Nat.lt_or_ge i c with h | h
     ·refine (heapAt_mono2 hc0 c i (by omega) (by omega) fun j h1 h2 hv' hw=>?_).1
      have hjl:j<all.length:=by omega
      have hlj:=(hcl j (by omega) hv').2 h2
      rcases Nat.lt_or_ge i j with h3 | h3
      ·have:=closed_must hA.base hc j i all[j] (List.getElem?_eq_getElem hjl) (hc j all[j] (List.getElem?_eq_getElem hjl) hlj) (hA.od2 i j o all[j] h3 ho (List.getElem?_eq_getElem hjl) hod hw)
       rw[hnf] at this;cases this
      ·obtain rfl:i=j:=by omega
       rw[hnf] at hlj;cases hlj
     ·intro id hid
      refine ((heapAt_mono2 hc0 i c h (by omega) fun j h1 h2 hv' hw=>?_).1 id hid).symm
      have:=ready_must hA.base hc hi (hA.od1 j i _ o h2 (List.getElem?_eq_getElem (show j<all.length by omega)) ho hw hod)
      have:=(hcl j (by omega) hv').1 this
      omega
   have hadd:=left_add hnl
   have hcl2:=closed_add hc (fun o' ho' e he hb=>by rw[ho] at ho';cases ho';exact ha e (by simpa using he) hb)
   have hT:runM (fun k=>(listed.setIfInBounds i true).getD k false) 0 (all.take m) xs T0=updO (runM (fun k=>listed.getD k false) 0 (all.take m) xs T0) o.dst x:=by
    refine runM_add (all.take m) xs 0 i T0 o x hoT hx ?_ ?_ ?_ ?_
    ·simp only[Nat.zero_add];exact getD_set_self (by omega)
    ·simp only[Nat.zero_add];exact hnf
    ·intro k hk
     simp only[Nat.zero_add] at hk
     simp only[Array.getD_eq_getD_getElem?,Array.getElem?_setIfInBounds_ne (Ne.symm hk)]
    ·intro k hk hS t ht hdk
     simp only[Nat.zero_add] at hS
     obtain ⟨ok,hok',hd,_⟩:=take_dst hdk
     have:=closed_must hA.base hc k i ok hok' (hc k ok hok' hS) (hA.base.ord i k o ok hk ho hok' (.inr (by
      unfold confB
      rw[ht]
      simp[hd])))
     rw[hnf] at this;cases this
   have hm2:∀j,m≤j→j<all.length→(listed.setIfInBounds i true).getD j false=false:=fun j h1 h2=>by
    cases hx:(listed.setIfInBounds i true).getD j false with
    | false=>rfl
    | true =>
     rcases getD_set_listed hx with rfl | hx
     ·omega
     ·rw[hm j h1 h2] at hx;cases hx
   cases hvi:hv.contains i with
   | true =>
    rw[hvi] at hcert'
    obtain ⟨hHc,hci⟩:=heavyAt hvi
    refine certN_run (L:=L) (Hn:=heapAt H0 hs (i+1)) hdall ho hok hnd hcert' hs' (hB Z FP w hE) hG.len (fun h=>by cases h) (fun _=>⟨hHc,rfl⟩) fun Z' G' FP' a' w' hs2 hG' hE'=>?_
    refine ih (listed.setIfInBounds i true) (i+1) Z' G' FP' a' w' (by simpa using hsz) (by omega) hcl2 hm2 (by omega) (fun j hj hv'=>?_) (by rw[hT];exact hs2) (hG.trans hG') (hE.trans hE')
    constructor
    ·intro hxx
     rcases getD_set_listed hxx with rfl | hxx
     ·omega
     ·have:=(hcl j hj hv').1 hxx;omega
    ·intro hlt
     by_cases e:j=i
     ·subst e;exact getD_set_self (by omega)
     ·refine getD_set_keep ?_
      exact ready_must hA.base hc hi (hA.hv j i _ o (by omega) (List.getElem?_eq_getElem (show j<all.length by omega)) ho hv' hvi)
   | false =>
    rw[hvi] at hcert'
    refine certN_run (L:=L) (Hn:=heapAt H0 hs c) hdall ho hok hnd hcert' hs' (hB Z FP w hE) hG.len (fun _=>⟨rfl,hquiet hvi⟩) (fun h=>by cases h) fun Z' G' FP' a' w' hs2 hG' hE'=>?_
    refine ih (listed.setIfInBounds i true) c Z' G' FP' a' w' (by simpa using hsz) (by omega) hcl2 hm2 hcm (fun j hj hv'=>?_) (by rw[hT];exact hs2) (hG.trans hG') (hE.trans hE')
    rw[←hcl j hj hv']
    constructor
    ·intro hxx
     rcases getD_set_listed hxx with rfl | hxx
     ·rw[hvi] at hv';cases hv'
     ·exact hxx
    ·exact getD_set_keep
end go
section
variable {P:Program} {N L base:Nat} {hv:List Nat} {Q:Exit→KS} {H:Heap}
def isTo:Nat→Heap→Heap→Prop
 | 0,_,_=>True
 | m+1,a::t,b::u=>a=b∧isTo m t u
 | _,_,_=>False
theorem isTo_spec:∀{m:Nat} {H H' : Heap},isTo m H H'→SameTo m H H'
 | 0,_,_,_=>fun id h=>absurd h (Nat.not_lt_zero _)
 | m+1,a::t,b::u,h=>by
  obtain ⟨rfl,h⟩:=h
  intro id hid
  cases id with
  | zero=>rfl
  | succ id=>simpa using isTo_spec h id (by omega)
 | _+1,[],_,h=>by simp[isTo] at h
 | _+1,_::_,[],h=>by simp[isTo] at h
def exRm (k:KS) (base:Nat) (res:Res) (d:Option Nat) (T:Nat→HV) (H:Heap):Prop:=onR res fun x H'=>isTo base H H'∧H.length≤H'.length∧k (updO T d x) H'
def exRn (k:KS) (res:Res) (d:Option Nat) (T:Nat→HV) (H:Heap):Prop:=onR res fun x _=>k (updO T d x) H
def callM (k:KS) (P:Program) (fid:Nat) (H:Heap) (args:List HV) (d:Option Nat) (T:Nat→HV):Prop :=
 ∃n R args',HFn P fid args' R∧LendOk n H args args' R∧k (updO T d (nameV R H).1) (nameV R H).2
def exCallM (k:KS) (P:Program) (f:HV) (H:Heap) (args:List HV) (d:Option Nat) (T:Nat→HV):Prop :=
 match f with
 | .fn fid caps=>callM k P (fnF fid) H (fnA fid .any args caps) d T
 | _=>False
def exInvM2 (k:KS) (P:Program) (f:Option Nat) (H:Heap) (args:List HV) (d:Option Nat) (T:Nat→HV):Prop :=
 match f with
 | some fid=>callM k P fid H args d T
 | none=>False
def exInvM (k:KS) (P:Program) (rv:HV) (name:String) (H:Heap) (args:List HV) (d:Option Nat) (T:Nat→HV):Prop :=
 match rv with
 | .ic t x=>exInvM2 k P (methodFn P t name) H (x::args) d T
 | _=>False
def callN (k:KS) (P:Program) (fid:Nat) (H:Heap) (args:List HV) (d:Option Nat) (T:Nat→HV):Prop :=
 ∃R,HFn P fid args R∧nmL 0 args=true∧k (updO T d (fzo R)) H
def exCallN (k:KS) (P:Program) (f:HV) (H:Heap) (args:List HV) (d:Option Nat) (T:Nat→HV):Prop :=
 match f with
 | .fn fid caps=>callN k P (fnF fid) H (fnA fid .any args caps) d T
 | _=>False
def exInvN2 (k:KS) (P:Program) (f:Option Nat) (H:Heap) (args:List HV) (d:Option Nat) (T:Nat→HV):Prop :=
 match f with
 | some fid=>callN k P fid H args d T
 | none=>False
def exInvN (k:KS) (P:Program) (rv:HV) (name:String) (H:Heap) (args:List HV) (d:Option Nat) (T:Nat→HV):Prop :=
 match rv with
 | .ic t x=>exInvN2 k P (methodFn P t name) H (x::args) d T
 | _=>False
def exOm (k:KS) (P:Program) (base:Nat) (d:Option Nat) (op:Op) (T:Nat→HV) (H:Heap):Prop :=
 match op with
 | .call { callee:=.value f,args:=args,argTypes:=_ }=>base≤H.length∧exCallM k P (hev T f) H (args.toList.map (hev T)) d T
 | .call { callee:=.invoke rv name,args:=args,argTypes:=_ }=>base≤H.length∧exInvM k P (hev T rv) name H (args.toList.map (hev T)) d T
 | op=>exRm k base (rop P T H op) d T H
def exOn (k:KS) (P:Program) (base:Nat) (d:Option Nat) (op:Op) (T:Nat→HV) (H:Heap):Prop :=
 match op with
 | .call { callee:=.value f,args:=args,argTypes:=_ }=>exCallN k P (hev T f) H (args.toList.map (hev T)) d T
 | .call { callee:=.invoke rv name,args:=args,argTypes:=_ }=>exInvN k P (hev T rv) name H (args.toList.map (hev T)) d T
 | .buildSlice t len parts=>exRn k (rbuildSliceF P T H t len parts.toList) d T H
 | op=>(indep op=true∨(op.operands.toList.all fun y=>nm base (hev T y))=true)∧exRn k (ropQ P T H op) d T H
def exOe (k:KS) (P:Program) (base:Nat) (h:Bool) (d:Option Nat) (op:Op) (T:Nat→HV) (H:Heap):Prop :=
 match h with
 | true=>exOm k P base d op T H
 | false=>exOn k P base d op T H
def exBm2 (k:KS) (P:Program) (base:Nat) (h:Bool) (v:HV) (b:Bool) (d:Option Nat) (op:Op) (T:Nat→HV) (H:Heap):Prop :=
 match v with
 | .v (.bool c)=>(c=b→exOe k P base h d op T H)∧(c=(!b)→k (updO T d (.v undef)) H)
 | .v (.tuple _)=>k (updO T d (.v undef)) H
 | _=>False
def exBm (k:KS) (P:Program) (base:Nat) (h:Bool) (t:Option Nat) (b:Bool) (d:Option Nat) (op:Op) (T:Nat→HV) (H:Heap):Prop :=
 match t with
 | some t=>exBm2 k P base h (T t) b d op T H
 | none=>False
def exGm (P:Program) (base:Nat) (h:Bool) (all:List Oper) (o:Oper) (k:KS) (T:Nat→HV) (H:Heap):Prop :=
 match o.guard with
 | none=>exOe k P base h o.dst o.op T H
 | some (j,b)=>exBm k P base h (dstAt all j) b o.dst o.op T H
def exM (P:Program) (base:Nat×Nat) (hv:List Nat) (all:List Oper) (k:KS):Nat→List Oper→KS
 | _,[]=>k
 | j,o::l=>fun T H=>exGm P (bsO hv base j) (hv.contains j) all o (exM P base hv all k (j+1) l) T H
theorem exOm_cert {k:KS} {d:Option Nat} {op:Op} {T:Nat→HV} (h:exOm k P base d op T H):∃x H',CertM P base T H op x H'∧k (updO T d x) H':=by
 have named:∀(R:HV),base≤H.length→SameTo base H (nameV R H).2∧H.length≤(nameV R H).2.length:=fun R hb=>by
  obtain ⟨B,hB⟩:=nameV_app R H
  rw[hB]
  exact ⟨SameTo.app B hb,by simp⟩
 unfold exOm at h
 split at h
 ·rename_i f args tys
  obtain ⟨hb,h⟩:=h
  unfold exCallM at h
  split at h
  ·rename_i fid caps hf
   obtain ⟨n,R,args',h1,h2,h3⟩:=h
   obtain ⟨k1,k2⟩:=named R hb
   exact ⟨_,_,⟨k1,k2,.inl ⟨f,args,tys,fid,caps,n,R,args',rfl,hf,h1,h2,rfl⟩⟩,h3⟩
  ·exact h.elim
 ·rename_i rv name args tys
  obtain ⟨hb,h⟩:=h
  unfold exInvM at h
  split at h
  ·rename_i t y hf
   unfold exInvM2 at h
   split at h
   ·rename_i fid hm
    obtain ⟨n,R,args',h1,h2,h3⟩:=h
    obtain ⟨k1,k2⟩:=named R hb
    exact ⟨_,_,⟨k1,k2,.inr (.inl ⟨rv,name,args,tys,t,y,fid,n,R,args',rfl,hf,hm,h1,h2,rfl⟩)⟩,h3⟩
   ·exact h.elim
  ·exact h.elim
 ·unfold exRm at h
  cases hr:rop P T H op with
  | none=>rw[hr] at h;exact h.elim
  | some q =>
   obtain ⟨p,x,H'⟩:=q
   rw[hr] at h
   exact ⟨x,H',⟨isTo_spec h.2.1,h.2.2.1,.inr (.inr ⟨p,h.1,hr⟩)⟩,h.2.2.2⟩
theorem exOn_cert {k:KS} {d:Option Nat} {op:Op} {T:Nat→HV} (h:exOn k P base d op T H):∃x,CertQ P base T H op x∧k (updO T d x) H:=by
 unfold exOn at h
 split at h
 ·rename_i f args tys
  unfold exCallN at h
  split at h
  ·rename_i fid caps hf
   obtain ⟨R,h1,h2,h3⟩:=h
   exact ⟨_,.inr (.inl ⟨f,args,tys,fid,caps,R,rfl,hf,h1,h2,rfl⟩),h3⟩
  ·exact h.elim
 ·rename_i rv name args tys
  unfold exInvN at h
  split at h
  ·rename_i t y hf
   unfold exInvN2 at h
   split at h
   ·rename_i fid hm
    obtain ⟨R,h1,h2,h3⟩:=h
    exact ⟨_,.inr (.inr (.inl ⟨rv,name,args,tys,t,y,fid,R,rfl,hf,hm,h1,h2,rfl⟩)),h3⟩
   ·exact h.elim
  ·exact h.elim
 ·rename_i t len parts
  unfold exRn at h
  cases hr:rbuildSliceF P T H t len parts.toList with
  | none=>rw[hr] at h;exact h.elim
  | some q =>
   obtain ⟨p,x,H'⟩:=q
   rw[hr] at h
   exact ⟨x,.inr (.inr (.inr ⟨t,len,parts,p,H',rfl,h.1,hr⟩)),h.2⟩
 ·obtain ⟨hi,h⟩:=h
  unfold exRn at h
  cases hr:ropQ P T H op with
  | none=>rw[hr] at h;exact h.elim
  | some q =>
   obtain ⟨p,x,H'⟩:=q
   rw[hr] at h
   exact ⟨x,.inl ⟨p,H',h.1,hr,hi.imp id fun hi y hy=>List.all_eq_true.1 hi y hy⟩,h.2⟩
theorem exOe_cert {k:KS} {d:Option Nat} {h0:Bool} {op:Op} {T:Nat→HV} (h:exOe k P base h0 d op T H):∃x H',CertE P base h0 T H op x H'∧k (updO T d x) H':=by
 cases h0 with
 | true=>exact exOm_cert h
 | false =>
  obtain ⟨x,h1,h2⟩:=exOn_cert h
  exact ⟨x,H,⟨h1,rfl⟩,h2⟩
theorem exGm_cert {all:List Oper} {h0:Bool} {o:Oper} {k:KS} {T:Nat→HV} (h:exGm P base h0 all o k T H):∃x H',CertN P base h0 all T H o x H'∧k (updO T o.dst x) H':=by
 unfold exGm at h
 unfold CertN
 split at h
 ·rename_i hg
  try rw[hg]
  exact exOe_cert h
 ·rename_i j b hg
  try rw[hg]
  try simp only
  unfold exBm at h
  split at h
  ·rename_i t ht
   unfold exBm2 at h
   split at h
   ·rename_i c hv
    by_cases hcb:c=b
    ·obtain ⟨x,H',h1,h2⟩:=exOe_cert (h.1 hcb)
     exact ⟨x,H',⟨t,ht,.inl ⟨c,hv,fun _=>h1,fun hc=>by subst hcb;cases c <;> simp at hc⟩⟩,h2⟩
    ·have hc:c=(!b):=by cases c <;> cases b <;> simp_all
     exact ⟨.v undef,H,⟨t,ht,.inl ⟨c,hv,fun hc'=>absurd hc' hcb,fun _=>⟨rfl,rfl⟩⟩⟩,h.2 hc⟩
   ·rename_i ts hv
    exact ⟨.v undef,H,⟨t,ht,.inr ⟨ts,hv,rfl,rfl⟩⟩,h⟩
   ·exact h.elim
  ·exact h.elim
theorem exM_cert {base:Nat×Nat} {all:List Oper} {k:KS}:∀(l:List Oper) (i:Nat) (T:Nat→HV) (H:Heap),exM P base hv all k i l T H→∃xs hs,CertNL P base hv all i l T H xs hs∧k (runM (fun _=>true) i l xs T) (heapAt H hs l.length)
 | [],i,T,H,h=>⟨[],[],⟨rfl,rfl⟩,h⟩
 | o::l,i,T,H,h=>by
  obtain ⟨x,H',h1,h2⟩:=exGm_cert h
  obtain ⟨xs,hs,h3,h4⟩:=exM_cert l (i+1) _ H' h2
  exact ⟨x::xs,H'::hs,⟨x,H',xs,hs,rfl,rfl,h1,h3⟩,h4⟩
theorem HW.mixed {id:Nat} {all:List Oper} {T:Nat→HV} (n m:Nat) (base:Nat×Nat) (hv:List Nat) (hm:P.follows .mixedOrders=true) (hB:anyB3 N m hv all=true) (hml:m≤all.length)
  (h:exM P base hv all (ex P N L Q n [.ops all (all.drop m)]) 0 (all.take m) T H):HW P N L (.region id all.toArray true) Q T H:=by
 obtain ⟨xs,hs,hc,hex⟩:=exM_cert (all.take m) 0 T H h
 have hlm:(all.take m).length=m:=by rw[List.length_take];omega
 rw[hlm] at hex
 intro ro mm B Z G FP ds a w hB' hL hst
 have hA:=anyB3_spec hB
 have hEv:Evo Z FP w Z FP { w with drawn:=w.drawn+1 }:=⟨rfl,rfl,rfl,Nat.le_refl _,fun _ _ _=>rfl,fun _ h=>h,fun _ h=>.inl h,fun id b hb=>.inr ⟨id,hb⟩⟩
 have hi:HInv Z G FP H { w with drawn:=w.drawn+1 }:=hst.inv.keep (Nat.le_refl _) (fun _ _=>rfl)
 have hs':=hst.evo hi (GLe.refl _) hEv
 have hallok:(all.all fun o=>operOk N o && noDefer o)=true:=by
  rw[List.all_eq_true]
  intro o ho
  obtain ⟨j,hj⟩:=List.mem_iff_getElem?.1 ho
  have:=hA.base.ok j o hj
  simp[this.1,this.2]
 have hdrop:((all.drop m).all fun o=>operOk N o && noDefer o)=true:=by
  rw[List.all_eq_true]
  intro o ho
  exact List.all_eq_true.1 hallok o (List.mem_of_mem_drop ho)
 refine wpIn_region_any hm ?_
 refine any_mix (m:=m) (B:=B) (L:=L) (Z0:=Z) (G0:=G) (FP0:=FP) (ds:=ds) (w0:=w) hA hc hml (fun Z' FP' w' hE=>hB'.evo hE) ?_ _ _ 0 Z G FP _ _ (by simp) ?_ ?_ (fun j h1 h2=>?_) (Nat.zero_le _) (fun j hj hv=>?_) ?_ (GLt.refl hL) hEv
 ·intro Z1 G1 FP1 a1 w1 hs1 hG1 hE1
  have:=ex_run n [.ops all (all.drop m)] _ _ hex (by simp[itemOk,hallok,hdrop]) ro mm B Z G FP w Z1 G1 FP1 ds a1 w1 (hB'.evo hE1) hs1 hG1 hE1
  simp only[M] at this
  exact this
 ·have:∀k:Nat,left (Array.replicate k false)=k:=by intro k;simp[left]
  rw[this];simp
 ·intro j o hj hl
  exfalso
  have hjl:=(List.getElem?_eq_some_iff.1 hj).1
  simp[Array.getD_eq_getD_getElem?,hjl] at hl
 ·simp[Array.getD_eq_getD_getElem?,h2]
 ·simp[Array.getD_eq_getD_getElem?,show j<all.length by omega]
 ·have e:runM (fun k=>(Array.replicate all.toArray.size false).getD k false) 0 (all.take m) xs T=T:=by
   funext t
   rw[runM_no]
   intro j _
   simp only[Array.getD_eq_getD_getElem?]
   by_cases hlt:0+j<all.toArray.size
   ·have:0+j<all.length:=by simpa using hlt
    rw[Array.getElem?_eq_getElem (by simpa using hlt)]
    simp
   ·rw[Array.getElem?_eq_none (by simpa using hlt)];rfl
  rw[e]
  exact hs'
end
end Go.Proofs.YtmapdjdnnhlpiaaGreatDoor
namespace Go.Proofs.YtmapdjdnnhlpiaaGreatDoor
open Go.RowKit
section
variable {P:Program} {all l:List Oper} {k:KS} {d:Option Nat} {T:Nat→HV} {H:Heap} {base j:Nat} {bs:Nat×Nat} {hv:List Nat} {h:Bool}
theorem exM_nil:exM P bs hv all k j [] T H=k T H:=rfl
theorem exM_op {op:Op} {ty:TypeId} {pos:String} {af:Array Edge}:exM P bs hv all k j (⟨d,op,ty,pos,af,none⟩::l) T H=exOe (exM P bs hv all k (j+1) l) P (bsO hv bs j) (hv.contains j) d op T H:=rfl
theorem exM_opg {op:Op} {ty:TypeId} {pos:String} {af:Array Edge} {i:Nat} {b:Bool}:exM P bs hv all k j (⟨d,op,ty,pos,af,some (i,b)⟩::l) T H=exBm (exM P bs hv all k (j+1) l) P (bsO hv bs j) (hv.contains j) (dstAt all i) b d op T H:=rfl
theorem exOe_true {op:Op}:exOe k P base true d op T H=exOm k P base d op T H:=rfl
theorem exOe_false {op:Op}:exOe k P base false d op T H=exOn k P base d op T H:=rfl
theorem exOe_congr {h h' : Bool} {op:Op} (e:h=h'):exOe k P base h d op T H=exOe k P base h' d op T H:=by rw[e]
theorem exBm_some {t:Nat} {b:Bool} {op:Op}:exBm k P base h (some t) b d op T H=exBm2 k P base h (T t) b d op T H:=rfl
theorem exBm2_tt {op:Op}:exBm2 k P base h (.v (.bool true)) true d op T H=exOe k P base h d op T H:=by simp[exBm2]
theorem exBm2_ff {op:Op}:exBm2 k P base h (.v (.bool false)) false d op T H=exOe k P base h d op T H:=by simp[exBm2]
theorem exBm2_tf {op:Op}:exBm2 k P base h (.v (.bool true)) false d op T H=k (updO T d (.v undef)) H:=by simp[exBm2]
theorem exBm2_ft {op:Op}:exBm2 k P base h (.v (.bool false)) true d op T H=k (updO T d (.v undef)) H:=by simp[exBm2]
theorem exBm2_undef {b:Bool} {op:Op}:exBm2 k P base h (.v undef) b d op T H=k (updO T d (.v undef)) H:=rfl
theorem exBm2_bool {c b:Bool} {op:Op}:exBm2 k P base h (.v (.bool c)) b d op T H=((c=b→exOe k P base h d op T H)∧(c=(!b)→k (updO T d (.v undef)) H)):=rfl
theorem exRn_rv {p:Prop} {x:HV} {H' : Heap}:exRn k (rv H' p x) d T H=(p∧k (updO T d x) H):=rfl
theorem exRn_none:exRn k none d T H=False:=rfl
theorem exRm_some {p:Prop} {x:HV} {H' : Heap}:exRm k base (some (p,x,H')) d T H=(p∧isTo base H H'∧H.length≤H'.length∧k (updO T d x) H'):=rfl
theorem exRm_rv {p:Prop} {x:HV} {H' : Heap}:exRm k base (rv H' p x) d T H=(p∧isTo base H H'∧H.length≤H'.length∧k (updO T d x) H'):=rfl
theorem exRm_none:exRm k base none d T H=False:=rfl
theorem exRn_congr {x x' : Res} (e:x=x'):exRn k x d T H=exRn k x' d T H:=by rw[e]
theorem exRm_congr {x x' : Res} (e:x=x'):exRm k base x d T H=exRm k base x' d T H:=by rw[e]
theorem exBm_congr {t t' : Option Nat} {b:Bool} {op:Op} {h h' : Bool} (e:t=t') (e2:h=h'):exBm k P base h t b d op T H=exBm k P base h' t' b d op T H:=by rw[e,e2]
theorem exBm2_congr {v v' : HV} {b:Bool} {op:Op} (e:v=v'):exBm2 k P base h v b d op T H=exBm2 k P base h v' b d op T H:=by rw[e]
theorem exCallM_fn {fid:Nat} {caps args:List HV} (h:fid<4294967296):exCallM k P (.fn fid caps) H args d T=callM k P fid H (args++caps) d T:=by
 show callM k P (fnF fid) H (fnA fid .any args caps) d T=_
 rw[fnF_lt h,fnA_lt h]
theorem exCallM_meth {fid:Nat} {x:HV} {caps args:List HV} (h:¬fid<4294967296):exCallM k P (.fn fid (x::caps)) H args d T=callM k P (fnF fid) H (x::(args++caps)) d T:=by
 show callM k P (fnF fid) H (fnA fid .any args (x::caps)) d T=_
 rw[fnA_ge h];rfl
theorem exCallM_congr {f f' : HV} {args args' : List HV} (hf:f=f') (ha:args=args'):exCallM k P f H args d T=exCallM k P f' H args' d T:=by rw[hf,ha]
theorem exInvM_ic {t:TypeId} {x:HV} {name:String} {args:List HV}:exInvM k P (.ic t x) name H args d T=exInvM2 k P (methodFn P t name) H (x::args) d T:=rfl
theorem exInvM2_some {fid:Nat} {args:List HV}:exInvM2 k P (some fid) H args d T=callM k P fid H args d T:=rfl
theorem exInvM_congr {f f' : HV} {name:String} {args args' : List HV} (hf:f=f') (ha:args=args'):exInvM k P f name H args d T=exInvM k P f' name H args' d T:=by rw[hf,ha]
theorem exInvM2_congr {f f' : Option Nat} {args args' : List HV} (hf:f=f') (ha:args=args'):exInvM2 k P f H args d T=exInvM2 k P f' H args' d T:=by rw[hf,ha]
theorem exCallN_fn {fid:Nat} {caps args:List HV} (h:fid<4294967296):exCallN k P (.fn fid caps) H args d T=callN k P fid H (args++caps) d T:=by
 show callN k P (fnF fid) H (fnA fid .any args caps) d T=_
 rw[fnF_lt h,fnA_lt h]
theorem exCallN_meth {fid:Nat} {x:HV} {caps args:List HV} (h:¬fid<4294967296):exCallN k P (.fn fid (x::caps)) H args d T=callN k P (fnF fid) H (x::(args++caps)) d T:=by
 show callN k P (fnF fid) H (fnA fid .any args (x::caps)) d T=_
 rw[fnA_ge h];rfl
theorem exCallN_congr {f f' : HV} {args args' : List HV} (hf:f=f') (ha:args=args'):exCallN k P f H args d T=exCallN k P f' H args' d T:=by rw[hf,ha]
theorem exInvN_ic {t:TypeId} {x:HV} {name:String} {args:List HV}:exInvN k P (.ic t x) name H args d T=exInvN2 k P (methodFn P t name) H (x::args) d T:=rfl
theorem exInvN2_some {fid:Nat} {args:List HV}:exInvN2 k P (some fid) H args d T=callN k P fid H args d T:=rfl
theorem exInvN_congr {f f' : HV} {name:String} {args args' : List HV} (hf:f=f') (ha:args=args'):exInvN k P f name H args d T=exInvN k P f' name H args' d T:=by rw[hf,ha]
theorem exInvN2_congr {f f' : Option Nat} {args args' : List HV} (hf:f=f') (ha:args=args'):exInvN2 k P f H args d T=exInvN2 k P f' H args' d T:=by rw[hf,ha]
theorem exOm_call {f:Operand} {args:List Operand} {tys:Array TypeId}:exOm k P base d (.call { callee:=.value f,args:=List.toArray args,argTypes:=tys }) T H=(base≤H.length∧exCallM k P (hev T f) H (args.map (hev T)) d T):=rfl
theorem exOm_invoke {rv:Operand} {name:String} {args:List Operand} {tys:Array TypeId}:exOm k P base d (.call { callee:=.invoke rv name,args:=List.toArray args,argTypes:=tys }) T H=(base≤H.length∧exInvM k P (hev T rv) name H (args.map (hev T)) d T):=rfl
theorem exOn_call {f:Operand} {args:List Operand} {tys:Array TypeId}:exOn k P base d (.call { callee:=.value f,args:=List.toArray args,argTypes:=tys }) T H=exCallN k P (hev T f) H (args.map (hev T)) d T:=rfl
theorem exOn_invoke {rv:Operand} {name:String} {args:List Operand} {tys:Array TypeId}:exOn k P base d (.call { callee:=.invoke rv name,args:=List.toArray args,argTypes:=tys }) T H=exInvN k P (hev T rv) name H (args.map (hev T)) d T:=rfl
theorem exOn_buildSlice {t:TypeId} {len:Nat} {ps:List (Nat×Operand)}:exOn k P base d (.buildSlice t len (List.toArray ps)) T H=exRn k (rbuildSliceF P T H t len ps) d T H:=rfl
theorem seesN {op:Op} {q:Prop} {b:Bool} (hi:indep op=false) (hb:(op.operands.toList.all fun y=>nm base (hev T y))=b):((indep op=true∨(op.operands.toList.all fun y=>nm base (hev T y))=true)∧q)=(b=true∧q):=by
 rw[hi,hb];simp
theorem indepN {op:Op} {q:Prop} {r:Prop} (hi:indep op=true):((indep op=true∨r)∧q)=q:=by
 rw[hi];simp
theorem exOn_move {x:Operand}:exOn k P base d (.move x) T H=exRn k (ropQ P T H (.move x)) d T H:=indepN rfl
theorem exOn_assign {x:Operand}:exOn k P base d (.assign x) T H=exRn k (ropQ P T H (.assign x)) d T H:=indepN rfl
theorem exOn_pick {c x y:Operand}:exOn k P base d (.pick c x y) T H=exRn k (ropQ P T H (.pick c x y)) d T H:=indepN rfl
theorem exOn_build {t:TypeId} {ps:Array (Nat×Operand)}:exOn k P base d (.build t ps) T H=exRn k (ropQ P T H (.build t ps)) d T H:=indepN rfl
theorem exOn_bin {op:BinOp} {t t' : TypeId} {x y:Operand}:exOn k P base d (.binOp op t x y t') T H=exRn k (ropQ P T H (.binOp op t x y t')) d T H:=indepN rfl
theorem exOn_un {op:UnOp} {t:TypeId} {x:Operand}:exOn k P base d (.unOp op t x) T H=exRn k (ropQ P T H (.unOp op t x)) d T H:=indepN rfl
theorem exOn_iface {t:TypeId} {x:Operand}:exOn k P base d (.makeInterface t x) T H=exRn k (ropQ P T H (.makeInterface t x)) d T H:=indepN rfl
theorem exOn_meth {f:Nat} {x:Operand} {cs:List Operand}:exOn k P base d (.makeFunc (.func f) (List.toArray [x]) (List.toArray cs)) T H=exRn k (ropQ P T H (.makeFunc (.func f) (List.toArray [x]) (List.toArray cs))) d T H:=indepN rfl
theorem exOn_func {f:Nat} {cs:List Operand}:exOn k P base d (.makeFunc (.func f) #[] (List.toArray cs)) T H=exRn k (ropQ P T H (.makeFunc (.func f) #[] (List.toArray cs))) d T H:=indepN rfl
theorem exOn_field {t:TypeId} {x:Operand} {i:Nat}:exOn k P base d (.field t x i) T H=exRn k (ropQ P T H (.field t x i)) d T H:=indepN rfl
theorem exOn_index {t:TypeId} {x i:Operand}:exOn k P base d (.index t x i) T H=exRn k (ropQ P T H (.index t x i)) d T H:=indepN rfl
theorem exOn_extract {x:Operand} {i:Nat}:exOn k P base d (.extract x i) T H=exRn k (ropQ P T H (.extract x i)) d T H:=indepN rfl
theorem exOn_load {t:TypeId} {a:Operand}:exOn k P base d (.load t a) T H=(nm base (hev T a)=true∧exRn k (ropQ P T H (.load t a)) d T H):=seesN rfl (by simp[Op.operands,Call.operands])
theorem exOn_nilCheck {x:Operand}:exOn k P base d (.nilCheck x) T H=(nm base (hev T x)=true∧exRn k (ropQ P T H (.nilCheck x)) d T H):=seesN rfl (by simp[Op.operands,Call.operands])
theorem exOn_conv {s t:TypeId} {x:Operand}:exOn k P base d (.convert s t x) T H=(nm base (hev T x)=true∧exRn k (ropQ P T H (.convert s t x)) d T H):=seesN rfl (by simp[Op.operands,Call.operands])
theorem exOn_fieldAddr {t:TypeId} {x:Operand} {i:Nat}:exOn k P base d (.fieldAddr t x i) T H=(nm base (hev T x)=true∧exRn k (ropQ P T H (.fieldAddr t x i)) d T H):=seesN rfl (by simp[Op.operands,Call.operands])
theorem exOn_indexAddr {t:TypeId} {x i:Operand}:exOn k P base d (.indexAddr t x i) T H=((nm base (hev T x) && nm base (hev T i))=true∧exRn k (ropQ P T H (.indexAddr t x i)) d T H):=seesN rfl (by simp[Op.operands,Call.operands])
theorem exOn_len {x:Operand} {t:TypeId}:exOn k P base d (.call { callee:=.builtin .len,args:=#[x],argTypes:=#[t] }) T H=(nm base (hev T x)=true∧exRn k (ropQ P T H (.call { callee:=.builtin .len,args:=#[x],argTypes:=#[t] })) d T H):=seesN rfl (by simp[Op.operands,Call.operands])
theorem exOn_max {x y:Operand} {t u:TypeId}:exOn k P base d (.call { callee:=.builtin .max,args:=#[x,y],argTypes:=#[t,u] }) T H=((nm base (hev T x) && nm base (hev T y))=true∧exRn k (ropQ P T H (.call { callee:=.builtin .max,args:=#[x,y],argTypes:=#[t,u] })) d T H):=seesN rfl (by simp[Op.operands,Call.operands])
theorem exOn_min {x y:Operand} {t u:TypeId}:exOn k P base d (.call { callee:=.builtin .min,args:=#[x,y],argTypes:=#[t,u] }) T H=((nm base (hev T x) && nm base (hev T y))=true∧exRn k (ropQ P T H (.call { callee:=.builtin .min,args:=#[x,y],argTypes:=#[t,u] })) d T H):=seesN rfl (by simp[Op.operands,Call.operands])
theorem exOm_alloc {t:TypeId}:exOm k P base d (.alloc t) T H=exRm k base (ralloc P H t) d T H:=rfl
theorem exOm_box {t:TypeId} {x:Operand}:exOm k P base d (.box t x) T H=exRm k base (rbox P H t (hev T x)) d T H:=rfl
theorem exOm_buildSlice {t:TypeId} {len:Nat} {ps:List (Nat×Operand)}:exOm k P base d (.buildSlice t len (List.toArray ps)) T H=exRm k base (rbuildSlice P T H t len ps) d T H:=rfl
theorem exOm_makeSlice {t:TypeId} {x y:Operand}:exOm k P base d (.makeSlice t x y) T H=exRm k base (rmakeSlice P H t (hev T x) (hev T y)) d T H:=rfl
theorem exOm_load {t:TypeId} {a:Operand}:exOm k P base d (.load t a) T H=exRm k base (rload P H t (hev T a)) d T H:=rfl
theorem exOm_store {t:TypeId} {a x:Operand}:exOm k P base d (.store t a x) T H=exRm k base (rstore P H t (hev T a) (hev T x)) d T H:=rfl
theorem exOm_append {s x:Operand} {t:TypeId}:exOm k P base d (.call { callee:=.builtin .append,args:=#[s,x],argTypes:=#[t,t] }) T H=exRm k base (rappend P H t (hev T s) (hev T x)) d T H:=by
 show exRm k base (if t=t then rappend P H t (hev T s) (hev T x) else none) d T H=_
 rw[if_pos rfl]
theorem isTo_zero {H H' : Heap}:isTo 0 H H'=True:=by cases H <;> cases H' <;> rfl
theorem isTo_cons {m:Nat} {a:Option HObj} {t u:Heap}:isTo (m+1) (a::t) (a::u)=isTo m t u:=by simp[isTo]
end
attribute [congr] exRn_congr exRm_congr exBm_congr exBm2_congr exCallM_congr exInvM_congr exInvM2_congr exCallN_congr exInvN_congr exInvN2_congr exOe_congr
attribute [go_sem high] exBm2_tt exBm2_ff exBm2_tf exBm2_ft exBm2_undef exOe_true exOe_false
attribute [go_sem] bsO exRn_rv exRn_none exRm_some exRm_rv exRm_none exBm_some exBm2_bool exCallM_fn exCallM_meth exCallN_meth exInvM_ic exInvM2_some exCallN_fn exInvN_ic exInvN2_some isTo_zero isTo_cons List.contains_cons List.contains_nil
attribute [go_sem ↓] exM_nil exM_op exM_opg exOm_call exOm_invoke exOn_call exOn_invoke exOn_buildSlice exOm_append exOn_move exOn_assign exOn_pick exOn_build exOn_bin exOn_un exOn_iface exOn_func exOn_meth exOn_field exOn_index exOn_extract exOn_load exOn_nilCheck exOn_conv exOn_fieldAddr exOn_indexAddr exOn_len exOn_max exOn_min exOm_alloc exOm_box exOm_buildSlice exOm_makeSlice exOm_load exOm_store
end Go.Proofs.YtmapdjdnnhlpiaaGreatDoor
namespace Go.Proofs.YtmapdjdnnhlpiaaGreatDoor
open Go.RowKit
section
variable {N L:Nat} {T:Nat→HV} {H:Heap}
theorem Ghost.open (id r c:Nat):Ghost N L T H T (gopen H id r c):=fun B Z G FP ds a w hL hs=>by
 obtain ⟨G',FP',h1,h2,h3⟩:=gopen_inv hs.inv id r c
 exact ⟨Z,G',FP',hs.evo h1 h2 h3,GLt.of hL h2,h3⟩
theorem Ghost.to {T' : Nat→HV} {H1 H2:Heap} (g:Ghost N L T H T' H1) (e:H1=H2):Ghost N L T H T' H2:=e▸g
theorem absorb_hd {id r c j len:Nat} {ob oj:HObj} {row:List HV} (ho:H[id]?=some (some ob)) (hr:ob.rows[r]?=some row) (hc:row[c]?=some (.hd j 0 len)) (hj:H[j]?=some (some oj)) (h1:j≠id) (h2:len=oj.rows.length) (h3:nmR 0 oj.rows=true) :
  absorb H id r c=(H.set j none).set id (some { ob with rows:=ob.rows.set r (row.set c (.ow oj.e oj.sz oj.rows)) }):=by
 unfold absorb
 simp only[ho,hr,hc,hj]
 rw[if_pos ⟨h1,h2,h3⟩]
theorem Ghost.absorbHd (id r c:Nat) {j len:Nat} {ob oj:HObj} {row:List HV} (ho:H[id]?=some (some ob)) (hr:ob.rows[r]?=some row) (hc:row[c]?=some (.hd j 0 len)) (hj:H[j]?=some (some oj)) (h1:j≠id) (h2:len=oj.rows.length) (h3:nmR 0 oj.rows=true) :
  Ghost N L T H T ((H.set j none).set id (some { ob with rows:=ob.rows.set r (row.set c (.ow oj.e oj.sz oj.rows)) })):=(Ghost.absorb id r c).to (absorb_hd ho hr hc hj h1 h2 h3)
theorem row_last {A:List (List HV)} {r:List HV} {i:Nat} (h:A.length=i):(A++[r])[i]?=some r:=by subst h;simp
theorem set_last {A:List (List HV)} {r x:List HV} {i:Nat} (h:A.length=i):(A++[r]).set i x=A++[x]:=by subst h;simp
variable {R:(Nat→HV)→Heap→Prop} {T' : Nat→HV} {H' : Heap}
theorem GQ.step (g:Ghost N L T H T' H') (h:GQ N L R T' H'):GQ N L R T H:=by
 obtain ⟨T2,H2,g2,hR⟩:=h
 exact ⟨T2,H2,g.trans g2,hR⟩
theorem GQ.done (h:R T H):GQ N L R T H:=⟨T,H,Ghost.refl,h⟩
end
theorem gopens_4 {H:Heap} {id r c:Nat}:gopens H id r c 4=gopen (gopen (gopen (gopen H id r c) id r (c+1)) id r (c+1+1)) id r (c+1+1+1):=rfl
theorem set_set {A:List (List HV)} {i:Nat} (X Y:List HV):(A.set i X).set i Y=A.set i Y:=by simp
theorem fz_ow {k:Nat} {H:Heap} {e:TypeId} {sz:Nat} {rows:List (List HV)}:fz (k+1) H (.ow e sz rows)=.sl (fzoR rows):=rfl
attribute [go_sem] fz_ow gopens_4 set_set Option.getD_some Option.getD_none Option.isSome_none List.length_set
end Go.Proofs.YtmapdjdnnhlpiaaGreatDoor
namespace Go.Proofs.YtmapdjdnnhlpiaaGreatDoor
open Go.RowKit
def head (all:List Oper) (m f:Nat) (of:Oper):List Oper:=(all.take m).set f { of with op:=.move (.global 999999) }
structure Pend (te:TypeId) (zc:Array Value) (w0:World) (Z:Nat→Prop) (FP:Nat→List Nat) (w:World) (b:Nat):Prop where
 new:w0.heap.size≤b
 cells:w.heap[b]?=some (.cells zc te (0,0))
 z:¬Z b
 fp:∀id,b∉FP id
theorem Pend.evo {te:TypeId} {zc:Array Value} {w0 w w' : World} {Z Z' : Nat→Prop} {FP FP' : Nat→List Nat} {b:Nat} (h:Pend te zc w0 Z FP w b) (e:Evo Z FP w Z' FP' w'):Pend te zc w0 Z' FP' w' b:=by
 have hlt:=(Array.getElem?_eq_some_iff.1 h.cells).1
 refine ⟨h.new,(e.keep b hlt h.fp).trans h.cells,fun hz=>?_,fun id hc=>?_⟩
 ·rcases e.znew b hz with h1 | h1 | ⟨id,h1⟩
  ·exact h.z h1
  ·omega
  ·exact h.fp id h1
 ·rcases e.fnew id b hc with h1 | ⟨id',h1⟩
  ·omega
  ·exact h.fp id' h1
section go
variable {P:Program} {N L m mm B:Nat} {base:Nat×Nat} {hv:List Nat} {ro:Option Nat} {all:List Oper} {Φ:Exit→Act→World→Prop}
end go
section
variable {P:Program} {N L:Nat} {base:Nat×Nat} {hv:List Nat} {Q:Exit→KS} {H:Heap}
def nameFl (P:Program) (k:KS) (of:Oper):KS:=fun T H =>
 match of.op with
 | .alloc t=>onR (ralloc P H t) fun x H'=>k (updO T of.dst x) H'
 | _=>False
theorem nameFl_alloc {k:KS} {d:Option Nat} {t ty:TypeId} {pos:String} {af:Array Edge} {g:Option (Nat×Bool)} {T:Nat→HV}:nameFl P k { dst:=d,op:=.alloc t,type:=ty,pos:=pos,after:=af,guard:=g } T H=onR (ralloc P H t) fun x H'=>k (updO T d x) H':=rfl
theorem onR_some {p:Prop} {x:HV} {H' : Heap} {K:KT}:onR (some (p,x,H')) K=(p∧K x H'):=rfl
theorem hev_global {T:Nat→HV} {g:Nat}:hev T (.global g)=if globE g=true then .fp [[.ic globT (.gv g)]] 0 0 else .any:=rfl
attribute [go_sem] nameFl_alloc onR_some hev_global head
end
end Go.Proofs.YtmapdjdnnhlpiaaGreatDoor
namespace Go.Proofs.YtmapdjdnnhlpiaaGreatDoor
open Go.RowKit
section
variable {N L:Nat} {T:Nat→HV} {H:Heap}
theorem Ghost.freeze (i n j q o:Nat) {ob:HObj} {row:List HV} (hi:T i=.pt n j q o) (ho:H[n]?=some (some ob)) (hj:j=ob.rows.length) (hq:ob.rows[q]?=some row):Ghost N L T H (upd T i (.fp (fzoR ob.rows) q o)) (H.set n none):=fun B Z G FP ds a w hL hs=>by
 have hk:=hs.inv.freeze n
 have hG:GLe G (G.set n none):=GLe.kill n
 have hE:Evo Z FP w (Zid Z FP n) (fun j=>if j=n then [] else FP j) w:=evo_freeze n
 have hs':=hs.evo hk hG hE
 refine ⟨_,_,_,⟨hs'.inv,hs'.size,fun c hc=>?_,hs'.defers,hs'.dsn,hs'.dsat⟩,GLt.of hL hG,hE⟩
 unfold upd
 split
 ·rename_i e
  subst e
  have h0:=hs.tmps c hc
  rw[hi] at h0
  obtain ⟨g,b,cells,f,hg,hOB,hb,e2,e3,e4,e5,e6,e7,hy,hrl⟩:=pt_at hs.inv ho hj hq h0
  rw[hy]
  simp only[RV]
  have hrow:rowLen (fzoR ob.rows)=ob.sz:=by
   cases hr:ob.rows with
   | nil=>rw[hr] at hq;cases hq
   | cons r0 rs =>
    have:=hOB.len r0 (by rw[hr];simp)
    simp only[fzoR,rowLen,List.headD_cons]
    rw[fzoL_length];exact this
  refine ⟨trivial,b,0,by rw[hrow,Nat.zero_add],.inr (by rw[e2];simp),?_,?_⟩
  ·refine uni_len (sz:=ob.sz) fun r hr=>?_
   rw[fzoR_get] at hr
   obtain ⟨r',hr',rfl⟩:=List.mem_map.1 hr
   rw[fzoL_length];exact hOB.len r' hr'
  ·exact fzoR_spec ob.rows G b 0 f ⟨fun b hb=>.inl hb,fun b hb=>.inr (by rw[e2];simp[hb])⟩ e7
 ·exact hs'.tmps c hc
end
end Go.Proofs.YtmapdjdnnhlpiaaGreatDoor
namespace Go.Proofs.YtmapdjdnnhlpiaaGreatDoor
open Go.RowKit
inductive Plan where
 | leaf
 | stop
 | light (i:Nat) (p:Plan)
 | heavy (j:Nat) (keep:List Nat) (p q:Plan)
def noCall:Op→Bool
 | .call { callee:=.value _,args:=_,argTypes:=_ }=>false
 | .call { callee:=.invoke _ _,args:=_,argTypes:=_ }=>false
 | _=>true
def callFree (all:List Oper) (i:Nat):Bool:=match all[i]? with | some o=>noCall o.op | none=>false
def dm (Ls Ss:List Nat) (k:Nat):Bool:=Ls.contains k || Ss.contains k
def Plan.chk (all:List Oper) (bs:List Nat):Plan→List Nat→List Nat→List Nat→Bool
 | .leaf,Ls,Ss,alts=>alts.isEmpty && (List.range all.length).all fun i=>dm Ls Ss i
 | .stop,Ls,Ss,alts=>!alts.isEmpty && (List.range all.length).all fun i=>dm Ls Ss i || alts.contains i || (List.range all.length).any fun k=>!dm Ls Ss k && mustB bs k i
 | .light i p,Ls,Ss,alts=>alts.isEmpty && decide (i<all.length) && !dm Ls Ss i && callFree all i && ((List.range all.length).all fun k=>!mustB bs k i || dm Ls Ss k) && p.chk all bs (i::Ls) Ss []
 | .heavy j keep p q,Ls,Ss,alts=>decide (j<all.length) && !dm Ls Ss j && ((List.range all.length).all fun k=>!mustB bs k j || dm Ls Ss k) && (Ls.all fun i=>mustB bs i j || keep.contains i) && p.chk all bs Ls (j::Ss) [] && q.chk all bs Ls Ss (j::alts)
def idsV:HV→List Nat
 | .hd i _ _=>[i]
 | .pt i _ _ _=>[i]
 | _=>[]
def idsO (T:Nat→HV) (op:Op):List Nat :=
 if indep op=true then [] else match op with
 | .buildSlice ..=>[]
 | op=>op.operands.toList.flatMap fun y=>idsV (hev T y)
def sameAt (H H' : Heap):List Nat→Prop
 | []=>True
 | i::l=>getO H' i=getO H i∧sameAt H H' l
def agree1 (H H' : Heap) (ids:List Nat):Bool→Prop
 | true=>sameAt H H' ids
 | false=>True
def agreeK (keep:List Nat) (H H' : Heap):List (Nat×List Nat)→Prop
 | []=>True
 | e::rd=>agree1 H H' e.2 (keep.contains e.1)∧agreeK keep H H' rd
def nthO:List Oper→Nat→Option Oper
 | [],_=>none
 | o::_,0=>some o
 | _::l,i+1=>nthO l i
theorem nthO_eq:∀(l:List Oper) (i:Nat),nthO l i=l[i]?
 | [],_=>by simp[nthO]
 | o::l,0=>rfl
 | o::l,i+1=>by simp only[nthO,List.getElem?_cons_succ];exact nthO_eq l i
def atO (r:Option Oper) (f:Oper→Prop):Prop:=match r with | some o=>f o | none=>False
def withI (ids:List Nat) (f:List Nat→Prop):Prop:=f ids
def withH (H:Heap) (f:Heap→Prop):Prop:=f H
def exT (P:Program) (all:List Oper) (K:KS):Plan→List (Nat×List Nat)→KS
 | .leaf,_=>K
 | .stop,_=>fun _ _=>True
 | .light i p,rd=>fun T H=>atO (nthO all i) fun o=>withI (idsO T o.op) fun ids=>exGq (fun _ T' _=>exT P all K p ((i,ids)::rd) T' H) P all o [] [] T H
 | .heavy j keep p q,rd=>fun T H=>(atO (nthO all j) fun o=>exG (fun _ T' H'=>withH H' fun H'=>agreeK keep H H' rd∧exT P all K p rd T' H') P all o [] [] T H)∧exT P all K q rd T H
section
variable {P:Program} {all:List Oper}
theorem must_lt {N m:Nat} (hA:AnyOk N m all):∀(j i:Nat),j<all.length→mustB (befs all []) i j=true→i<j:=by
 intro j
 induction j using Nat.strongRecOn with
 | _ j ih =>
  intro i hj hm
  unfold mustB at hm
  obtain ⟨e,he,h1,h2⟩:=befs_spec all [] j _ (List.getElem?_eq_getElem hj) (by simpa using hm)
  have hlt:=hA.back j _ (List.getElem?_eq_getElem hj) e he h1
  rcases h2 with rfl | h2
  ·exact hlt
  ·have:=ih e.on hlt i (by omega) h2
   omega
theorem runM_xs {S:Nat→Bool}:∀(l:List Oper) (xs xs' : List HV) (i:Nat) (T:Nat→HV),xs.length=xs'.length→(∀j,S (i+j)=true→xs[j]?=xs'[j]?)→runM S i l xs T=runM S i l xs' T
 | [],xs,xs',i,T,_,_=>by cases xs <;> cases xs' <;> rfl
 | o::l,[],xs',i,T,hl,_=>by
  obtain rfl:xs'=[]:=by cases xs' with | nil=>rfl | cons=>simp at hl
  rfl
 | o::l,x::xs,[],i,T,hl,_=>by simp at hl
 | o::l,x::xs,x'::xs',i,T,hl,h=>by
  simp only[runM]
  have e:(if S i=true then updO T o.dst x else T)=if S i=true then updO T o.dst x' else T:=by
   split
   ·rename_i hs
    have:=h 0 (by rw[Nat.add_zero];exact hs)
    simp only[List.getElem?_cons_zero,Option.some.injEq] at this
    rw[this]
   ·rfl
  rw[e]
  exact runM_xs l xs xs' (i+1) _ (by simpa using hl) fun j hj=>by
   have:=h (j+1) (by rw[show i+(j+1)=i+1+j by omega];exact hj)
   simpa using this
def vals (n:Nat) (f:Nat→HV):List HV:=(List.range n).map f
theorem vals_get {n j:Nat} {f:Nat→HV} (h:j<n):(vals n f)[j]?=some (f j):=by simp[vals,h]
theorem vals_len {n:Nat} {f:Nat→HV}:(vals n f).length=n:=by simp[vals]
def tvS (all:List Oper) (S:Nat→Bool) (f:Nat→HV) (T0:Nat→HV):Nat→HV:=runM S 0 all (vals all.length f) T0
variable {S S' : Nat→Bool} {f f' : Nat→HV} {T0:Nat→HV}
theorem tvS_f (h:∀j,j<all.length→S j=true→f j=f' j):tvS all S f T0=tvS all S f' T0:=by
 unfold tvS
 refine runM_xs all _ _ 0 T0 (by rw[vals_len,vals_len]) fun j hj=>?_
 rw[Nat.zero_add] at hj
 by_cases hl:j<all.length
 ·rw[vals_get hl,vals_get hl,h j hl hj]
 ·rw[List.getElem?_eq_none (by rw[vals_len];omega),List.getElem?_eq_none (by rw[vals_len];omega)]
theorem tvS_at {t:Nat} (h:∀(j:Nat) o,all[j]?=some o→o.dst=some t→S j=S' j):tvS all S f T0 t=tvS all S' f T0 t:=by
 unfold tvS
 refine runM_at _ _ _ _ _ rfl fun j hj=>?_
 unfold dstAt at hj
 cases ho:all[j]? with
 | none=>rw[ho] at hj;cases hj
 | some o =>
  rw[ho] at hj
  rw[Nat.zero_add]
  exact h j o ho hj
theorem tvS_add {j:Nat} {o:Oper} (ho:all[j]?=some o) (h1:S' j=true) (h2:S j=false) (h3:∀k,k≠j→S' k=S k) (h4:∀(k:Nat) ok,j<k→S k=true→all[k]?=some ok→∀t,o.dst=some t→ok.dst≠some t):tvS all S' f T0=updO (tvS all S f T0) o.dst (f j):=by
 have hl:=(List.getElem?_eq_some_iff.1 ho).1
 unfold tvS
 refine runM_add all _ 0 j T0 o (f j) ho (vals_get hl) (by rw[Nat.zero_add];exact h1) (by rw[Nat.zero_add];exact h2) (fun k hk=>h3 k (by omega)) fun k hk hS t ht hd=>?_
 unfold dstAt at hd
 cases hok:all[k]? with
 | none=>rw[hok] at hd;cases hd
 | some ok =>
  rw[hok] at hd
  exact h4 k ok hk (by rw[Nat.zero_add] at hS;exact hS) hok t ht hd
theorem sameAt_spec {H H' : Heap}:∀{l:List Nat},sameAt H H' l→∀i∈l,getO H' i=getO H i
 | [],_,i,h=>by simp at h
 | j::l,hs,i,h=>by
  rcases List.mem_cons.1 h with rfl | h
  ·exact hs.1
  ·exact sameAt_spec hs.2 i h
theorem agreeK_spec {keep:List Nat} {H H' : Heap}:∀{rd:List (Nat×List Nat)},agreeK keep H H' rd→∀e∈rd,keep.contains e.1=true→∀i∈e.2,getO H' i=getO H i
 | [],_,e,h=>by simp at h
 | a::rd,hs,e,h=>by
  rcases List.mem_cons.1 h with rfl | h
  ·intro hk
   have h1:=hs.1
   rw[hk] at h1
   exact sameAt_spec h1
  ·exact agreeK_spec hs.2 e h
theorem nmed_ids {x:HV} {i:Nat} (h:nmed i x):i∈idsV x:=by
 cases x <;> simp only[nmed] at h <;> simp[idsV,h]
theorem CertO_ids {T:Nat→HV} {H H' : Heap} {op:Op} {x:HV} (hn:noCall op=true) (hs:∀i∈idsO T op,getO H' i=getO H i) (hc:CertO P T H op x):CertO P T H' op x:=by
 rcases hc with ⟨p,H0,hp,hr⟩ | ⟨f,args,tys,fid,caps,n,R,args',rfl,_⟩ | ⟨rv,name,args,tys,t,y,fid,n,R,args',rfl,_⟩ | ⟨t,len,parts,p,H0,rfl,hp,hr⟩
 ·have hR:RRel (ropQ P T H op) (ropQ P T H' op):=by
   by_cases hi:indep op=true
   ·exact ropQ_indep hi
   ·refine ropQ_agr fun y hy id hid ob ho=>?_
    have:id∈idsO T op:=by
     unfold idsO
     rw[if_neg hi]
     split
     ·unfold ropQ at hr;cases hr
     ·exact List.mem_flatMap.2 ⟨y,hy,nmed_ids hid⟩
    rw[hs id this];exact ho
  obtain ⟨p',H0',hp',hr'⟩:=hR p x H0 hp hr
  exact .inl ⟨p',H0',hp',hr'⟩
 ·simp[noCall] at hn
 ·simp[noCall] at hn
 ·exact .inr (.inr (.inr ⟨t,len,parts,p,H',rfl,hp,rbuildSliceF_congr (fun _ _=>rfl) hr⟩))
theorem CertG_ids {T:Nat→HV} {H H' : Heap} {o:Oper} {x:HV} (hn:noCall o.op=true) (hs:∀i∈idsO T o.op,getO H' i=getO H i) (hc:CertG P all T H o x):CertG P all T H' o x:=by
 unfold CertG at hc⊢
 split at hc
 ·exact CertO_ids hn hs hc
 ·obtain ⟨t,ht,⟨c,h1,h2,h3⟩ | hc⟩:=hc
  ·exact ⟨t,ht,.inl ⟨c,h1,fun e=>CertO_ids hn hs (h2 e),h3⟩⟩
  ·exact ⟨t,ht,.inr hc⟩
theorem idsO_congr {T T' : Nat→HV} {op:Op} (h:∀y∈op.operands.toList,hev T y=hev T' y):idsO T op=idsO T' op:=by
 unfold idsO
 split
 ·rfl
 ·split
  ·rfl
  ·have:∀(l:List Operand),(∀y∈l,hev T y=hev T' y)→l.flatMap (fun y=>idsV (hev T y))=l.flatMap fun y=>idsV (hev T' y):=by
    intro l
    induction l with
    | nil=>intro _;rfl
    | cons a l ih =>
     intro h
     simp only[List.flatMap_cons]
     rw[h a (by simp),ih fun y hy=>h y (by simp[hy])]
   exact this _ h
def shiftK (T T' : Nat→HV) (d:Option Nat) (kk:KS):KS:=fun T1 H1=>∃x,T1=updO T' d x∧kk (updO T d x) H1
theorem exO_shift {kk:KS} {d:Option Nat} {op:Op} {T T' : Nat→HV} {H:Heap} (h:∀y∈op.operands.toList,hev T y=hev T' y) (hx:exO (fun _=>kk) P all d op [] [] T H):exO (fun _=>shiftK T T' d kk) P all d op [] [] T' H:=by
 unfold exO at hx⊢
 split at hx
 ·rename_i f args tys
  have e1:=h f (by simp[Op.operands,Call.operands])
  have e2:args.toList.map (hev T)=args.toList.map (hev T'):=hevs_congr fun x hx=>h x (by simp[Op.operands,Call.operands];exact .inr (by simpa using hx))
  rw[←e1,←e2]
  unfold exCall at hx⊢
  split at hx
  ·obtain ⟨Q,h1,h2⟩:=hx
   exact ⟨Q,h1,fun x H' hq hl=>⟨_,rfl,h2 x H' hq hl⟩⟩
  ·obtain ⟨Kb,h1,h2⟩:=hx
   exact ⟨Kb,h1,fun b H' hq hl=>⟨_,rfl,h2 b H' hq hl⟩⟩
  ·exact hx.elim
 ·rename_i rv name args tys
  have e1:=h rv (by simp[Op.operands,Call.operands])
  have e2:args.toList.map (hev T)=args.toList.map (hev T'):=hevs_congr fun x hx=>h x (by simp[Op.operands,Call.operands];exact .inr (by simpa using hx))
  rw[←e1,←e2]
  unfold exInv at hx⊢
  split at hx
  ·unfold exInv2 at hx⊢
   split at hx
   ·obtain ⟨Q,h1,h2⟩:=hx
    exact ⟨Q,h1,fun x H' hq hl=>⟨_,rfl,h2 x H' hq hl⟩⟩
   ·exact hx.elim
  ·exact hx.elim
 ·unfold exR at hx⊢
  rw[←rop_congr h]
  cases hr:rop P T H op with
  | none=>rw[hr] at hx;exact hx.elim
  | some q =>
   obtain ⟨p,x,H'⟩:=q
   rw[hr] at hx
   exact ⟨hx.1,x,rfl,hx.2⟩
theorem exG_shift {kk:KS} {o:Oper} {T T' : Nat→HV} {H:Heap} (h:∀t∈seenT all o,T t=T' t) (hx:exG (fun _=>kk) P all o [] [] T H):exG (fun _=>shiftK T T' o.dst kk) P all o [] [] T' H:=by
 have hv:=seen_hev h
 unfold exG at hx⊢
 split at hx
 ·exact exO_shift hv hx
 ·rename_i j b hg
  unfold exB at hx⊢
  split at hx
  ·rename_i t ht
   have e:T t=T' t:=h t (by unfold seenT;rw[hg];simp[ht])
   rw[←e]
   unfold exB2 at hx⊢
   split at hx
   ·exact ⟨fun hc=>exO_shift hv (hx.1 hc),fun hc=>⟨_,rfl,hx.2 hc⟩⟩
   ·exact ⟨_,rfl,hx⟩
   ·exact hx.elim
  ·exact hx.elim
end
section
variable {P:Program} {N L B mm:Nat} {all:List Oper} {Z:Nat→Prop} {G:List (Option OG)} {FP:Nat→List Nat} {ds:List Nat} {T:Nat→HV} {H:Heap} {a:Act} {w:World} {ro:Option Nat}
theorem exO_HO {kk:KS} {o:Oper} (hok:operOk N o=true) (hn:noDefer o=true) (h:exO (fun _=>kk) P all o.dst o.op [] [] T H):HO P N L o T H kk:=by
 have hnd:=noDefer_spec hn
 have hdst:∀i,o.dst=some i→i<N:=fun i hi=>by
  have:=hok;simp only[operOk,dstOk,hi,Bool.and_eq_true,decide_eq_true_eq] at this;exact this.1
 unfold exO at h
 split at h
 ·rename_i f args tys hop
  unfold exCall at h
  split at h
  ·rename_i fid caps hf
   obtain ⟨Q',hc,hk⟩:=h
   exact HO_call (K:=kk) hop hok hf hc hk
  ·rename_i id hf
   obtain ⟨Kb,hc,hk⟩:=h
   exact HO_yield (K:=kk) hop hok hf hc hk
  ·exact h.elim
 ·rename_i rv name args tys hop
  unfold exInv at h
  split at h
  ·rename_i t x hf
   unfold exInv2 at h
   split at h
   ·rename_i fid hm
    obtain ⟨Q',hc,hk⟩:=h
    exact HO_invoke (K:=kk) hop hok hf hm hc hk
   ·exact h.elim
  ·exact h.elim
 ·exact HO_of_HR (K:=kk) hnd hdst (HR_rop hok h)
theorem exG_run {kk:KS} {j:Nat} {o:Oper} {K:Act→World→Prop} {Q' : Exit→Act→World→Prop} (hall:all.all (dstOk N)=true) (hj:all[j]?=some o) (hok:operOk N o=true) (hn:noDefer o=true) (h:exG (fun _=>kk) P all o [] [] T H)
  (hs:St N B Z G FP ds T H a w) (hB:Bo ro B FP w) (hL:L≤G.length)
  (hK:∀T' H' Z' G' FP' a' w',kk T' H'→St N B Z' G' FP' ds T' H' a' w'→GLt L G G'→Evo Z FP w Z' FP' w'→K a' w'):wpOpIn (Wd ro) mm P all.toArray Q' j K a w:=by
 have hdst:∀i,o.dst=some i→i<N:=fun i hi=>by
  have:=hok;simp only[operOk,dstOk,hi,Bool.and_eq_true,decide_eq_true_eq] at this;exact this.1
 have run:exO (fun _=>kk) P all o.dst o.op [] [] T H→o.wpIn (Wd ro) mm P a w K Q':=fun hM=>by
  refine exO_HO (L:=L) hok hn hM ro mm B Z G FP ds a w hB hL hs K Q' ?_
  rintro a' w' ⟨T2,H2,Z',G',FP',hk,hs',hG',hE'⟩
  exact hK T2 H2 Z' G' FP' a' w' hk hs' hG' hE'
 have noRun:kk (updO T o.dst (.v undef)) H→K (a.put o.dst undef) w:=fun hk =>
  hK _ _ _ _ _ _ _ hk (hs.drop o.dst hdst) (GLt.refl hL) (Evo.refl _ _ _)
 unfold wpOpIn
 rw[List.getElem?_toArray,hj]
 dsimp only
 unfold exG at h
 split at h
 ·rename_i hg
  simp only[Region.wanted,hg,if_true]
  exact run h
 ·rename_i k b hg
  unfold exB at h
  split at h
  ·rename_i t ht
   unfold exB2 at h
   split at h
   ·rename_i c h1
    have hy:yielded all.toArray a.tmps k=some c:=hs.yields hall (by rw[dstAt_gval ht];exact h1)
    have hw:Region.wanted o (yielded all.toArray a.tmps)=(c == b):=by
     simp only[Region.wanted,hg,hy]
     cases c <;> cases b <;> rfl
    rw[hw]
    by_cases hcb:c=b
    ·rw[if_pos (by simp[hcb])]
     exact run (h.1 hcb)
    ·have hc:c=(!b):=by cases c <;> cases b <;> simp_all
     rw[if_neg (by simp[hcb])]
     exact ⟨fun _ _=>trivial,noRun (h.2 hc)⟩
   ·rename_i ts h1
    have hy:yielded all.toArray a.tmps k=none:=hs.yieldsNo hall (by rw[dstAt_gval ht];exact h1)
    have hw:Region.wanted o (yielded all.toArray a.tmps)=false:=by
     simp only[Region.wanted,hg,hy]
     cases b <;> rfl
    rw[hw,if_neg (by simp)]
    exact ⟨fun _ _=>trivial,noRun h⟩
   ·exact h.elim
  ·exact h.elim
end
section
variable {P:Program} {N L B mm:Nat} {all:List Oper} {K:KS} {T0:Nat→HV}
theorem dm_cons {i k:Nat} {Ls Ss:List Nat}:dm (i::Ls) Ss k=(k == i || dm Ls Ss k):=by
 simp only[dm,List.contains_cons,Bool.or_assoc]
theorem dm_cons' {i k:Nat} {Ls Ss:List Nat}:dm Ls (i::Ss) k=(k == i || dm Ls Ss k):=by
 simp only[dm,List.contains_cons]
 cases (k == i) <;> cases Ls.contains k <;> simp
structure NodeI (P:Program) (N:Nat) (all:List Oper) (K:KS) (T0:Nat→HV) (p:Plan) (Ls Ss:List Nat) (rd:List (Nat×List Nat)) (f:Nat→HV) (T:Nat→HV) (H:Heap) (lst:Nat→Bool):Prop where
 chk:p.chk all (befs all []) Ls Ss []=true
 run:exT P all K p rd T H
 teq:T=tvS all (dm Ls Ss) f T0
 closed:∀i k,dm Ls Ss i=true→mustB (befs all []) k i=true→dm Ls Ss k=true
 lt:∀i,dm Ls Ss i=true→i<all.length
 sub:∀i,lst i=true→dm Ls Ss i=true
 hs:∀i,Ss.contains i=true→lst i=true
 cert:∀i,Ls.contains i=true→lst i=false→∃ids,(i,ids)∈rd∧∀o,all[i]?=some o→noCall o.op=true∧∀H',(∀id∈ids,getO H' id=getO H id)→CertG P all (tvS all (fun k=>mustB (befs all []) k i) f T0) H' o (f i)
def Plan.isLight:Plan→Bool
 | .light _ _=>true
 | _=>false
theorem range_all {n:Nat} {q:Nat→Bool} (h:(List.range n).all q=true) {i:Nat} (hi:i<n):q i=true:=List.all_eq_true.1 h i (List.mem_range.2 hi)
theorem seen_same {m:Nat} (hA:AnyOk N m all) {S:Nat→Bool} {f:Nat→HV} {i:Nat} {o:Oper} (ho:all[i]?=some o) (h1:∀k,mustB (befs all []) k i=true→S k=true) (h2:S i=false) (h3:∀k,S k=true→mustB (befs all []) i k=true→S i=true) (hS:∀k,S k=true→k<all.length) :
  ∀t∈seenT all o,tvS all (fun k=>mustB (befs all []) k i) f T0 t=tvS all S f T0 t:=by
 intro t ht
 have hil:=(List.getElem?_eq_some_iff.1 ho).1
 refine tvS_at fun j oj hoj hd=>?_
 have hjl:=(List.getElem?_eq_some_iff.1 hoj).1
 rcases Nat.lt_trichotomy j i with h | h | h
 ·have hm:=hA.ord j i oj o h hoj ho (.inr (by simp[confB,hd,ht]))
  rw[hm,h1 j hm]
 ·subst h
  rw[h2]
  cases hx:mustB (befs all []) j j with
  | false=>rfl
  | true=>have:=must_lt hA j j hil hx;omega
 ·have e1:mustB (befs all []) j i=false:=by
   cases hx:mustB (befs all []) j i with
   | false=>rfl
   | true=>have:=must_lt hA i j hil hx;omega
  have e2:S j=false:=by
   cases hx:S j with
   | false=>rfl
   | true =>
    have:=h3 j hx (hA.ord i j o oj h ho hoj (.inr (by unfold confB;rw[hd];simp[ht])))
    rw[h2] at this;cases this
  rw[e1,e2]
theorem add_dst {m:Nat} (hA:AnyOk N m all) {S:Nat→Bool} {i:Nat} {o:Oper} (ho:all[i]?=some o) (h2:S i=false) (h3:∀k,S k=true→mustB (befs all []) i k=true→S i=true) :
  ∀(k:Nat) ok,i<k→S k=true→all[k]?=some ok→∀t,o.dst=some t→ok.dst≠some t:=by
 intro k ok hik hS hok t ht hd
 have:=h3 k hS (hA.ord i k o ok hik ho hok (.inr (by unfold confB;rw[ht];simp[hd])))
 rw[h2] at this;cases this
theorem settle {m:Nat} (hA:AnyOk N m all) {H:Heap} {lst:Nat→Bool} {Ss:List Nat}:∀(p:Plan) (Ls:List Nat) (rd:List (Nat×List Nat)) (f:Nat→HV) (T:Nat→HV),NodeI P N all K T0 p Ls Ss rd f T H lst→
  ∃p' Ls' rd' f' T',NodeI P N all K T0 p' Ls' Ss rd' f' T' H lst∧p'.isLight=false∧∀k,dm Ls Ss k=true→f' k=f k
 | .leaf,Ls,rd,f,T,h=>⟨_,_,_,_,_,h,rfl,fun _ _=>rfl⟩
 | .stop,Ls,rd,f,T,h=>⟨_,_,_,_,_,h,rfl,fun _ _=>rfl⟩
 | .heavy ..,Ls,rd,f,T,h=>⟨_,_,_,_,_,h,rfl,fun _ _=>rfl⟩
 | .light i p,Ls,rd,f,T,h=>by
  have hc:=h.chk
  simp only[Plan.chk,Bool.and_eq_true,decide_eq_true_eq,Bool.not_eq_true'] at hc
  obtain ⟨⟨⟨⟨⟨_,hil⟩,hnd⟩,hcf⟩,hpre⟩,hp⟩:=hc
  have ho:all[i]?=some all[i]:=List.getElem?_eq_getElem hil
  generalize all[i]=o at ho
  have hno:noCall o.op=true:=by unfold callFree at hcf;rw[ho] at hcf;exact hcf
  have hpre' : ∀k,mustB (befs all []) k i=true→dm Ls Ss k=true:=fun k hk=>by
   have hkl:=must_lt hA i k hil hk
   have:=range_all hpre (i:=k) (by omega)
   simpa [hk] using this
  have hr:=h.run
  simp only[exT,nthO_eq,ho,atO,withI] at hr
  obtain ⟨x,hcert,hk⟩:=exGq_cert (k:=fun _ T' _=>exT P all K p ((i,idsO T o.op)::rd) T' H) hr
  have hcl:∀k,dm Ls Ss k=true→mustB (befs all []) i k=true→dm Ls Ss i=true:=fun k h1 h2=>h.closed k i h1 h2
  let f1:Nat→HV:=fun k=>if k=i then x else f k
  have f1i:f1 i=x:=if_pos rfl
  have f1n:∀k,dm Ls Ss k=true→f k=f1 k:=fun k hk=>by
   have:k≠i:=fun e=>by rw[e,hnd] at hk;cases hk
   exact (if_neg this).symm
  have hT1:T=tvS all (dm Ls Ss) f1 T0:=h.teq.trans (tvS_f fun j _ hj=>f1n j hj)
  have hsee:=seen_same (T0:=T0) (f:=f1) hA ho hpre' hnd hcl h.lt
  have new:NodeI P N all K T0 p (i::Ls) Ss ((i,idsO T o.op)::rd) f1 (updO T o.dst x) H lst:=by
   refine ⟨hp,hk,?_,fun a k ha hm=>?_,fun a ha=>?_,fun a ha=>?_,h.hs,fun a ha hl=>?_⟩
   ·rw[hT1,←f1i]
    exact (tvS_add ho (by rw[dm_cons];simp) hnd (fun k hk=>by rw[dm_cons];simp[hk]) (add_dst hA ho hnd hcl)).symm
   ·rw[dm_cons] at ha⊢
    simp only[Bool.or_eq_true,beq_iff_eq] at ha⊢
    rcases ha with rfl | ha
    ·exact .inr (hpre' k hm)
    ·exact .inr (h.closed a k ha hm)
   ·rw[dm_cons] at ha
    simp only[Bool.or_eq_true,beq_iff_eq] at ha
    rcases ha with rfl | ha
    ·exact hil
    ·exact h.lt a ha
   ·rw[dm_cons,h.sub a ha];simp
   ·by_cases e:a=i
    ·subst e
     refine ⟨_,List.mem_cons_self,fun o' ho'=>?_⟩
     rw[ho] at ho';cases ho'
     refine ⟨hno,fun H' hH'=>?_⟩
     rw[f1i]
     refine CertG_ids (H:=H) hno (fun id hid=>hH' id ?_) ?_
     ·rw[idsO_congr (T':=T) (seen_hev fun t ht=>by rw[hT1];exact hsee t ht)] at hid
      exact hid
     ·refine CertG_congr (T:=T) (fun t ht=>?_) hcert
      rw[hT1];exact (hsee t ht).symm
    ·have ha' : Ls.contains a=true:=by
      simp only[List.contains_cons,Bool.or_eq_true,beq_iff_eq] at ha
      exact ha.resolve_left e
     obtain ⟨ids,h1,h2⟩:=h.cert a ha' hl
     refine ⟨ids,List.mem_cons_of_mem _ h1,fun o' ho'=>⟨(h2 o' ho').1,fun H' hH'=>?_⟩⟩
     have hda:dm Ls Ss a=true:=by unfold dm;rw[ha'];rfl
     have:=(h2 o' ho').2 H' hH'
     rw[f1n a hda] at this
     rw[tvS_f (f':=f1) fun j _ hj=>f1n j (h.closed a j hda hj)] at this
     exact this
  obtain ⟨p',Ls',rd',f',T',h1,h2,h3⟩:=settle hA p (i::Ls) _ f1 _ new
  exact ⟨p',Ls',rd',f',T',h1,h2,fun k hk=>(h3 k (by rw[dm_cons,hk];simp)).trans (f1n k hk).symm⟩
theorem alts_spec {H:Heap} {Ls Ss:List Nat} {rd:List (Nat×List Nat)} {T:Nat→HV} {j:Nat} (hj:j<all.length) (hd:dm Ls Ss j=false) (hpre:∀k,mustB (befs all []) k j=true→dm Ls Ss k=true) :
  ∀(p:Plan) (alts:List Nat),p.chk all (befs all []) Ls Ss alts=true→(p.isLight=false∨alts≠[])→exT P all K p rd T H→
  alts.contains j=true∨∃keep p',p'.chk all (befs all []) Ls (j::Ss) []=true∧(Ls.all fun i=>mustB (befs all []) i j || keep.contains i)=true∧∃o,all[j]?=some o∧exG (fun _ T' H'=>agreeK keep H H' rd∧exT P all K p' rd T' H') P all o [] [] T H
 | .leaf,alts,hc,_,_=>by
  simp only[Plan.chk,Bool.and_eq_true] at hc
  have:=range_all hc.2 hj
  rw[hd] at this;cases this
 | .stop,alts,hc,_,_=>by
  simp only[Plan.chk,Bool.and_eq_true] at hc
  have:=range_all hc.2 hj
  rw[hd] at this
  simp only[Bool.false_or,Bool.or_eq_true] at this
  rcases this with h | h
  ·exact .inl h
  ·obtain ⟨k,_,hk⟩:=List.any_eq_true.1 h
   simp only[Bool.and_eq_true,Bool.not_eq_true'] at hk
   have:=hpre k hk.2
   rw[hk.1] at this;cases this
 | .light i p,alts,hc,hl,_=>by
  simp only[Plan.chk,Bool.and_eq_true] at hc
  rcases hl with hl | hl
  ·cases hl
  ·have:=hc.1.1.1.1.1
   exact absurd (List.isEmpty_iff.1 this) hl
 | .heavy i keep p q,alts,hc,_,hx=>by
  simp only[Plan.chk,Bool.and_eq_true,decide_eq_true_eq] at hc
  obtain ⟨⟨⟨⟨⟨h1,h2⟩,h3⟩,h4⟩,h5⟩,h6⟩:=hc
  obtain ⟨hx1,hx2⟩:=hx
  by_cases e:i=j
  ·subst e
   have ho:all[i]?=some all[i]:=List.getElem?_eq_getElem h1
   rw[nthO_eq,ho] at hx1
   exact .inr ⟨keep,p,h5,h4,_,ho,hx1⟩
  ·rcases alts_spec hj hd hpre q (i::alts) h6 (.inr (by simp)) hx2 with h | h
   ·simp only[List.contains_cons,Bool.or_eq_true,beq_iff_eq] at h
    rcases h with h | h
    ·exact absurd h.symm e
    ·exact .inl h
   ·exact .inr h
theorem any_tree {m:Nat} {ro:Option Nat} {Φ:Exit→Act→World→Prop} (hA:AnyOk N m all) {Z0:Nat→Prop} {G0:List (Option OG)} {FP0:Nat→List Nat} {ds:List Nat} {w0:World}
  (hB:∀Z FP w,Evo Z0 FP0 w0 Z FP w→Bo ro B FP w)
  (hend:∀T H Z G FP a w,K T H→St N B Z G FP ds T H a w→GLt L G0 G→Evo Z0 FP0 w0 Z FP w→Φ .normal a w) :
  ∀(fuel:Nat) (listed:Array Bool) (p:Plan) (Ls Ss:List Nat) (rd:List (Nat×List Nat)) (f:Nat→HV) (T:Nat→HV) (H:Heap) (Z:Nat→Prop) (G:List (Option OG)) (FP:Nat→List Nat) (a:Act) (w:World),
  listed.size=all.length→left listed≤fuel→Closed all listed→NodeI P N all K T0 p Ls Ss rd f T H (fun k=>listed.getD k false)→
  St N B Z G FP ds (tvS all (fun k=>listed.getD k false) f T0) H a w→GLt L G0 G→Evo Z0 FP0 w0 Z FP w→wpAnyIn (Wd ro) mm P .any all.toArray Φ fuel listed a w:=by
 have hdall:all.all (dstOk N)=true:=by
  rw[List.all_eq_true]
  intro o' ho'
  obtain ⟨j',hj'⟩:=List.mem_iff_getElem?.1 ho'
  have:=(hA.ok j' o' hj').1
  simp only[operOk,Bool.and_eq_true] at this
  exact this.1
 have fin:∀(listed:Array Bool) (p:Plan) (Ls Ss:List Nat) (rd:List (Nat×List Nat)) (f:Nat→HV) (T:Nat→HV) (H:Heap) (Z:Nat→Prop) (G:List (Option OG)) (FP:Nat→List Nat) (a:Act) (w:World),
   (∀k,k<all.length→listed.getD k false=true)→p.isLight=false→NodeI P N all K T0 p Ls Ss rd f T H (fun k=>listed.getD k false)→
   St N B Z G FP ds (tvS all (fun k=>listed.getD k false) f T0) H a w→GLt L G0 G→Evo Z0 FP0 w0 Z FP w→Φ .normal a w:=by
  intro listed p Ls Ss rd f T H Z G FP a w hall hpl hN hs hG hE
  have hT:tvS all (fun k=>listed.getD k false) f T0=T:=by
   rw[hN.teq]
   funext t
   refine tvS_at fun j o ho hd=>?_
   have h1:=hall j (List.getElem?_eq_some_iff.1 ho).1
   rw[h1,hN.sub j h1]
  rw[hT] at hs
  have hc:=hN.chk
  have hr:=hN.run
  cases p with
  | leaf=>exact hend T H Z G FP a w hr hs hG hE
  | stop=>simp[Plan.chk] at hc
  | light i p=>cases hpl
  | heavy j keep p q =>
   simp only[Plan.chk,Bool.and_eq_true,decide_eq_true_eq,Bool.not_eq_true'] at hc
   have h1:=hc.1.1.1.1.1
   have h2:=hN.sub j (hall j h1)
   rw[hc.1.1.1.1.2] at h2;cases h2
 intro fuel
 induction fuel with
 | zero =>
  intro listed p Ls Ss rd f T H Z G FP a w hsz hf hc hN hs hG hE
  obtain ⟨p',Ls',rd',f',T',hN',hpl,hff⟩:=settle hA p Ls rd f T hN
  rw[tvS_f (f':=f') fun j _ hj=>(hff j (hN.sub j hj)).symm] at hs
  have hall:=left_zero (Nat.le_zero.1 hf)
  refine ⟨?_,fin listed p' Ls' Ss rd' f' T' H Z G FP a w (fun k hk=>hall k (by omega)) hpl hN' hs hG hE⟩
  rw[List.eq_nil_iff_forall_not_mem]
  intro i hi
  obtain ⟨h1,o,ho,_⟩:=mem_ready.1 hi
  rw[List.getElem?_toArray] at ho
  have hi':=(List.getElem?_eq_some_iff.1 ho).1
  have h2:=hall i (by omega)
  rw[Array.getD_eq_getD_getElem?,not_listed h1] at h2
  simp at h2
 | succ fuel ih =>
  intro listed p Ls Ss rd f T H Z G FP a w hsz hf hc hN hs hG hE
  obtain ⟨p',Ls',rd',f',T',hN',hpl,hff⟩:=settle hA p Ls rd f T hN
  rw[tvS_f (f':=f') fun j _ hj=>(hff j (hN.sub j hj)).symm] at hs
  clear hN
  refine ⟨fun h0=>?_,fun i hi=>?_⟩
  ·refine fin listed p' Ls' Ss rd' f' T' H Z G FP a w (fun k hk=>?_) hpl hN' hs hG hE
   cases hx:listed.getD k false with
   | true=>rfl
   | false =>
    obtain ⟨k',⟨h1,h2⟩,h3⟩:=exists_least (p:=fun k=>k<all.length∧listed.getD k false=false) ⟨k,hk,hx⟩
    have:=ready_least hA hsz h1 h2 (fun j hj=>by
     cases hx:listed.getD j false with
     | true=>rfl
     | false=>have:=h3 j ⟨by omega,hx⟩;omega)
    rw[h0] at this;simp at this
  obtain ⟨h1,o,ho,ha⟩:=mem_ready.1 hi
  rw[List.getElem?_toArray] at ho
  have hil:=(List.getElem?_eq_some_iff.1 ho).1
  have hnl:=not_listed h1
  have hnf:listed.getD i false=false:=by rw[Array.getD_eq_getD_getElem?,hnl];rfl
  obtain ⟨hok,hnd⟩:=hA.ok i o ho
  have hadd:=left_add hnl
  have hcl2:=closed_add hc (fun o' ho' e he hb=>by rw[ho] at ho';cases ho';exact ha e (by simpa using he) hb)
  have hmust:∀k,mustB (befs all []) k i=true→listed.getD k false=true:=fun k hk=>ready_must hA hc hi hk
  have hlt:∀k,listed.getD k false=true→k<all.length:=fun k hk=>hN'.lt k (hN'.sub k hk)
  have hclm:∀k,listed.getD k false=true→mustB (befs all []) i k=true→listed.getD i false=true:=fun k hk hm=>by
   have hkl:=hlt k hk
   exact closed_must hA hc k i _ (List.getElem?_eq_getElem hkl) (hc k _ (List.getElem?_eq_getElem hkl) hk) hm
  have hset:∀k,(listed.setIfInBounds i true).getD k false=(k == i || listed.getD k false):=fun k=>by
   by_cases e:k=i
   ·subst e;rw[getD_set_self (by omega)];simp
   ·simp only[Array.getD_eq_getD_getElem?,Array.getElem?_setIfInBounds_ne (Ne.symm e)]
    simp[e]
  have hTadd:∀g:Nat→HV,tvS all (fun k=>(listed.setIfInBounds i true).getD k false) g T0=updO (tvS all (fun k=>listed.getD k false) g T0) o.dst (g i):=fun g =>
   tvS_add ho (by rw[hset];simp) hnf (fun k hk=>by rw[hset];simp[hk]) (add_dst hA ho hnf hclm)
  by_cases hdi:dm Ls' Ss i=true
  ·
   have hiL:Ls'.contains i=true:=by
    unfold dm at hdi
    rcases Bool.or_eq_true_iff.1 hdi with h | h
    ·exact h
    ·have:listed.getD i false=true:=hN'.hs i h
     rw[hnf] at this;cases this
   obtain ⟨ids,_,h2⟩:=hN'.cert i hiL hnf
   obtain ⟨_,h3⟩:=h2 o ho
   have hcert:=h3 H (fun _ _=>rfl)
   have hsee:=seen_same (T0:=T0) (f:=f') hA ho hmust hnf hclm hlt
   refine certG_run hdall ho hok hnd (CertG_congr hsee hcert) hs fun Z' G' FP' a' w' hs2 hG' hE'=>?_
   refine ih (listed.setIfInBounds i true) p' Ls' Ss rd' f' T' H Z' G' FP' a' w' (by simpa using hsz) (by omega) hcl2 ?_ (by rw[hTadd];exact hs2) (hG.trans (GLt.of hG.len hG')) (hE.trans hE')
   refine ⟨hN'.chk,hN'.run,hN'.teq,hN'.closed,hN'.lt,fun k hk=>?_,fun k hk=>?_,fun k hk hl=>?_⟩
   ·rw[hset] at hk
    simp only[Bool.or_eq_true,beq_iff_eq] at hk
    rcases hk with rfl | hk
    ·exact hdi
    ·exact hN'.sub k hk
   ·rw[hset,hN'.hs k hk];simp
   ·rw[hset] at hl
    exact hN'.cert k hk (Bool.or_eq_false_iff.1 hl).2
  ·
   have hdi:dm Ls' Ss i=false:=by simpa using hdi
   have hpre:∀k,mustB (befs all []) k i=true→dm Ls' Ss k=true:=fun k hk=>hN'.sub k (hmust k hk)
   rcases alts_spec hil hdi hpre p' [] hN'.chk (.inl hpl) hN'.run with h | ⟨keep,p2,hc2,hk2,o',ho',hx⟩
   ·simp at h
   rw[ho] at ho';cases ho'
   have hcl:∀k,dm Ls' Ss k=true→mustB (befs all []) i k=true→dm Ls' Ss i=true:=fun k h1 h2=>hN'.closed k i h1 h2
   have hsee:∀t∈seenT all o,T' t=tvS all (fun k=>listed.getD k false) f' T0 t:=fun t ht=>by
    rw[hN'.teq,←seen_same (T0:=T0) (f:=f') hA ho hpre hdi hcl hN'.lt t ht]
    exact seen_same (T0:=T0) (f:=f') hA ho hmust hnf hclm hlt t ht
   refine exG_run (L:=L) hdall ho hok hnd (exG_shift hsee hx) hs (hB Z FP w hE) hG.len fun T2 H2 Z' G' FP' a' w' hkk hs2 hG' hE'=>?_
   obtain ⟨x,rfl,hag,hrun⟩:=hkk
   let f1:Nat→HV:=fun k=>if k=i then x else f' k
   have f1i:f1 i=x:=if_pos rfl
   have f1n:∀k,dm Ls' Ss k=true→f' k=f1 k:=fun k hk=>by
    have:k≠i:=fun e=>by rw[e,hdi] at hk;cases hk
    exact (if_neg this).symm
   refine ih (listed.setIfInBounds i true) p2 Ls' (i::Ss) rd' f1 (updO T' o.dst x) H2 Z' G' FP' a' w' (by simpa using hsz) (by omega) hcl2 ?_ ?_ (hG.trans hG') (hE.trans hE')
   ·refine ⟨hc2,hrun,?_,fun a k ha hm=>?_,fun a ha=>?_,fun a ha=>?_,fun a ha=>?_,fun a ha hl=>?_⟩
    ·rw[hN'.teq,tvS_f (f':=f1) fun j _ hj=>f1n j hj,←f1i]
     exact (tvS_add ho (by rw[dm_cons'];simp) hdi (fun k hk=>by rw[dm_cons'];simp[hk]) (add_dst hA ho hdi hcl)).symm
    ·rw[dm_cons'] at ha⊢
     simp only[Bool.or_eq_true,beq_iff_eq] at ha⊢
     rcases ha with rfl | ha
     ·exact .inr (hpre k hm)
     ·exact .inr (hN'.closed a k ha hm)
    ·rw[dm_cons'] at ha
     simp only[Bool.or_eq_true,beq_iff_eq] at ha
     rcases ha with rfl | ha
     ·exact hil
     ·exact hN'.lt a ha
    ·rw[hset] at ha
     rw[dm_cons']
     simp only[Bool.or_eq_true,beq_iff_eq] at ha⊢
     exact ha.imp id fun ha=>hN'.sub a ha
    ·rw[hset]
     simp only[List.contains_cons,Bool.or_eq_true,beq_iff_eq] at ha⊢
     exact ha.imp id fun ha=>hN'.hs a ha
    ·rw[hset] at hl
     obtain ⟨e,hl⟩:=Bool.or_eq_false_iff.1 hl
     have hda:dm Ls' Ss a=true:=by unfold dm;rw[ha];rfl
     obtain ⟨ids,h1,h2⟩:=hN'.cert a ha hl
     refine ⟨ids,h1,fun o' ho'=>⟨(h2 o' ho').1,fun H' hH'=>?_⟩⟩
     have hka:keep.contains a=true:=by
      have:=List.all_eq_true.1 hk2 a (by simpa using ha)
      rcases Bool.or_eq_true_iff.1 this with hm | hk
      ·have:=hmust a hm
       rw[hl] at this;cases this
      ·exact hk
     have:=(h2 o' ho').2 H' (fun id hid=>(hH' id hid).trans (agreeK_spec hag _ h1 hka id hid))
     rw[f1n a hda] at this
     rw[tvS_f (f':=f1) fun j _ hj=>f1n j (hN'.closed a j hda hj)] at this
     exact this
   ·rw[hTadd,f1i,←tvS_f (f:=f') fun j _ hj=>f1n j (hN'.sub j hj)]
    exact hs2
theorem HW.tree {id:Nat} {Q:Exit→KS} {T:Nat→HV} {H:Heap} (n:Nat) (p:Plan) (hm:P.follows .mixedOrders=true) (hB:anyB N all.length all=true) (hp:p.chk all (befs all []) [] [] []=true)
  (h:exT P all (ex P N L Q n []) p [] T H):HW P N L (.region id all.toArray true) Q T H:=by
 intro ro mm B Z G FP ds a w hB' hL hst
 have hA:=anyB_spec hB
 have hEv:Evo Z FP w Z FP { w with drawn:=w.drawn+1 }:=⟨rfl,rfl,rfl,Nat.le_refl _,fun _ _ _=>rfl,fun _ h=>h,fun _ h=>.inl h,fun id b hb=>.inr ⟨id,hb⟩⟩
 have hi:HInv Z G FP H { w with drawn:=w.drawn+1 }:=hst.inv.keep (Nat.le_refl _) (fun _ _=>rfl)
 have hs':=hst.evo hi (GLe.refl _) hEv
 have hrep:∀k,(Array.replicate all.toArray.size false).getD k false=false:=fun k=>by
  simp only[Array.getD_eq_getD_getElem?]
  by_cases hlt:k<all.toArray.size
  ·rw[Array.getElem?_eq_getElem (by simpa using hlt)]
   simp
  ·rw[Array.getElem?_eq_none (by simpa using hlt)];rfl
 have e:∀g,tvS all (fun k=>(Array.replicate all.toArray.size false).getD k false) g T=T:=fun g=>by
  funext t
  unfold tvS
  rw[runM_no]
  intro j _
  exact hrep _
 have e2:∀g,tvS all (dm [] []) g T=T:=fun g=>by
  funext t
  unfold tvS
  rw[runM_no]
  intro j _
  rfl
 refine wpIn_region_any hm ?_
 refine any_tree (K:=ex P N L Q n []) (T0:=T) (B:=B) (L:=L) (Z0:=Z) (G0:=G) (FP0:=FP) (ds:=ds) (w0:=w) hA (fun Z' FP' w' hE=>hB'.evo hE) ?_ _ _ p [] [] [] (fun _=>.any) T H Z G FP _ _ (by simp) ?_ ?_ ?_ ?_ (GLt.refl hL) hEv
 ·intro T1 H1 Z1 G1 FP1 a1 w1 hK hs1 hG1 hE1
  exact ex_run n [] T1 H1 hK (by simp) ro mm B Z G FP w Z1 G1 FP1 ds a1 w1 (hB'.evo hE1) hs1 hG1 hE1
 ·have:∀k:Nat,left (Array.replicate k false)=k:=by intro k;simp[left]
  rw[this];simp
 ·intro j o hj hl
  rw[hrep] at hl;cases hl
 ·exact ⟨hp,h,(e2 _).symm,fun i k hi=>(by simp[dm] at hi),fun i hi=>(by simp[dm] at hi),fun i hi=>(by rw[hrep] at hi;cases hi),fun i hi=>(by simp at hi),fun i hi=>(by simp at hi)⟩
 ·rw[e];exact hs'
def onlyN (R:KS):Exit→KS
 | .normal=>R
 | _=>fun _ _=>False
theorem HW.treeI {id:Nat} {Q:Exit→KS} {T:Nat→HV} {H:Heap} (I:KS) (p:Plan) (hm:P.follows .mixedOrders=true) (hB:anyB N all.length all=true) (hp:p.chk all (befs all []) [] [] []=true)
  (h:exT P all (GQ N L I) p [] T H) (k:∀T H,I T H→Q .normal T H):HW P N L (.region id all.toArray true) Q T H:=by
 refine HW.weaken (Q':=onlyN (GQ N L I)) (HW.tree 1 p hm hB hp h) fun e T' H' hq=>?_
 cases e with
 | normal =>
  obtain ⟨T2,H2,g,hi⟩:=hq
  exact ⟨T2,H2,g,k _ _ hi⟩
 | _=>exact hq.elim
end
section
variable {P:Program} {all l:List Oper} {K:KS} {k:List Item→KS} {p q:Plan} {rd:List (Nat×List Nat)} {T:Nat→HV} {H H' : Heap} {i j:Nat} {keep:List Nat} {d:Option Nat} {r:List Item}
def contQ (P:Program) (all:List Oper) (K:KS) (p:Plan) (rd:List (Nat×List Nat)) (i:Nat) (ids:List Nat) (H:Heap):List Item→KS:=fun _ T' _=>exT P all K p ((i,ids)::rd) T' H
def contT (P:Program) (all:List Oper) (K:KS) (p:Plan) (rd:List (Nat×List Nat)) (keep:List Nat) (H:Heap):List Item→KS:=fun _ T' H'=>withH H' fun H'=>agreeK keep H H' rd∧exT P all K p rd T' H'
theorem contQ_at {ids:List Nat}:contQ P all K p rd i ids H r T H'=exT P all K p ((i,ids)::rd) T H:=rfl
theorem contT_at:contT P all K p rd keep H r T H'=withH H' fun H'=>agreeK keep H H' rd∧exT P all K p rd T H':=rfl
theorem exT_leaf:exT P all K .leaf rd T H=K T H:=rfl
theorem exT_stop:exT P all K .stop rd T H=True:=rfl
theorem exT_light:exT P all K (.light i p) rd T H=atO (nthO all i) fun o=>withI (idsO T o.op) fun ids=>exGq (contQ P all K p rd i ids H) P all o [] [] T H:=rfl
theorem exT_heavy1:exT P all K (.heavy j keep p .stop) rd T H=atO (nthO all j) fun o=>exG (contT P all K p rd keep H) P all o [] [] T H:=and_true _
theorem exT_heavy {j' : Nat} {keep' : List Nat} {p' q' : Plan}:exT P all K (.heavy j keep p (.heavy j' keep' p' q')) rd T H=((atO (nthO all j) fun o=>exG (contT P all K p rd keep H) P all o [] [] T H)∧exT P all K (.heavy j' keep' p' q') rd T H):=rfl
theorem nthO_zero {o:Oper}:nthO (o::l) 0=some o:=rfl
theorem nthO_succ {o:Oper} {i:Nat}:nthO (o::l) (i+1)=nthO l i:=rfl
theorem atO_some {o:Oper} {f:Oper→Prop}:atO (some o) f=f o:=rfl
theorem atO_congr {r r' : Option Oper} {f:Oper→Prop} (h:r=r'):atO r f=atO r' f:=by rw[h]
theorem withI_congr {a b:List Nat} {f:List Nat→Prop} (h:a=b):withI a f=withI b f:=by rw[h]
theorem withH_congr {f:Heap→Prop} (h:H=H'):withH H f=withH H' f:=by rw[h]
theorem withI_eq {a:List Nat} {f:List Nat→Prop}:withI a f=f a:=rfl
theorem withH_eq {f:Heap→Prop}:withH H f=f H:=rfl
theorem callX_congr2 {fid:Nat} {args args' : List HV} (hH:H=H') (ha:args=args'):callX k P fid H args all d l r T=callX k P fid H' args' all d l r T:=by rw[hH,ha]
theorem yieldX_congr2 {id:Nat} {args args' : List HV} (hH:H=H') (ha:args=args'):yieldX k P id H args all d l r T=yieldX k P id H' args' all d l r T:=by rw[hH,ha]
theorem exGq_none {op:Op} {ty:TypeId} {pos:String} {af:Array Edge}:exGq k P all ⟨d,op,ty,pos,af,none⟩ l r T H=exOq k P all d op l r T H:=rfl
theorem exGq_some {op:Op} {ty:TypeId} {pos:String} {af:Array Edge} {b:Bool}:exGq k P all ⟨d,op,ty,pos,af,some (i,b)⟩ l r T H=exBq k P (dstAt all i) b all d op l r T H:=rfl
theorem exG_none {op:Op} {ty:TypeId} {pos:String} {af:Array Edge}:exG k P all ⟨d,op,ty,pos,af,none⟩ l r T H=exO k P all d op l r T H:=rfl
theorem exG_some {op:Op} {ty:TypeId} {pos:String} {af:Array Edge} {b:Bool}:exG k P all ⟨d,op,ty,pos,af,some (i,b)⟩ l r T H=exB k P (dstAt all i) b all d op l r T H:=rfl
theorem sameAt_nil:sameAt H H' []=True:=rfl
theorem sameAt_cons {l:List Nat}:sameAt H H' (i::l)=(getO H' i=getO H i∧sameAt H H' l):=rfl
theorem agree1_true {ids:List Nat}:agree1 H H' ids true=sameAt H H' ids:=rfl
theorem agree1_false {ids:List Nat}:agree1 H H' ids false=True:=rfl
theorem agree1_congr {ids:List Nat} {b c:Bool} (h:b=c):agree1 H H' ids b=agree1 H H' ids c:=by rw[h]
theorem agreeK_nil:agreeK keep H H' []=True:=rfl
theorem agreeK_cons {e:Nat×List Nat}:agreeK keep H H' (e::rd)=(agree1 H H' e.2 (keep.contains e.1)∧agreeK keep H H' rd):=rfl
theorem agreeK_keep:agreeK [] H H' rd=True:=by
 induction rd with
 | nil=>rfl
 | cons e rd ih=>rw[agreeK_cons,ih];simp[agree1]
theorem idsO_buildSlice {t:TypeId} {len:Nat} {ps:Array (Nat×Operand)}:idsO T (.buildSlice t len ps)=[]:=rfl
theorem idsO_load {t:TypeId} {x:Operand}:idsO T (.load t x)=idsV (hev T x):=by simp[idsO,indep,Op.operands]
theorem idsO_nilCheck {x:Operand}:idsO T (.nilCheck x)=idsV (hev T x):=by simp[idsO,indep,Op.operands]
theorem idsO_convert {s t:TypeId} {x:Operand}:idsO T (.convert s t x)=idsV (hev T x):=by simp[idsO,indep,Op.operands]
theorem idsO_fieldAddr {t:TypeId} {x:Operand} {i:Nat}:idsO T (.fieldAddr t x i)=idsV (hev T x):=by simp[idsO,indep,Op.operands]
theorem idsO_indexAddr {t:TypeId} {x y:Operand}:idsO T (.indexAddr t x y)=idsV (hev T x)++idsV (hev T y):=by simp[idsO,indep,Op.operands]
theorem idsO_len {x:Operand} {t:TypeId}:idsO T (.call { callee:=.builtin .len,args:=#[x],argTypes:=#[t] })=idsV (hev T x):=by simp[idsO,indep,Op.operands,Call.operands]
theorem idsO_max {x y:Operand} {t u:TypeId}:idsO T (.call { callee:=.builtin .max,args:=#[x,y],argTypes:=#[t,u] })=idsV (hev T x)++idsV (hev T y):=by simp[idsO,indep,Op.operands,Call.operands]
theorem idsO_min {x y:Operand} {t u:TypeId}:idsO T (.call { callee:=.builtin .min,args:=#[x,y],argTypes:=#[t,u] })=idsV (hev T x)++idsV (hev T y):=by simp[idsO,indep,Op.operands,Call.operands]
theorem idsO_slice2 {x:Operand} {t:TypeId}:idsO T (.slice t x none none none)=idsV (hev T x):=by simp[idsO,indep,Op.operands]
theorem idsO_slice4 {x y:Operand} {t:TypeId}:idsO T (.slice t x (some y) none none)=idsV (hev T x)++idsV (hev T y):=by simp[idsO,indep,Op.operands]
theorem idsO_slice1 {x y z:Operand} {t:TypeId}:idsO T (.slice t x (some y) (some z) none)=idsV (hev T x)++(idsV (hev T y)++idsV (hev T z)):=by simp[idsO,indep,Op.operands]
theorem idsO_slice3 {x y:Operand} {t:TypeId}:idsO T (.slice t x none (some y) none)=idsV (hev T x)++idsV (hev T y):=by simp[idsO,indep,Op.operands]
theorem idsO_move {x:Operand}:idsO T (.move x)=[]:=rfl
theorem idsO_assign {x:Operand}:idsO T (.assign x)=[]:=rfl
theorem idsO_pick {x y z:Operand}:idsO T (.pick x y z)=[]:=rfl
theorem idsO_build {t:TypeId} {ps:Array (Nat×Operand)}:idsO T (.build t ps)=[]:=rfl
theorem idsO_bin {op:BinOp} {t t' : TypeId} {x y:Operand}:idsO T (.binOp op t x y t')=[]:=rfl
theorem idsO_un {op:UnOp} {t:TypeId} {x:Operand}:idsO T (.unOp op t x)=[]:=rfl
theorem idsO_iface {t:TypeId} {x:Operand}:idsO T (.makeInterface t x)=[]:=rfl
theorem idsO_func {f:Fn} {xs ys:Array Operand}:idsO T (.makeFunc f xs ys)=[]:=rfl
theorem idsO_field {t:TypeId} {x:Operand} {i:Nat}:idsO T (.field t x i)=[]:=rfl
theorem idsO_index {t:TypeId} {x i:Operand}:idsO T (.index t x i)=[]:=rfl
theorem idsO_extract {x:Operand} {i:Nat}:idsO T (.extract x i)=[]:=rfl
theorem idsV_hd {a b c:Nat}:idsV (.hd a b c)=[a]:=rfl
theorem idsV_pt {a b c e:Nat}:idsV (.pt a b c e)=[a]:=rfl
theorem idsV_v {x:Value}:idsV (.v x)=[]:=rfl
theorem idsV_sl {x:List (List HV)}:idsV (.sl x)=[]:=rfl
theorem idsV_fp {x:List (List HV)} {a b:Nat}:idsV (.fp x a b)=[]:=rfl
theorem idsV_fn {x:List HV} {a:Nat}:idsV (.fn a x)=[]:=rfl
theorem idsV_ic {x:HV} {a:Nat}:idsV (.ic a x)=[]:=rfl
theorem idsV_ag {x:List HV}:idsV (.ag x)=[]:=rfl
end
attribute [congr] atO_congr withI_congr withH_congr agree1_congr callX_congr2 yieldX_congr2
attribute [go_sem] withI_eq withH_eq sameAt_nil sameAt_cons agree1_true agree1_false idsV_hd idsV_pt idsV_v idsV_sl idsV_fp idsV_fn idsV_ic idsV_ag List.append_nil List.isEmpty_nil
attribute [go_sem ↓] contQ_at contT_at exT_leaf exT_stop exT_light exT_heavy1 exT_heavy nthO_zero nthO_succ atO_some exGq_none exGq_some exG_none exG_some agreeK_keep agreeK_nil agreeK_cons idsO_buildSlice idsO_load idsO_nilCheck idsO_convert idsO_fieldAddr idsO_indexAddr idsO_len idsO_max idsO_min idsO_slice1 idsO_slice2 idsO_slice3 idsO_slice4 idsO_move idsO_assign idsO_pick idsO_build idsO_bin idsO_un idsO_iface idsO_func idsO_field idsO_index idsO_extract
end Go.Proofs.YtmapdjdnnhlpiaaGreatDoor
