/- Parts of the proof: HiDg, Cb, Se, HiDh, Cg, Pa, Cf, Cc. -/
import Derived.Test.YtoknohandclcbaaGreatZb07
import Derived.Test.YtoknohandclcbaaGreatZb09
import Derived.Test.YtoknohandclcbaaGreatZb08
open Nat renaming reduceAdd → nA, reduceSub → nS, reduceMul → nM, reduceBEq → nB
open Int renaming reduceToNat → nT
set_option linter.unusedSectionVars false
set_option linter.unusedVariables false
set_option linter.unusedSimpArgs false
namespace Go.Proofs.YtoknohandclcbaaGreat
open Go.RowKit
theorem z3Q {T:Nat→HV}:hev T (.global 999999)=.any:=by
 unfold hev
 exact if_neg (by decide)
def head (all:List Oper) (m f:Nat) (of:Oper):List Oper:=(all.take m).set f { of with op:=.move (.global 999999) }
theorem zFj {all:List Oper} {m f j t:Nat} {of:Oper} (hof:all[f]?=some of) (hj:zA8 (head all m f of) j=some t):∃oj,all[j]?=some oj∧oj.dst=some t∧j<m:=by
 by_cases e:j=f
 ·subst e
  have hlt:j<(all.take m).length:=by
   unfold zA8 head at hj
   cases hx:((all.take m).set j { of with op:=.move (.global 999999) })[j]? with
   | none=>rw[hx] at hj;cases hj
   | some oj=>have:=(List.getElem?_eq_some_iff.1 hx).1;simpa using this
  have:zA8 (head all m j of) j=of.dst:=by
   unfold zA8 head
   rw[List.getElem?_set_self hlt];rfl
  rw[this] at hj
  rw[List.length_take] at hlt
  exact ⟨of,hof,hj,by omega⟩
 ·have:zA8 (head all m f of) j=zA8 (all.take m) j:=by
   unfold zA8 head
   rw[List.getElem?_set_ne (Ne.symm e)]
  rw[this] at hj
  exact zB9 hj
structure Pend (te:TypeId) (zc:Array Value) (w0:World) (Z:Nat→Prop) (FP:Nat→List Nat) (w:World) (b:Nat):Prop where
 new:w0.heap.size≤b
 cells:w.heap[b]?=some (.cells zc te (0,0))
 z:¬Z b
 fp:∀id,b∉FP id
theorem Pend.evo {te:TypeId} {zc:Array Value} {w0 w w' : World} {Z Z' : Nat→Prop} {FP FP' : Nat→List Nat} {b:Nat} (h:Pend te zc w0 Z FP w b) (e:Evo Z FP w Z' FP' w'):Pend te zc w0 Z' FP' w' b:=by
 have hlt:=(Array.getElem?_eq_some_iff.1 h.cells).1
 refine ⟨h.new,(e.keep b hlt h.fp).trans h.cells,fun hz=>?_,fun id hc=>?_⟩
 ·rcases e.znew b hz with h1 | h1 | ⟨id,h1⟩
  ·exact h.z h1
  ·omega
  ·exact h.fp id h1
 ·rcases e.fnew id b hc with h1 | ⟨id',h1⟩
  ·omega
  ·exact h.fp id' h1
def flT (f d b:Nat) (listed:Array Bool) (l:List Oper) (xs:List HV) (T0:Nat→HV):Nat→HV :=
 if listed.getD f false=true then upd (runM (fun k=>listed.getD k false) 0 l xs T0) d (.v (.pointer (some ⟨b,0,none⟩))) else runM (fun k=>listed.getD k false) 0 l xs T0
theorem z3X {f d b t:Nat} {listed:Array Bool} {l:List Oper} {xs:List HV} {T0:Nat→HV} (h:t≠d):flT f d b listed l xs T0 t=runM (fun k=>listed.getD k false) 0 l xs T0 t:=by
 unfold flT
 split
 ·simp[upd,h]
 ·rfl
section go
variable {P:Program} {N L m mm B:Nat} {base:Nat×Nat} {hv:List Nat} {ro:Option Nat} {all:List Oper} {Φ:Exit→Act→World→Prop}
theorem zVB {f d:Nat} {te:TypeId} {zc:Array Value} {of:Oper} (hfm:f<m) (hof:all[f]?=some of) (hfv:hv.contains f=false) (hfd:of.dst=some d) (hdN:d<N)
  (hfr:∀(j:Nat) o,j≠f→j<m→all[j]?=some o→o.dst≠some d∧d∉zBY all o)
  (hrun:∀(a:Act) (w:World),Region.wanted of (yielded all.toArray a.tmps)=true∧(execOp a.eval of).run P w=.ok (.value (.pointer (some ⟨w.heap.size,0,none⟩))) (w.alloc (.cells zc te))) (hA:AnyOk3 N m hv all) {Z0:Nat→Prop} {G0:List (Option OG)} {FP0:Nat→List Nat} {ds:List Nat} {T0:Nat→HV} {H0:Heap} {xs:List HV} {hs:List Heap} {w0:World} (hxf:xs[f]?=some .any) (hc0:zF1 P base hv all 0 (head all m f of) T0 H0 xs hs) (hml:m≤all.length)
  (hB:∀Z FP w,Evo Z0 FP0 w0 Z FP w→Bo ro B FP w)
  (hend:∀Z G FP a w b,Pend te zc w0 Z FP w b→St N B Z G FP ds (upd (runM (fun _=>true) 0 (head all m f of) xs T0) d (.v (.pointer (some ⟨b,0,none⟩)))) (zW H0 hs m) a w→GLt L G0 G→Evo Z0 FP0 w0 Z FP w→wpListIn (Wd ro) mm P all.toArray Φ (all.drop m) a w) :
  ∀(fuel:Nat) (listed:Array Bool) (c:Nat) (Z:Nat→Prop) (G:List (Option OG)) (FP:Nat→List Nat) (a:Act) (w:World) (b:Nat),listed.size=all.length→left listed≤fuel→zCD all listed→(∀j,m≤j→j<all.length→listed.getD j false=false)→
  c≤m→(∀(j:Nat),j<m→hv.contains j=true→(listed.getD j false=true↔j<c))→
  (listed.getD f false=true→Pend te zc w0 Z FP w b)→St N B Z G FP ds (flT f d b listed (head all m f of) xs T0) (zW H0 hs c) a w→GLt L G0 G→Evo Z0 FP0 w0 Z FP w→wpAnyIn (Wd ro) mm P .any all.toArray Φ fuel listed a w:=by
 have hlm:(head all m f of).length=m:=by unfold head;rw[List.length_set,List.length_take];omega
 have fin:∀(listed:Array Bool) (c:Nat) (Z:Nat→Prop) (G:List (Option OG)) (FP:Nat→List Nat) (a:Act) (w:World) (b:Nat),c≤m→(∀k,k<m→listed.getD k false=true)→(∀(j:Nat),j<m→hv.contains j=true→(listed.getD j false=true↔j<c))→
   (listed.getD f false=true→Pend te zc w0 Z FP w b)→St N B Z G FP ds (flT f d b listed (head all m f of) xs T0) (zW H0 hs c) a w→GLt L G0 G→Evo Z0 FP0 w0 Z FP w→wpListIn (Wd ro) mm P all.toArray Φ (all.drop m) a w:=by
  intro listed c Z G FP a w b hcm hall hcl hpend hs' hG hE
  have hfl:listed.getD f false=true:=hall f hfm
  have hTe:runM (fun k=>listed.getD k false) 0 (head all m f of) xs T0=runM (fun _=>true) 0 (head all m f of) xs T0:=by
   funext t
   refine zBG _ _ _ _ _ rfl fun j hj=>?_
   obtain ⟨oj,h1,h2,h3⟩:=zFj hof hj
   simp only[Nat.zero_add]
   exact hall j h3
  have hHe:zW H0 hs m=zW H0 hs c:=zCa hc0 m c hcm (by omega) fun j h1 h2=>by
   cases hv' : hv.contains j with
   | false=>rfl
   | true=>have:=(hcl j h2 hv').1 (hall j h2);omega
  refine hend Z G FP a w b (hpend hfl) ?_ hG hE
  unfold flT at hs'
  rw[if_pos hfl] at hs'
  rw[←hTe,hHe];exact hs'
 intro fuel
 induction fuel with
 | zero =>
  intro listed c Z G FP a w b hsz hf hc hm hcm hcl hpend hs' hG hE
  have hall:=zBp (Nat.le_zero.1 hf)
  have hml' : all.length≤m:=by
   rcases Nat.lt_or_ge m all.length with h | h
   ·have h1:=hm m (Nat.le_refl _) h
    rw[hall m (by omega)] at h1;cases h1
   ·exact h
  have hno:Region.ready .any all.toArray listed=[]:=by
   rw[List.eq_nil_iff_forall_not_mem]
   intro i hi
   obtain ⟨h1,o,ho,_⟩:=mem_ready.1 hi
   rw[List.getElem?_toArray] at ho
   have hi':=(List.getElem?_eq_some_iff.1 ho).1
   have h2:=hall i (by omega)
   rw[Array.getD_eq_getD_getElem?,zAJ h1] at h2
   simp at h2
  refine ⟨hno,?_⟩
  have:=fin listed c Z G FP a w b hcm (fun k hk=>hall k (by omega)) hcl hpend hs' hG hE
  rw[List.drop_eq_nil_of_le hml'] at this
  exact this
 | succ fuel ih =>
  intro listed c Z G FP a w b hsz hf hc hm hcm hcl hpend hs' hG hE
  by_cases hall:∀k,k<m→listed.getD k false=true
  ·have h:=fin listed c Z G FP a w b hcm hall hcl hpend hs' hG hE
   refine zFl hA.base (all.drop m) m (fuel+1) listed a w rfl (Nat.le_refl _) hml hsz hf hc (fun i hi=>⟨fun hx=>?_,fun hx=>hall i hx⟩) h
   rcases Nat.lt_or_ge i m with h' | h'
   ·exact h'
   ·rw[hm i h' hi] at hx;cases hx
  ·have hex:∃k,k<m∧listed.getD k false=false:=by
    apply Classical.byContradiction
    intro hn
    refine hall fun k h1=>?_
    cases hx:listed.getD k false with
    | true=>rfl
    | false=>exact absurd ⟨k,h1,hx⟩ hn
   obtain ⟨k,⟨hk1,hk3⟩,hkl⟩:=zU (p:=fun k=>k<m∧listed.getD k false=false) hex
   have hkr:k∈Region.ready .any all.toArray listed:=zAh hA.base hsz (by omega) hk3 (fun j hj=>by
    cases hx:listed.getD j false with
    | true=>rfl
    | false=>have:=hkl j ⟨by omega,hx⟩;omega)
   refine ⟨fun h0=>by rw[h0] at hkr;simp at hkr,fun i hi=>?_⟩
   obtain ⟨h1,o,ho,ha⟩:=mem_ready.1 hi
   rw[List.getElem?_toArray] at ho
   have hil:=(List.getElem?_eq_some_iff.1 ho).1
   have hnl:=zAJ h1
   have hnf:listed.getD i false=false:=by rw[Array.getD_eq_getD_getElem?,hnl];rfl
   have him:i<m:=by
    rcases Nat.lt_or_ge i m with h' | h'
    ·exact h'
    ·have:=z6 hA.base hc hi (hA.base.ord k i _ o (by omega) (List.getElem?_eq_getElem (show k<all.length by omega)) ho (.inl h'))
     rw[hk3] at this;cases this
   have hadd:=zC9 hnl
   have hcl2:=zBD hc (fun o' ho' e he hb=>by rw[ho] at ho';cases ho';exact ha e (by simpa using he) hb)
   have hm2:∀j,m≤j→j<all.length→(listed.setIfInBounds i true).getD j false=false:=fun j h1 h2=>by
    cases hx:(listed.setIfInBounds i true).getD j false with
    | false=>rfl
    | true =>
     rcases zT hx with rfl | hx
     ·omega
     ·rw[hm j h1 h2] at hx;cases hx
   by_cases hif:i=f
   ·
    subst hif
    rw[hof] at ho;cases ho
    obtain ⟨hwant,hex⟩:=hrun a w
    obtain ⟨hok,hnd⟩:=hA.base.ok i of hof
    have hoT:(head all m i of)[i]?=some { of with op:=.move (.global 999999) }:=by
     unfold head;rw[List.getElem?_set_self (by rw[List.length_take];omega)]
    have hT:runM (fun k=>(listed.setIfInBounds i true).getD k false) 0 (head all m i of) xs T0=updO (runM (fun k=>listed.getD k false) 0 (head all m i of) xs T0) of.dst .any:=by
     refine zBx (head all m i of) xs 0 i T0 { of with op:=.move (.global 999999) } .any hoT hxf ?_ ?_ ?_ ?_
     ·simp only[Nat.zero_add];exact zAH (by omega)
     ·simp only[Nat.zero_add];exact hnf
     ·intro k hk
      simp only[Nat.zero_add] at hk
      simp only[Array.getD_eq_getD_getElem?,Array.getElem?_setIfInBounds_ne (Ne.symm hk)]
     ·intro k hk hS t ht hdk
      simp only[Nat.zero_add] at hS
      obtain ⟨ok,hok',hd,_⟩:=zFj hof hdk
      have:=zAL hA.base hc k i ok hok' (hc k ok hok' hS) (hA.base.ord i k of ok hk hof hok' (.inr (by
       unfold zBT
       rw[show of.dst=some t from ht]
       simp[hd])))
      rw[hnf] at this;cases this
    unfold wpOpIn
    rw[List.getElem?_toArray,hof]
    dsimp only
    rw[if_pos hwant]
    refine ⟨fun _ _=>trivial,?_⟩
    rw[zA2 _ _ _ (zBC hnd),hex]
    have hsz' : w.heap.size<(w.alloc (.cells zc te)).heap.size:=by simp
    have hEv:Evo Z FP w Z FP (w.alloc (.cells zc te)):=⟨rfl,rfl,rfl,by simp,fun b hb _=>heap_alloc_old w _ hb,fun _ h=>h,fun _ h=>.inl h,fun id b hb=>.inr ⟨id,hb⟩⟩
    have hi2:HInv Z G FP (zW H0 hs c) (w.alloc (.cells zc te)):=hs'.inv.keep (by simp) (fun b hb=>heap_alloc_old w _ (by
     rcases hb with hb | ⟨id,hb⟩
     ·exact hs'.inv.zlt b hb
     ·exact hs'.inv.flt id b hb))
    have hs2:=(hs'.evo hi2 (GLe.refl _) hEv).put (x:=.v (.pointer (some ⟨w.heap.size,0,none⟩))) (y:=.pointer (some ⟨w.heap.size,0,none⟩)) (by simp[RV]) of.dst (fun q hq=>by rw[hfd] at hq;cases hq;exact hdN)
    have hTf:updO (flT i d b listed (head all m i of) xs T0) of.dst (.v (.pointer (some ⟨w.heap.size,0,none⟩)))=flT i d w.heap.size (listed.setIfInBounds i true) (head all m i of) xs T0:=by
     unfold flT
     rw[hnf,if_neg (by simp),if_pos (zAH (by omega)),hT,hfd]
     funext t
     simp only[updO,upd]
     split <;> rfl
    rw[hTf] at hs2
    refine ih (listed.setIfInBounds i true) c Z G FP _ _ w.heap.size (by simpa using hsz) (by omega) hcl2 hm2 hcm (fun j hj hv'=>?_) (fun _=>⟨hE.size,heap_alloc_new w _,fun hz=>by have:=hs'.inv.zlt _ hz;omega,fun id hc=>by have:=hs'.inv.flt id _ hc;omega⟩) hs2 hG (hE.trans hEv)
    rw[←hcl j hj hv']
    constructor
    ·intro hxx
     rcases zT hxx with rfl | hxx
     ·rw[hfv] at hv';cases hv'
     ·exact hxx
    ·exact zAA
   have hoT:(head all m f of)[i]?=some o:=by unfold head;rw[List.getElem?_set_ne (Ne.symm hif),List.getElem?_take,if_pos him];exact ho
   obtain ⟨hd1,hd2⟩:=hfr i o hif him ho
   obtain ⟨x,hx,hcert⟩:=zBv (head all m f of) xs hs 0 i T0 H0 o hc0 hoT
   obtain ⟨hok,hnd⟩:=hA.base.ok i o ho
   have hsee:∀t∈zBY all o,runM (fun k=>decide (k<0+i)) 0 (head all m f of) xs T0 t=flT f d b listed (head all m f of) xs T0 t:=by
    intro t ht
    rw[z3X (fun e=>hd2 (by rw[←e];exact ht))]
    refine zBG _ _ _ _ _ rfl fun j hj=>?_
    obtain ⟨oj,hoj,hd,hjm⟩:=zFj hof hj
    simp only[Nat.zero_add]
    rcases Nat.lt_trichotomy j i with h' | h' | h'
    ·have:=z6 hA.base hc hi (hA.base.ord j i oj o h' hoj ho (.inr (by simp[zBT,hd,ht])))
     rw[this];simp[h']
    ·subst h';rw[hnf];simp
    ·have hjl:=(List.getElem?_eq_some_iff.1 hoj).1
     cases hx:listed.getD j false with
     | false=>simp;omega
     | true =>
      have:=zAL hA.base hc j i oj hoj (hc j oj hoj hx) (hA.base.ord i j o oj h' ho hoj (.inr (by
       unfold zBT
       rw[hd]
       simp[ht])))
      rw[hnf] at this;cases this
   have hcert':=zCi hsee hcert
   rw[Nat.zero_add] at hcert'
   have hdall:all.all (zBR N)=true:=by
    rw[List.all_eq_true]
    intro o' ho'
    obtain ⟨j',hj'⟩:=List.mem_iff_getElem?.1 ho'
    have:=(hA.base.ok j' o' hj').1
    simp only[zH,Bool.and_eq_true] at this
    exact this.1
   have heavyAt:hv.contains i=true→zW H0 hs c=zW H0 hs i∧c≤i:=fun hvi=>by
    have hci:c≤i:=by
     rcases Nat.lt_or_ge i c with h | h
     ·have:=(hcl i him hvi).2 h;rw[hnf] at this;cases this
     ·exact h
    refine ⟨(zCa hc0 i c hci (by omega) fun j h1 h2=>?_).symm,hci⟩
    cases hv' : hv.contains j with
    | false=>rfl
    | true =>
     have:=z6 hA.base hc hi (hA.hv j i _ o h2 (List.getElem?_eq_getElem (show j<all.length by omega)) ho hv' hvi)
     have:=(hcl j (by omega) hv').1 this
     omega
   have hquiet0:SameTo base.1 (zW H0 hs i) (zW H0 hs c):=by
    rcases Nat.lt_or_ge i c with h | h
    ·exact (zCb hc0 c i (by omega) (by omega)).1
    ·intro id hid
     exact ((zCb hc0 i c h (by omega)).1 id hid).symm
   have hquiet:hv.contains i=false→SameTo (bsO hv base i) (zW H0 hs i) (zW H0 hs c):=fun hvi0=>by
    cases hod:hv.contains (1000+i) with
    | false =>
     have:bsO hv base i=base.1:=by unfold bsO;rw[if_neg (by rw[hvi0];simp),if_neg (by rw[hod];simp)]
     rw[this];exact hquiet0
    | true =>
     have:bsO hv base i=base.2:=by unfold bsO;rw[if_neg (by rw[hvi0];simp),if_pos hod]
     rw[this]
     rcases Nat.lt_or_ge i c with h | h
     ·refine (zCA hc0 c i (by omega) (by omega) fun j h1 h2 hv' hw=>?_).1
      have hjl:j<all.length:=by omega
      have hlj:=(hcl j (by omega) hv').2 h2
      rcases Nat.lt_or_ge i j with h3 | h3
      ·have:=zAL hA.base hc j i all[j] (List.getElem?_eq_getElem hjl) (hc j all[j] (List.getElem?_eq_getElem hjl) hlj) (hA.od2 i j o all[j] h3 ho (List.getElem?_eq_getElem hjl) hod hw)
       rw[hnf] at this;cases this
      ·obtain rfl:i=j:=by omega
       rw[hnf] at hlj;cases hlj
     ·intro id hid
      refine ((zCA hc0 i c h (by omega) fun j h1 h2 hv' hw=>?_).1 id hid).symm
      have:=z6 hA.base hc hi (hA.od1 j i _ o h2 (List.getElem?_eq_getElem (show j<all.length by omega)) ho hw hod)
      have:=(hcl j (by omega) hv').1 this
      omega
   have hT:runM (fun k=>(listed.setIfInBounds i true).getD k false) 0 (head all m f of) xs T0=updO (runM (fun k=>listed.getD k false) 0 (head all m f of) xs T0) o.dst x:=by
    refine zBx (head all m f of) xs 0 i T0 o x hoT hx ?_ ?_ ?_ ?_
    ·simp only[Nat.zero_add];exact zAH (by omega)
    ·simp only[Nat.zero_add];exact hnf
    ·intro k hk
     simp only[Nat.zero_add] at hk
     simp only[Array.getD_eq_getD_getElem?,Array.getElem?_setIfInBounds_ne (Ne.symm hk)]
    ·intro k hk hS t ht hdk
     simp only[Nat.zero_add] at hS
     obtain ⟨ok,hok',hd,_⟩:=zFj hof hdk
     have:=zAL hA.base hc k i ok hok' (hc k ok hok' hS) (hA.base.ord i k o ok hk ho hok' (.inr (by
      unfold zBT
      rw[ht]
      simp[hd])))
     rw[hnf] at this;cases this
   have hTf:flT f d b (listed.setIfInBounds i true) (head all m f of) xs T0=updO (flT f d b listed (head all m f of) xs T0) o.dst x:=by
    have hfs:(listed.setIfInBounds i true).getD f false=listed.getD f false:=by
     simp only[Array.getD_eq_getD_getElem?,Array.getElem?_setIfInBounds_ne hif]
    unfold flT
    rw[hfs,hT]
    cases listed.getD f false with
    | false=>simp
    | true =>
     simp only[if_true]
     cases hod:o.dst with
     | none=>rfl
     | some t =>
      have:t≠d:=fun e=>hd1 (by rw[hod,e])
      funext q
      simp only[updO,upd]
      by_cases e1:q=d
      ·subst e1;simp[Ne.symm this]
      ·simp[e1]
   have hpend' : ∀Z' FP' w',Evo Z FP w Z' FP' w'→((listed.setIfInBounds i true).getD f false=true→Pend te zc w0 Z' FP' w' b):=fun Z' FP' w' hEE hxx=>by
    rcases zT hxx with rfl | hxx
    ·exact absurd rfl hif
    ·exact (hpend hxx).evo hEE
   cases hvi:hv.contains i with
   | true =>
    rw[hvi] at hcert'
    obtain ⟨hHc,hci⟩:=heavyAt hvi
    refine zE7 (L:=L) (Hn:=zW H0 hs (i+1)) hdall ho hok hnd hcert' hs' (hB Z FP w hE) hG.len (fun h=>by cases h) (fun _=>⟨hHc,rfl⟩) fun Z' G' FP' a' w' hs2 hG' hE'=>?_
    refine ih (listed.setIfInBounds i true) (i+1) Z' G' FP' a' w' b (by simpa using hsz) (by omega) hcl2 hm2 (by omega) (fun j hj hv'=>?_) (hpend' _ _ _ hE') (by rw[hTf];exact hs2) (hG.trans hG') (hE.trans hE')
    constructor
    ·intro hxx
     rcases zT hxx with rfl | hxx
     ·omega
     ·have:=(hcl j hj hv').1 hxx;omega
    ·intro hlt
     by_cases e:j=i
     ·subst e;exact zAH (by omega)
     ·refine zAA ?_
      exact z6 hA.base hc hi (hA.hv j i _ o (by omega) (List.getElem?_eq_getElem (show j<all.length by omega)) ho hv' hvi)
   | false =>
    rw[hvi] at hcert'
    refine zE7 (L:=L) (Hn:=zW H0 hs c) hdall ho hok hnd hcert' hs' (hB Z FP w hE) hG.len (fun _=>⟨rfl,hquiet hvi⟩) (fun h=>by cases h) fun Z' G' FP' a' w' hs2 hG' hE'=>?_
    refine ih (listed.setIfInBounds i true) c Z' G' FP' a' w' b (by simpa using hsz) (by omega) hcl2 hm2 hcm (fun j hj hv'=>?_) (hpend' _ _ _ hE') (by rw[hTf];exact hs2) (hG.trans hG') (hE.trans hE')
    rw[←hcl j hj hv']
    constructor
    ·intro hxx
     rcases zT hxx with rfl | hxx
     ·rw[hvi] at hv';cases hv'
     ·exact hxx
    ·exact zAA
end go
section
variable {P:Program} {N L:Nat} {base:Nat×Nat} {hv:List Nat} {Q:Exit→KS} {H:Heap}
def zTk (N m f:Nat) (hv:List Nat) (all:List Oper):Bool :=
 match all[f]? with
 | some of=>decide (f<m) && !hv.contains f && (match of.guard with | none=>true | some _=>false) &&
  (match of.dst,of.op with
  | some d,.alloc _=>decide (d<N) && (all.take m).zipIdx.all fun (o,j)=>j == f || ((match o.dst with | some t=>t != d | none=>true) && !(zBY all o).contains d)
  | _,_=>false)
 | none=>false
def zSs (P:Program) (k:KS) (of:Oper):KS:=fun T H =>
 match of.op with
 | .alloc t=>onR (zHi P H t) fun x H'=>k (updO T of.dst x) H'
 | _=>False
theorem HW.float {id:Nat} {all:List Oper} {T:Nat→HV} (n m:Nat) (base:Nat×Nat) (hv:List Nat) (f:Nat) (of:Oper) (hm:P.follows .mixedOrders=true) (hB:zYb N m hv all=true) (hml:m≤all.length) (hof:all[f]?=some of) (hF:zTk N m f hv all=true)
  (h:exM P base hv all (zSs P (ex P N L Q n [.ops all (all.drop m)]) of) 0 (head all m f of) T H):HW P N L (.region id all.toArray true) Q T H:=by
 unfold zTk at hF
 rw[hof] at hF
 simp only[Bool.and_eq_true,decide_eq_true_eq,Bool.not_eq_true'] at hF
 obtain ⟨⟨⟨hfm,hfv⟩,hg⟩,hF⟩:=hF
 have hg:of.guard=none:=by
  split at hg
  ·assumption
  ·cases hg
 split at hF
 case h_2=>cases hF
 rename_i d t hd hop
 simp only[Bool.and_eq_true,decide_eq_true_eq] at hF
 obtain ⟨hdN,hF⟩:=hF
 have hfr:∀(j:Nat) o,j≠f→j<m→all[j]?=some o→o.dst≠some d∧d∉zBY all o:=by
  intro j o hj hjm ho
  have hmem:(o,j)∈(all.take m).zipIdx:=by
   rw[List.mem_zipIdx_iff_getElem?,List.getElem?_take,if_pos hjm];exact ho
  have:=List.all_eq_true.1 hF (o,j) hmem
  simp only[Bool.or_eq_true,beq_iff_eq,Bool.and_eq_true,Bool.not_eq_true'] at this
  rcases this with h | ⟨h1,h2⟩
  ·exact absurd h hj
  ·refine ⟨fun e=>?_,fun hc=>?_⟩
   ·rw[e] at h1;simp at h1
   ·have:(zBY all o).contains d=true:=by simpa using hc
    rw[this] at h2;cases h2
 obtain ⟨xs,hs,hc,hex⟩:=zJL (head all m f of) 0 T H h
 have hlm:(head all m f of).length=m:=by unfold head;rw[List.length_set,List.length_take];omega
 rw[hlm] at hex
 have hxf:xs[f]?=some .any:=by
  obtain ⟨x,hx,hN⟩:=zBv (head all m f of) xs hs 0 f T H { of with op:=.move (.global 999999) } hc (by unfold head;rw[List.getElem?_set_self (by rw[List.length_take];omega)])
  rw[Nat.zero_add,hfv] at hN
  unfold zEe at hN
  simp only[hg] at hN
  unfold zFP at hN
  simp only[Bool.false_eq_true,if_false] at hN
  rcases hN.1 with ⟨p,H0,hp,hr,_⟩ | ⟨g,args,tys,fid,caps,R,e,_⟩ | ⟨rv,name,args,tys,t,y,fid,R,e,_⟩ | ⟨t,len,parts,p,H0,e,_⟩
  ·have:ropQ P (runM (fun k=>decide (k<f)) 0 (head all m f of) xs T) (zW H hs f) (.move (.global 999999))=some (True,.any,zW H hs f):=by
    show some (True,hev _ (.global 999999),_)=_
    rw[z3Q]
   rw[this] at hr
   simp only[Option.some.injEq,Prod.mk.injEq] at hr
   rw[hx,hr.2.1]
  ·cases e
  ·cases e
  ·cases e
 unfold zSs at hex
 rw[hop] at hex
 obtain ⟨ty,hty,hex⟩:=zC hex
 obtain ⟨cs,hcs,hex⟩:=zC hex
 obtain ⟨z,hz,rfl,hz1,hzs⟩:=zAv hcs
 have hex:=hex.2
 intro ro mm B Z G FP ds a w hB' hL hst
 have hA:=zIJ hB
 have hEv:Evo Z FP w Z FP { w with drawn:=w.drawn+1 }:=⟨rfl,rfl,rfl,Nat.le_refl _,fun _ _ _=>rfl,fun _ h=>h,fun _ h=>.inl h,fun id b hb=>.inr ⟨id,hb⟩⟩
 have hi:HInv Z G FP H { w with drawn:=w.drawn+1 }:=hst.inv.keep (Nat.le_refl _) (fun _ _=>rfl)
 have hs':=hst.evo hi (GLe.refl _) hEv
 have hallok:(all.all fun o=>zH N o && zAD o)=true:=by
  rw[List.all_eq_true]
  intro o ho
  obtain ⟨j,hj⟩:=List.mem_iff_getElem?.1 ho
  have:=hA.base.ok j o hj
  simp[this.1,this.2]
 have hdrop:((all.drop m).all fun o=>zH N o && zAD o)=true:=by
  rw[List.all_eq_true]
  intro o ho
  exact List.all_eq_true.1 hallok o (List.mem_of_mem_drop ho)
 refine wpIn_region_any hm ?_
 refine zVB (m:=m) (B:=B) (L:=L) (Z0:=Z) (G0:=G) (FP0:=FP) (ds:=ds) (w0:=w) (te:=t) (zc:=z.cells) hfm hof hfv hd hdN hfr (fun a w=>⟨by simp[Region.wanted,hg],by simp only[execOp,hop,Instr.alloc,Sem.run_bind,zAl hty hz,Result.andThen_ok,newVar,newRow];simp⟩) hA hxf hc hml (fun Z' FP' w' hE=>hB'.evo hE) ?_ _ _ 0 Z G FP _ _ 0 (by simp) ?_ ?_ (fun j h1 h2=>?_) (Nat.zero_le _) (fun j hj hv=>?_) (fun hx=>?_) ?_ (GLt.refl hL) hEv
 ·intro Z1 G1 FP1 a1 w1 b hp hs1 hG1 hE1
  have hlt:=(Array.getElem?_eq_some_iff.1 hp.cells).1
  have hlen:=hs1.inv.len
  have hob:OB Z1 (G1++[some ⟨some b,t,ty.size,1,1⟩]) w1 ⟨t,ty.size,[z.cells.toList.map .v]⟩ ⟨some b,t,ty.size,1,1⟩ [b]:=by
   refine ⟨rfl,rfl,rfl,by simp[hzs],.inr (.inl ⟨b,z.cells,[],rfl,rfl,hp.cells,by simp[hzs],by simp,by simp[maxLen],?_⟩)⟩
   refine (zCZ hp.cells _ 0 [] (Nat.zero_le _)).2 ⟨by simp,?_,?_⟩
   ·simp only[List.flatten_cons,List.flatten_nil,List.append_nil,List.length_map,List.drop_zero]
    rw[List.take_of_length_le (Nat.le_refl _)]
    exact zRM _ _ _ _
   ·simp only[List.drop_zero]
    intro y hy
    exact hz1 y (List.mem_of_mem_take hy)
  have hnew:=hs1.inv.new (Nat.le_refl _) (fun _ _=>rfl) hob (by simp) (fun b' hb'=>by
   obtain rfl:=List.mem_singleton.1 hb'
   exact ⟨hp.z,hlt,hp.fp⟩)
  have hE2:Evo Z FP w Z1 (fun j=>if j=(zW H hs m).length then [b] else FP1 j) w1:=by
   refine ⟨hE1.os,hE1.tape,hE1.output,hE1.size,hE1.keep,hE1.zle,hE1.znew,fun id b' hb'=>?_⟩
   by_cases e:id=(zW H hs m).length
   ·simp only[if_pos e,List.mem_singleton] at hb'
    subst hb';exact .inl hp.new
   ·simp only[if_neg e] at hb'
    exact hE1.fnew id b' hb'
  have hptr:RV Z1 (G1++[some ⟨some b,t,ty.size,1,1⟩]) w1 (.pt (zW H hs m).length 1 0 0) (.pointer (some ⟨b,0,none⟩)) []:=by
   simp only[RV]
   rw[←hlen]
   refine ⟨trivial,rfl,by simp,fun g hg=>?_⟩
   simp at hg;subst hg
   exact ⟨Nat.le_refl _,fun _=>⟨b,rfl,by simp⟩⟩
  have hs2:St N B Z1 (G1++[some ⟨some b,t,ty.size,1,1⟩]) (fun j=>if j=(zW H hs m).length then [b] else FP1 j) ds (updO (runM (fun _=>true) 0 (head all m f of) xs T) of.dst (.pt (zW H hs m).length 1 0 0)) (zW H hs m++[some ⟨t,ty.size,[z.cells.toList.map .v]⟩]) a1 w1:=by
   refine ⟨hnew,hs1.size,fun i hi=>?_,hs1.defers,hs1.dsn,fun q hq=>?_⟩
   ·have:=hs1.tmps i hi
    rw[hd]
    simp only[updO,upd] at this⊢
    split
    ·rename_i e
     rw[if_pos e] at this
     rw[RV_v this]
     exact hptr
    ·rename_i e
     rw[if_neg e] at this
     exact RV.nil_keep (fun _ _=>rfl) (fun _ h=>h) (GLe.more _) this
   ·obtain ⟨q1,q2,q3,q4⟩:=hs1.dsat q hq
    refine ⟨q1,q2,q3,fun id hc=>?_⟩
    by_cases e:id=(zW H hs m).length
    ·simp only[if_pos e,List.mem_singleton] at hc
     subst hc
     rw[hp.cells] at q2;cases q2
    ·simp only[if_neg e] at hc
     exact q4 id hc
  have:=zCV n [.ops all (all.drop m)] _ _ hex (by simp[zAq,hallok,hdrop]) ro mm B Z G FP w Z1 _ _ ds a1 w1 (hB'.evo hE2) hs2 (hG1.trans (GLt.of hG1.len (GLe.more _))) hE2
  simp only[M] at this
  exact this
 ·have:∀k:Nat,left (Array.replicate k false)=k:=by intro k;simp[left]
  rw[this];simp
 ·intro j o hj hl
  exfalso
  have hjl:=(List.getElem?_eq_some_iff.1 hj).1
  simp[Array.getD_eq_getD_getElem?,hjl] at hl
 ·simp[Array.getD_eq_getD_getElem?,h2]
 ·simp[Array.getD_eq_getD_getElem?,show j<all.length by omega]
 ·exfalso
  simp[Array.getD_eq_getD_getElem?,show f<all.length by omega] at hx
 ·have e:runM (fun k=>(Array.replicate all.toArray.size false).getD k false) 0 (head all m f of) xs T=T:=by
   funext t
   rw[zB2]
   intro j _
   simp only[Array.getD_eq_getD_getElem?]
   by_cases hlt:0+j<all.toArray.size
   ·have:0+j<all.length:=by simpa using hlt
    rw[Array.getElem?_eq_getElem (by simpa using hlt)]
    simp
   ·rw[Array.getElem?_eq_none (by simpa using hlt)];rfl
  unfold flT
  rw[if_neg (by simp[Array.getD_eq_getD_getElem?,show f<all.length by omega]),e]
  exact hs'
theorem zK0 {k:KS} {d:Option Nat} {t ty:TypeId} {pos:String} {af:Array Edge} {g:Option (Nat×Bool)} {T:Nat→HV}:zSs P k { dst:=d,op:=.alloc t,type:=ty,pos:=pos,after:=af,guard:=g } T H=onR (zHi P H t) fun x H'=>k (updO T d x) H':=rfl
theorem zWt {p:Prop} {x:HV} {H' : Heap} {K:KT}:onR (some (p,x,H')) K=(p∧K x H'):=rfl
theorem zQJ {T:Nat→HV} {g:Nat}:hev T (.global g)=if zHS g=true then .fp [[.ic zKi (.gv g)]] 0 0 else .any:=rfl
attribute [go_sem] zK0 zWt zQJ head
end
end Go.Proofs.YtoknohandclcbaaGreat
namespace Go.Proofs.YtoknohandclcbaaGreat
open Go.RowKit
set_option maxRecDepth 8000
theorem zMT {α:Type} {l:List α} {i:Nat} {x:α} {r:List α} (h:l.length=i):(l++x::r)[i]?=some x:=by subst h;simp
theorem zMM {α:Type} {l:List α} {i:Nat} {x y:α} {r:List α} (h:l.length=i):(l++x::r).set i y=l++y::r:=by subst h;simp
set_option maxHeartbeats 4000000 in
theorem yA9 (s:Sta) (hm:s.mem.length≤100000) (ht:s.ths.length≤1000) (hr:∀t∈s.ths,t.regs.length≤100000∧t.buf.length≤100000):HFn Tryz.prog 190 [staH s] (staO s):=by
 refine zV (fn:=Tryz.f190) 41 [.cell 2 79] (by kernel_rfl) rfl rfl (by kernel_rfl) (HW.run 400 (by kernel_rfl) ?_)
 simp +decide only[go_sem,nT,nA,nS,nM,nB,reduceIte,reduceCtorEq]
 refine HW.float 80 8 (2,0) [2,5] 7 _ follows (by kernel_rfl) (by decide) rfl (by kernel_rfl) ?_
 simp +decide only[go_sem,nT,nA,nS,nM,nB,reduceIte,reduceCtorEq]
 refine zBc (zAj s.mem (by omega)) rfl rfl ?_
 simp +decide only[go_sem,nT,nA,nS,nM,nB,reduceIte,reduceCtorEq]
 refine zBc (zLW s.ths (by omega)) rfl rfl ?_
 simp +decide only[go_sem,nT,nA,nS,nM,nB,reduceIte,reduceCtorEq]
 refine HW.loopG (fun k T H=>∃i:Nat,k=s.ths.length-i∧i≤s.ths.length∧T 2=.pt 1 1 0 0∧T 3=.pt 4 1 0 0∧T 15=.v (.int .i64 s.ths.length)∧T 16=.v (.int .i64 i)∧
  H=[some ⟨79,2,[[.sl (ints s.mem),.sl (thds s.ths)]]⟩,some ⟨79,2,[[.v (.slice none 0 0),.v (.slice none 0 0)]]⟩,some ⟨3,1,ints s.mem⟩,some ⟨106,4,zX (s.ths.take i)++thds (s.ths.drop i)⟩,some ⟨79,2,[[.hd 2 0 s.mem.length,.hd 3 0 s.ths.length]]⟩]) s.ths.length
  ⟨_,_,Ghost.refl,0,rfl,by omega,rfl,rfl,rfl,rfl,?_⟩ ?_
 ·rfl
 rintro k T H ⟨i,rfl,hi,h2,h3,h15,h16,rfl⟩
 refine HW.run 200 (by kernel_rfl) ?_
 by_cases hlt:i<s.ths.length
 ·have hlt' : ((i:Int)<(s.ths.length:Int))=True:=by rw[zR];simp[hlt]
  have hx:s.ths[i]?=some s.ths[i]:=List.getElem?_eq_getElem hlt
  obtain ⟨r1,r2⟩:=hr _ (List.getElem_mem hlt)
  have htk:s.ths.take (i+1)=s.ths.take i++[s.ths[i]]:=by rw[List.take_add_one,hx];rfl
  have hdr:s.ths.drop i=s.ths[i]::s.ths.drop (i+1):=List.drop_eq_getElem_cons hlt
  generalize s.ths[i]=x at hx r1 r2 htk hdr
  have hlk:(s.ths.take i).length=i:=by rw[List.length_take];omega
  have hlen:(zX (s.ths.take i)).length=i:=by simp[zX];omega
  rw[hdr]
  have hrl:∀X,(zX (s.ths.take i)++X::thds (s.ths.drop (i+1)))[i]?=some X:=fun X=>zMT hlen
  have hsl:∀X Y,(zX (s.ths.take i)++X::thds (s.ths.drop (i+1))).set i Y=zX (s.ths.take i)++Y::thds (s.ths.drop (i+1)):=fun X Y=>zMM hlen
  have hn:i+(s.ths.length-(i+1)+1)=s.ths.length:=by omega
  have hlv:(s.ths.length == s.ths.length && s.ths.length != 0)=true:=by
   rw[Bool.and_eq_true]
   exact ⟨beq_self_eq_true _,by simp only[bne_iff_ne];omega⟩
  simp +decide only[go_sem,nT,nA,nS,nM,nB,reduceIte,reduceCtorEq,h2,h3,h15,h16,hlt',hx,hlk,zBX,hrl,hsl,List.length_drop,hn,hlv]
  repeat (with_reducible refine And.intro ?_ ?_;·(with_reducible and_intros) <;> omega)
  refine HW.mixed 80 15 (3,5) [6,11,14,2014,1003,1004,1005,1008,1009,1010,1012,1013] follows (by kernel_rfl) (by decide) ?_
  simp +decide only[go_sem,nT,nA,nS,nM,nB,reduceIte,reduceCtorEq,h2,h3,h15,h16,hlt',hx,hlk,zBX,hrl,hsl,List.length_drop,hn,hlv]
  refine zBc (zAj x.regs (by omega)) rfl rfl ?_
  simp +decide only[go_sem,nT,nA,nS,nM,nB,reduceIte,reduceCtorEq,h2,h3,h15,h16,hlt',hx,hlk,zBX,hrl,hsl,List.length_drop,hn,hlv]
  refine zBc (zCX x.buf (by omega)) rfl rfl ?_
  simp +decide only[go_sem,nT,nA,nS,nM,nB,reduceIte,reduceCtorEq,h2,h3,h15,h16,hlt',hx,hlk,zBX,hrl,hsl,List.length_drop,hn,hlv]
  refine GQ.step (Ghost.absorb 3 i 1) ?_
  simp +decide only[go_sem,nT,nA,nS,nM,nB,reduceIte,reduceCtorEq,hrl,hsl,zB1,zB0]
  refine GQ.step (Ghost.absorb 3 i 3) ?_
  simp +decide only[go_sem,nT,nA,nS,nM,nB,reduceIte,reduceCtorEq,hrl,hsl,zB1,zB0]
  refine GQ.step (Ghost.trunc [2,3,15,16] 5 (by omega) ?_ ?_) (GQ.done ⟨s.ths.length-(i+1),by omega,i+1,rfl,by omega,?_,?_,?_,?_,?_⟩)
  ·simp +decide only[go_sem,nB,reduceIte,h2,h3,h15]
  ·simp +decide only[go_sem,nB,reduceIte,List.set_cons_succ,List.set_cons_zero,zBg]
  iterate 3 simp +decide only[go_sem,nB,reduceIte,h2,h3,h15]
  ·simp +decide only[go_sem,nB,reduceIte];rw[w64 (by omega) (by omega)];rfl
  ·have e:zX (s.ths.take i)++zBA x::thds (s.ths.drop (i+1))=zX (s.ths.take (i+1))++thds (s.ths.drop (i+1)):=by
    rw[htk,←zDG];simp
   simp +decide only[go_sem,nT,nA,nS,nM,nB,reduceIte,reduceCtorEq,hsl]
   rw[←e]
   rfl
 ·have hlt' : ((i:Int)<(s.ths.length:Int))=False:=by rw[zR];simp[hlt]
  have e:i=s.ths.length:=by omega
  have htk:s.ths.take i=s.ths:=by rw[e,List.take_length]
  have hdr:s.ths.drop i=[]:=by rw[e,List.drop_length]
  simp +decide only[go_sem,nT,nA,nS,nM,nB,reduceIte,reduceCtorEq,h2,h3,h15,h16,hlt',htk,hdr]
set_option maxHeartbeats 4000000 in
theorem zJd (s:Sta) (hm:s.mem.length≤100000) (ht:s.ths.length≤1000) (hr:∀t∈s.ths,t.regs.length≤100000∧t.buf.length≤100000):HFn Tryz.prog 126 [staH s] (staO s):=by
 refine zV (fn:=Tryz.f126) 41 [.cell 2 79] (by kernel_rfl) rfl rfl (by kernel_rfl) (HW.run 400 (by kernel_rfl) ?_)
 simp +decide only[go_sem,nT,nA,nS,nM,nB,reduceIte,reduceCtorEq]
 refine HW.float 80 8 (2,0) [2,5] 7 _ follows (by kernel_rfl) (by decide) rfl (by kernel_rfl) ?_
 simp +decide only[go_sem,nT,nA,nS,nM,nB,reduceIte,reduceCtorEq]
 refine zBc (zAj s.mem (by omega)) rfl rfl ?_
 simp +decide only[go_sem,nT,nA,nS,nM,nB,reduceIte,reduceCtorEq]
 refine zBc (zLW s.ths (by omega)) rfl rfl ?_
 simp +decide only[go_sem,nT,nA,nS,nM,nB,reduceIte,reduceCtorEq]
 refine HW.loopG (fun k T H=>∃i:Nat,k=s.ths.length-i∧i≤s.ths.length∧T 2=.pt 1 1 0 0∧T 3=.pt 4 1 0 0∧T 15=.v (.int .i64 s.ths.length)∧T 16=.v (.int .i64 i)∧
  H=[some ⟨79,2,[[.sl (ints s.mem),.sl (thds s.ths)]]⟩,some ⟨79,2,[[.v (.slice none 0 0),.v (.slice none 0 0)]]⟩,some ⟨3,1,ints s.mem⟩,some ⟨106,4,zX (s.ths.take i)++thds (s.ths.drop i)⟩,some ⟨79,2,[[.hd 2 0 s.mem.length,.hd 3 0 s.ths.length]]⟩]) s.ths.length
  ⟨_,_,Ghost.refl,0,rfl,by omega,rfl,rfl,rfl,rfl,?_⟩ ?_
 ·rfl
 rintro k T H ⟨i,rfl,hi,h2,h3,h15,h16,rfl⟩
 refine HW.run 200 (by kernel_rfl) ?_
 by_cases hlt:i<s.ths.length
 ·have hlt' : ((i:Int)<(s.ths.length:Int))=True:=by rw[zR];simp[hlt]
  have hx:s.ths[i]?=some s.ths[i]:=List.getElem?_eq_getElem hlt
  obtain ⟨r1,r2⟩:=hr _ (List.getElem_mem hlt)
  have htk:s.ths.take (i+1)=s.ths.take i++[s.ths[i]]:=by rw[List.take_add_one,hx];rfl
  have hdr:s.ths.drop i=s.ths[i]::s.ths.drop (i+1):=List.drop_eq_getElem_cons hlt
  generalize s.ths[i]=x at hx r1 r2 htk hdr
  have hlk:(s.ths.take i).length=i:=by rw[List.length_take];omega
  have hlen:(zX (s.ths.take i)).length=i:=by simp[zX];omega
  rw[hdr]
  have hrl:∀X,(zX (s.ths.take i)++X::thds (s.ths.drop (i+1)))[i]?=some X:=fun X=>zMT hlen
  have hsl:∀X Y,(zX (s.ths.take i)++X::thds (s.ths.drop (i+1))).set i Y=zX (s.ths.take i)++Y::thds (s.ths.drop (i+1)):=fun X Y=>zMM hlen
  have hn:i+(s.ths.length-(i+1)+1)=s.ths.length:=by omega
  have hlv:(s.ths.length == s.ths.length && s.ths.length != 0)=true:=by
   rw[Bool.and_eq_true]
   exact ⟨beq_self_eq_true _,by simp only[bne_iff_ne];omega⟩
  simp +decide only[go_sem,nT,nA,nS,nM,nB,reduceIte,reduceCtorEq,h2,h3,h15,h16,hlt',hx,hlk,zBX,hrl,hsl,List.length_drop,hn,hlv]
  repeat (with_reducible refine And.intro ?_ ?_;·(with_reducible and_intros) <;> omega)
  refine HW.mixed 80 15 (3,5) [6,11,14,2014,1003,1004,1005,1008,1009,1010,1012,1013] follows (by kernel_rfl) (by decide) ?_
  simp +decide only[go_sem,nT,nA,nS,nM,nB,reduceIte,reduceCtorEq,h2,h3,h15,h16,hlt',hx,hlk,zBX,hrl,hsl,List.length_drop,hn,hlv]
  refine zBc (zAj x.regs (by omega)) rfl rfl ?_
  simp +decide only[go_sem,nT,nA,nS,nM,nB,reduceIte,reduceCtorEq,h2,h3,h15,h16,hlt',hx,hlk,zBX,hrl,hsl,List.length_drop,hn,hlv]
  refine zBc (zCX x.buf (by omega)) rfl rfl ?_
  simp +decide only[go_sem,nT,nA,nS,nM,nB,reduceIte,reduceCtorEq,h2,h3,h15,h16,hlt',hx,hlk,zBX,hrl,hsl,List.length_drop,hn,hlv]
  refine GQ.step (Ghost.absorb 3 i 1) ?_
  simp +decide only[go_sem,nT,nA,nS,nM,nB,reduceIte,reduceCtorEq,hrl,hsl,zB1,zB0]
  refine GQ.step (Ghost.absorb 3 i 3) ?_
  simp +decide only[go_sem,nT,nA,nS,nM,nB,reduceIte,reduceCtorEq,hrl,hsl,zB1,zB0]
  refine GQ.step (Ghost.trunc [2,3,15,16] 5 (by omega) ?_ ?_) (GQ.done ⟨s.ths.length-(i+1),by omega,i+1,rfl,by omega,?_,?_,?_,?_,?_⟩)
  ·simp +decide only[go_sem,nB,reduceIte,h2,h3,h15]
  ·simp +decide only[go_sem,nB,reduceIte,List.set_cons_succ,List.set_cons_zero,zBg]
  iterate 3 simp +decide only[go_sem,nB,reduceIte,h2,h3,h15]
  ·simp +decide only[go_sem,nB,reduceIte];rw[w64 (by omega) (by omega)];rfl
  ·have e:zX (s.ths.take i)++zBA x::thds (s.ths.drop (i+1))=zX (s.ths.take (i+1))++thds (s.ths.drop (i+1)):=by
    rw[htk,←zDG];simp
   simp +decide only[go_sem,nT,nA,nS,nM,nB,reduceIte,reduceCtorEq,hsl]
   rw[←e]
   rfl
 ·have hlt' : ((i:Int)<(s.ths.length:Int))=False:=by rw[zR];simp[hlt]
  have e:i=s.ths.length:=by omega
  have htk:s.ths.take i=s.ths:=by rw[e,List.take_length]
  have hdr:s.ths.drop i=[]:=by rw[e,List.drop_length]
  simp +decide only[go_sem,nT,nA,nS,nM,nB,reduceIte,reduceCtorEq,h2,h3,h15,h16,hlt',htk,hdr]
end Go.Proofs.YtoknohandclcbaaGreat
namespace Go.Proofs.YtoknohandclcbaaGreat
open Go.RowKit
set_option maxRecDepth 8000
abbrev stpH (x:Stp):HV:=.ag [.v (.int .i64 x.op),.v (.int .i64 x.reg),.v (.int .i64 x.loc),.v (.int .i64 x.n),.v (.int .i64 x.to)]
def stp0:Stp:=⟨0,0,0,0,0⟩
theorem zWW (x:Stp) (eq:Bool):HFn Tryz.prog 130 [stpH x,.v (.bool eq)] (.v (.bool (zP x eq))):=by
 refine zB (fn:=Tryz.f130) 25 [4] (by kernel_rfl) rfl (by kernel_rfl) (HW.run 400 (by kernel_rfl) ?_)
 unfold zP
 by_cases h8:x.op=8
 ·simp +decide only[go_sem,nT,nA,nS,nM,nB,reduceIte,reduceCtorEq,h8]
 by_cases h9:x.op=9
 ·cases eq <;> simp +decide only[go_sem,nT,nA,nS,nM,nB,reduceIte,reduceCtorEq,h9] <;> rfl
 by_cases h10:x.op=10
 ·cases eq <;> simp +decide only[go_sem,nT,nA,nS,nM,nB,reduceIte,reduceCtorEq,h10] <;> rfl
 simp +decide only[go_sem,nT,nA,nS,nM,nB,reduceIte,reduceCtorEq,h8,h9,h10]
 exact vb (by simp[h8,h9,h10])
theorem zOb {p:Prg} {s:Sta} {th:Int} {x:Stp} (h:atS p s th=some x):0≤th∧th<s.ths.length∧((p.thr[th.toNat]?).getD [])[(thAt s th).pc.toNat]?=some x:=by
 unfold atS at h
 split at h
 ·rename_i hc;exact ⟨hc.1,hc.2,h⟩
 ·cases h
set_option maxHeartbeats 1000000 in
theorem z2n (p:Prg) (s:Sta) (th:Int) (hp:RightP p) (hs:RightS p s):HFn Tryz.prog 98 [prgH p,staH s,.v (.int .i64 th)] (.tu [stpH ((atS p s th).getD stp0),.v (.bool (atS p s th).isSome)]):=by
 refine zV (fn:=Tryz.f98) 46 [.cell 6 87,.tmp 7] (by kernel_rfl) rfl rfl (by kernel_rfl) (HW.run 400 (by kernel_rfl) ?_)
 have hlen:=hs.ths
 by_cases c1:0≤th
 case neg =>
  have c1' : (th<0)=True:=by simp only[eq_iff_iff,iff_true];omega
  have e:atS p s th=none:=if_neg (fun h=>c1 h.1)
  simp +decide only[go_sem,nT,nA,nS,nM,nB,reduceIte,reduceCtorEq,e]
  refine HW.quiet 80 follows (by kernel_rfl) ?_
  simp +decide only[go_sem,nT,nA,nS,nM,nB,reduceIte,reduceCtorEq,c1']
  rfl
 have c1' : (th<0)=False:=by simp only[eq_iff_iff,iff_false];omega
 by_cases c2:th<s.ths.length
 case neg =>
  have c2' : ((s.ths.length:Int)≤th)=True:=by simp only[eq_iff_iff,iff_true];omega
  have e:atS p s th=none:=if_neg (fun h=>c2 h.2)
  simp +decide only[go_sem,nT,nA,nS,nM,nB,reduceIte,reduceCtorEq,e]
  refine HW.quiet 80 follows (by kernel_rfl) ?_
  simp +decide only[go_sem,nT,nA,nS,nM,nB,reduceIte,reduceCtorEq,c1',c2']
  rfl
 have c2' : ((s.ths.length:Int)≤th)=False:=by simp only[eq_iff_iff,iff_false];omega
 obtain ⟨t,rfl⟩:∃t:Nat,th=t:=⟨th.toNat,by omega⟩
 have ht:t<s.ths.length:=by omega
 have hx:s.ths[t]?=some s.ths[t]:=List.getElem?_eq_getElem ht
 have hy:p.thr[t]?=some (p.thr[t]'(by omega)):=List.getElem?_eq_getElem (by omega)
 obtain ⟨q1,q2,q3⟩:=hs.t t _ _ hy hx
 have e0:atS p s (t:Int)=(p.thr[t]'(by omega))[(s.ths[t]).pc.toNat]?:=by
  unfold atS thAt
  rw[if_pos ⟨c1,c2⟩]
  simp only[Int.toNat_natCast,hx,hy,Option.getD_some]
 generalize s.ths[t]=x at hx q1 q2 q3 e0
 generalize p.thr[t]'(by omega)=l at hy q1 e0
 obtain ⟨k,hk⟩:∃k:Nat,x.pc=k:=⟨x.pc.toNat,by omega⟩
 have hc2:((t:Int)<(s.ths.length:Int))=True:=by rw[zR];simp[ht]
 have hc3:((t:Int)<(p.thr.length:Int))=True:=by rw[zR,←hlen];simp[ht]
 rw[hk,Int.toNat_natCast] at e0
 by_cases c3:k<l.length
 case neg =>
  have c3' : ((l.length:Int)≤(k:Int))=True:=by simp only[eq_iff_iff,iff_true];omega
  rw[List.getElem?_eq_none (by omega)] at e0
  simp +decide only[go_sem,nT,nA,nS,nM,nB,reduceIte,reduceCtorEq,e0]
  refine HW.quiet 80 follows (by kernel_rfl) ?_
  simp +decide only[go_sem,nT,nA,nS,nM,nB,reduceIte,reduceCtorEq,c1',c2',hx,hy,hc2,hc3,hk,c3']
  rfl
 have c3' : ((l.length:Int)≤(k:Int))=False:=by simp only[eq_iff_iff,iff_false];omega
 have hc4:((k:Int)<(l.length:Int))=True:=by rw[zR];simp[c3]
 have hz:l[k]?=some l[k]:=List.getElem?_eq_getElem c3
 rw[hz] at e0
 simp +decide only[go_sem,nT,nA,nS,nM,nB,reduceIte,reduceCtorEq,e0]
 refine HW.quiet 80 follows (by kernel_rfl) ?_
 simp +decide only[go_sem,nT,nA,nS,nM,nB,reduceIte,reduceCtorEq,c1',c2',hx,hy,hc2,hc3,hk,c3']
 refine HW.mixed 80 13 (3,0) [] follows (by kernel_rfl) (by decide) ?_
 simp +decide only[go_sem,nT,nA,nS,nM,nB,reduceIte,reduceCtorEq,c1',c2',hx,hy,hc2,hc3,hk,c3',hc4,hz]
theorem zEa {p:Prg} {s:Sta} {th:Int} (h:atS p s th=none):zCr p s th=(s,false):=by unfold zCr;rw[h]
theorem zFk {p:Prg} {s:Sta} {th:Int} {x:Stp} (h:atS p s th=some x):zCr p s th=(zA6 s th (zG x s.mem (thAt s th)).1 (zG x s.mem (thAt s th)).2,true):=by unfold zCr;rw[h]
set_option maxHeartbeats 4000000 in
theorem zNz (p:Prg) (s:Sta) (th:Int) (hp:RightP p) (hs:RightS p s) (hb:∀t∈s.ths,t.buf.length≤100000):HFn Tryz.prog 99 [prgH p,staH s,.v (.int .i64 th)] (.tu [staO (zCr p s th).1,.v (.bool (zCr p s th).2)]):=by
 refine zV (fn:=Tryz.f99) 130 [.cell 6 79,.tmp 7] (by kernel_rfl) rfl rfl (by kernel_rfl) (HW.weaken (Q':=fun e=>GQ _ _ (endC _ _ _ _ e)) (HW.run 400 (by kernel_rfl) ?_) (fun _ _ _ h=>h))
 have hml:s.mem.length≤100000:=by have:=hs.mem;have:=hp.init;omega
 have htl:s.ths.length≤1000:=by have:=hs.ths;have:=hp.thr;omega
 have hrl:∀t∈s.ths,t.regs.length≤100000∧t.buf.length≤100000:=fun t ht=>by
  obtain ⟨i,hi⟩:=List.getElem?_of_mem ht
  have hlt:=(List.getElem?_eq_some_iff.1 hi).1
  have:=(hs.t i _ t (List.getElem?_eq_getElem (show i<p.thr.length by rw[←hs.ths];exact hlt)) hi).regs
  exact ⟨by omega,hb t ht⟩
 simp +decide only[go_sem,nT,nA,nS,nM,nB,reduceIte,reduceCtorEq]
 refine zJ 3 (zYo s hml htl hrl) (by simp only[go_sem]) (by simp only[go_sem]) ?_
 simp +decide only[go_sem,nT,nA,nS,nM,nB,reduceIte,reduceCtorEq]
 refine zJ 3 (z2n p s th hp hs) (by simp only[go_sem]) rfl ?_
 cases ha:atS p s th with
 | none =>
  rw[zEa ha]
  simp +decide only[go_sem,nT,nA,nS,nM,nB,reduceIte,reduceCtorEq,ha]
  refine GQ.done ?_
  simp +decide only[go_sem,nT,nA,nS,nM,nB,reduceIte,reduceCtorEq]
 | some x =>
  rw[zFk ha]
  obtain ⟨c1,c2,c3⟩:=zOb ha
  obtain ⟨t,rfl⟩:∃t:Nat,th=t:=⟨th.toNat,by omega⟩
  have ht:t<s.ths.length:=by omega
  have hx:s.ths[t]?=some s.ths[t]:=List.getElem?_eq_getElem ht
  have htA:thAt s (t:Int)=s.ths[t]:=by unfold thAt;rw[Int.toNat_natCast,hx];rfl
  rw[htA] at c3⊢
  generalize s.ths[t]=y at hx c3⊢
  have hc2:((t:Int)<(s.ths.length:Int))=True:=by rw[zR];simp[ht]
  have hst:∀X,((zX s.ths).set t X)[t]?=some X:=zC5 (by rw[zAQ];exact ht)
  have hyp:y∈s.ths:=List.mem_of_getElem? hx
  have hpt:p.thr[t]?=some (p.thr[t]'(by have:=hs.ths;omega)):=List.getElem?_eq_getElem (by have:=hs.ths;omega)
  obtain ⟨q1,q2,q3⟩:=hs.t t _ y hpt hx
  rw[Int.toNat_natCast,hpt,Option.getD_some] at c3
  have hR:=hp.x t _ hpt _ _ c3
  generalize p.thr[t]'(by have:=hs.ths;omega)=l at hpt q1 c3 hR
  have hll:l.length≤80:=hp.len l (List.mem_of_getElem? hpt)
  have hw:IntKind.i64.wrap (y.pc+1)=y.pc+1:=w64 (by omega) (by omega)
  have r1:(0≤x.reg)=True:=by simp only[eq_iff_iff,iff_true];exact hR.reg.1
  have r2:(x.reg<(y.regs.length:Int))=True:=by have:=hR.reg.2.1;simp only[eq_iff_iff,iff_true];omega
  have r3:y.regs[x.reg.toNat]?=some (getI y.regs x.reg):=by
   have:x.reg.toNat<y.regs.length:=by have:=hR.reg;omega
   unfold getI;rw[List.getElem?_eq_getElem this];rfl
  have hin:=hp.init
  have hmm:=hs.mem
  simp +decide only[go_sem,nT,nA,nS,nM,nB,reduceIte,reduceCtorEq,ha,hx,hc2,hst,hw]
  refine zJ 3 (zWW x y.eq) (by simp only[go_sem]) rfl ?_
  have hop:x.op=1∨x.op=2∨x.op=3∨x.op=4∨x.op=5∨x.op=6∨x.op=7∨x.op=8∨x.op=9∨x.op=10:=by have:=hR.op;omega
  have locs:hasL x.op=true→(0≤x.loc)=True∧(x.loc<(s.mem.length:Int))=True∧s.mem[x.loc.toNat]?=some (getI s.mem x.loc):=fun h=>by
   obtain ⟨k1,k2⟩:=hR.loc.1 h
   refine ⟨by simp[k1],by simp only[eq_iff_iff,iff_true];omega,?_⟩
   have:x.loc.toNat<s.mem.length:=by omega
   unfold getI;rw[List.getElem?_eq_getElem this];rfl
  rcases hop with h | h | h | h | h | h | h | h | h | h
  ·have hj:zP x y.eq=false:=by simp[zP,h]
   have e:zG x s.mem y=(s.mem,{ y with pc:=y.pc+1,regs:=setI y.regs x.reg x.n }):=by simp[zG,h,hj]
   simp +decide only[go_sem,nT,nA,nS,nM,nB,reduceIte,reduceCtorEq,ha,hx,hc2,hst,hw,h,hj,r1,r2,r3]
   refine GQ.step (Ghost.absorb 4 t 1) ?_
   simp +decide only[go_sem,nT,nA,nS,nM,nB,reduceIte,reduceCtorEq,hst]
   refine GQ.step (Ghost.absorb 4 t 3) ?_
   simp +decide only[go_sem,nT,nA,nS,nM,nB,reduceIte,reduceCtorEq,hst]
   refine GQ.done ?_
   simp +decide only[go_sem,nT,nA,nS,nM,nB,reduceIte,reduceCtorEq,hst]
   rw[e];rfl
  ·have hj:zP x y.eq=false:=by simp[zP,h]
   have e:zG x s.mem y=(s.mem,{ y with pc:=y.pc+1,regs:=setI y.regs x.reg (getI s.mem x.loc) }):=by simp[zG,h,hj]
   obtain ⟨m1,m2,m3⟩:=locs (by rw[h];rfl)
   simp +decide only[go_sem,nT,nA,nS,nM,nB,reduceIte,reduceCtorEq,ha,hx,hc2,hst,hw,h,hj,r1,r2,r3,m1,m2,m3]
   refine HW.mixed 80 11 (10,0) [] follows (by kernel_rfl) (by decide) ?_
   simp +decide only[go_sem,nT,nA,nS,nM,nB,reduceIte,reduceCtorEq,ha,hx,hc2,hst,hw,h,hj,r1,r2,r3,m1,m2,m3]
   refine GQ.step (Ghost.absorb 4 t 1) ?_
   simp +decide only[go_sem,nT,nA,nS,nM,nB,reduceIte,reduceCtorEq,hst]
   refine GQ.step (Ghost.absorb 4 t 3) ?_
   simp +decide only[go_sem,nT,nA,nS,nM,nB,reduceIte,reduceCtorEq,hst]
   refine GQ.done ?_
   simp +decide only[go_sem,nT,nA,nS,nM,nB,reduceIte,reduceCtorEq,hst]
   rw[e];rfl
  ·have hj:zP x y.eq=false:=by simp[zP,h]
   have e:zG x s.mem y=(setI s.mem x.loc (getI y.regs x.reg),{ y with pc:=y.pc+1 }):=by simp[zG,h,hj]
   obtain ⟨m1,m2,m3⟩:=locs (by rw[h];rfl)
   simp +decide only[go_sem,nT,nA,nS,nM,nB,reduceIte,reduceCtorEq,ha,hx,hc2,hst,hw,h,hj,r1,r2,r3,m1,m2,m3]
   refine HW.mixed 80 11 (10,0) [] follows (by kernel_rfl) (by decide) ?_
   simp +decide only[go_sem,nT,nA,nS,nM,nB,reduceIte,reduceCtorEq,ha,hx,hc2,hst,hw,h,hj,r1,r2,r3,m1,m2,m3]
   refine GQ.step (Ghost.absorb 4 t 1) ?_
   simp +decide only[go_sem,nT,nA,nS,nM,nB,reduceIte,reduceCtorEq,hst]
   refine GQ.step (Ghost.absorb 4 t 3) ?_
   simp +decide only[go_sem,nT,nA,nS,nM,nB,reduceIte,reduceCtorEq,hst]
   refine GQ.done ?_
   simp +decide only[go_sem,nT,nA,nS,nM,nB,reduceIte,reduceCtorEq,hst]
   rw[e];rfl
  ·have hj:zP x y.eq=false:=by simp[zP,h]
   have e:zG x s.mem y=(setI s.mem x.loc x.n,{ y with pc:=y.pc+1 }):=by simp[zG,h,hj]
   obtain ⟨m1,m2,m3⟩:=locs (by rw[h];rfl)
   simp +decide only[go_sem,nT,nA,nS,nM,nB,reduceIte,reduceCtorEq,ha,hx,hc2,hst,hw,h,hj,r1,r2,r3,m1,m2,m3]
   refine GQ.step (Ghost.absorb 4 t 1) ?_
   simp +decide only[go_sem,nT,nA,nS,nM,nB,reduceIte,reduceCtorEq,hst]
   refine GQ.step (Ghost.absorb 4 t 3) ?_
   simp +decide only[go_sem,nT,nA,nS,nM,nB,reduceIte,reduceCtorEq,hst]
   refine GQ.done ?_
   simp +decide only[go_sem,nT,nA,nS,nM,nB,reduceIte,reduceCtorEq,hst]
   rw[e];rfl
  ·have hj:zP x y.eq=false:=by simp[zP,h]
   have e:zG x s.mem y=(setI s.mem x.loc (getI y.regs x.reg),{ y with pc:=y.pc+1,regs:=setI y.regs x.reg (getI s.mem x.loc) }):=by simp[zG,h,hj]
   obtain ⟨m1,m2,m3⟩:=locs (by rw[h];rfl)
   simp +decide only[go_sem,nT,nA,nS,nM,nB,reduceIte,reduceCtorEq,ha,hx,hc2,hst,hw,h,hj,r1,r2,r3,m1,m2,m3]
   refine HW.mixed 80 11 (10,0) [] follows (by kernel_rfl) (by decide) ?_
   simp +decide only[go_sem,nT,nA,nS,nM,nB,reduceIte,reduceCtorEq,ha,hx,hc2,hst,hw,h,hj,r1,r2,r3,m1,m2,m3]
   refine GQ.step (Ghost.absorb 4 t 1) ?_
   simp +decide only[go_sem,nT,nA,nS,nM,nB,reduceIte,reduceCtorEq,hst]
   refine GQ.step (Ghost.absorb 4 t 3) ?_
   simp +decide only[go_sem,nT,nA,nS,nM,nB,reduceIte,reduceCtorEq,hst]
   refine GQ.done ?_
   simp +decide only[go_sem,nT,nA,nS,nM,nB,reduceIte,reduceCtorEq,hst]
   rw[e];rfl
  ·have hj:zP x y.eq=false:=by simp[zP,h]
   have e:zG x s.mem y=(s.mem,{ y with pc:=y.pc+1 }):=by simp[zG,h,hj]
   simp +decide only[go_sem,nT,nA,nS,nM,nB,reduceIte,reduceCtorEq,ha,hx,hc2,hst,hw,h,hj,r1,r2,r3]
   refine GQ.step (Ghost.absorb 4 t 1) ?_
   simp +decide only[go_sem,nT,nA,nS,nM,nB,reduceIte,reduceCtorEq,hst]
   refine GQ.step (Ghost.absorb 4 t 3) ?_
   simp +decide only[go_sem,nT,nA,nS,nM,nB,reduceIte,reduceCtorEq,hst]
   refine GQ.done ?_
   simp +decide only[go_sem,nT,nA,nS,nM,nB,reduceIte,reduceCtorEq,hst]
   rw[e];rfl
  ·have hj:zP x y.eq=false:=by simp[zP,h]
   have e:zG x s.mem y=(s.mem,{ y with pc:=y.pc+1,eq:=decide (getI y.regs x.reg=x.n) }):=by simp[zG,h,hj]
   simp +decide only[go_sem,nT,nA,nS,nM,nB,reduceIte,reduceCtorEq,ha,hx,hc2,hst,hw,h,hj,r1,r2,r3]
   refine HW.mixed 80 10 (10,0) [] follows (by kernel_rfl) (by decide) ?_
   simp +decide only[go_sem,nT,nA,nS,nM,nB,reduceIte,reduceCtorEq,ha,hx,hc2,hst,hw,h,hj,r1,r2,r3]
   refine GQ.step (Ghost.absorb 4 t 1) ?_
   simp +decide only[go_sem,nT,nA,nS,nM,nB,reduceIte,reduceCtorEq,hst]
   refine GQ.step (Ghost.absorb 4 t 3) ?_
   simp +decide only[go_sem,nT,nA,nS,nM,nB,reduceIte,reduceCtorEq,hst]
   refine GQ.done ?_
   simp +decide only[go_sem,nT,nA,nS,nM,nB,reduceIte,reduceCtorEq,hst]
   rw[e];rfl
  ·cases hj:zP x y.eq with
   | false =>
    have e:zG x s.mem y=(s.mem,{ y with pc:=y.pc+1 }):=by simp[zG,h,hj]
    simp +decide only[go_sem,nT,nA,nS,nM,nB,reduceIte,reduceCtorEq,ha,hx,hc2,hst,hw,h,hj,r1,r2,r3]
    refine GQ.step (Ghost.absorb 4 t 1) ?_
    simp +decide only[go_sem,nT,nA,nS,nM,nB,reduceIte,reduceCtorEq,hst]
    refine GQ.step (Ghost.absorb 4 t 3) ?_
    simp +decide only[go_sem,nT,nA,nS,nM,nB,reduceIte,reduceCtorEq,hst]
    refine GQ.done ?_
    simp +decide only[go_sem,nT,nA,nS,nM,nB,reduceIte,reduceCtorEq,hst]
    rw[e];rfl
   | true =>
    have e:zG x s.mem y=(s.mem,{ y with pc:=x.to }):=by simp[zG,h,hj]
    simp +decide only[go_sem,nT,nA,nS,nM,nB,reduceIte,reduceCtorEq,ha,hx,hc2,hst,hw,h,hj,r1,r2,r3]
    refine GQ.step (Ghost.absorb 4 t 1) ?_
    simp +decide only[go_sem,nT,nA,nS,nM,nB,reduceIte,reduceCtorEq,hst]
    refine GQ.step (Ghost.absorb 4 t 3) ?_
    simp +decide only[go_sem,nT,nA,nS,nM,nB,reduceIte,reduceCtorEq,hst]
    refine GQ.done ?_
    simp +decide only[go_sem,nT,nA,nS,nM,nB,reduceIte,reduceCtorEq,hst]
    rw[e];rfl
  ·cases hj:zP x y.eq with
   | false =>
    have e:zG x s.mem y=(s.mem,{ y with pc:=y.pc+1 }):=by simp[zG,h,hj]
    simp +decide only[go_sem,nT,nA,nS,nM,nB,reduceIte,reduceCtorEq,ha,hx,hc2,hst,hw,h,hj,r1,r2,r3]
    refine GQ.step (Ghost.absorb 4 t 1) ?_
    simp +decide only[go_sem,nT,nA,nS,nM,nB,reduceIte,reduceCtorEq,hst]
    refine GQ.step (Ghost.absorb 4 t 3) ?_
    simp +decide only[go_sem,nT,nA,nS,nM,nB,reduceIte,reduceCtorEq,hst]
    refine GQ.done ?_
    simp +decide only[go_sem,nT,nA,nS,nM,nB,reduceIte,reduceCtorEq,hst]
    rw[e];rfl
   | true =>
    have e:zG x s.mem y=(s.mem,{ y with pc:=x.to }):=by simp[zG,h,hj]
    simp +decide only[go_sem,nT,nA,nS,nM,nB,reduceIte,reduceCtorEq,ha,hx,hc2,hst,hw,h,hj,r1,r2,r3]
    refine GQ.step (Ghost.absorb 4 t 1) ?_
    simp +decide only[go_sem,nT,nA,nS,nM,nB,reduceIte,reduceCtorEq,hst]
    refine GQ.step (Ghost.absorb 4 t 3) ?_
    simp +decide only[go_sem,nT,nA,nS,nM,nB,reduceIte,reduceCtorEq,hst]
    refine GQ.done ?_
    simp +decide only[go_sem,nT,nA,nS,nM,nB,reduceIte,reduceCtorEq,hst]
    rw[e];rfl
  ·cases hj:zP x y.eq with
   | false =>
    have e:zG x s.mem y=(s.mem,{ y with pc:=y.pc+1 }):=by simp[zG,h,hj]
    simp +decide only[go_sem,nT,nA,nS,nM,nB,reduceIte,reduceCtorEq,ha,hx,hc2,hst,hw,h,hj,r1,r2,r3]
    refine GQ.step (Ghost.absorb 4 t 1) ?_
    simp +decide only[go_sem,nT,nA,nS,nM,nB,reduceIte,reduceCtorEq,hst]
    refine GQ.step (Ghost.absorb 4 t 3) ?_
    simp +decide only[go_sem,nT,nA,nS,nM,nB,reduceIte,reduceCtorEq,hst]
    refine GQ.done ?_
    simp +decide only[go_sem,nT,nA,nS,nM,nB,reduceIte,reduceCtorEq,hst]
    rw[e];rfl
   | true =>
    have e:zG x s.mem y=(s.mem,{ y with pc:=x.to }):=by simp[zG,h,hj]
    simp +decide only[go_sem,nT,nA,nS,nM,nB,reduceIte,reduceCtorEq,ha,hx,hc2,hst,hw,h,hj,r1,r2,r3]
    refine GQ.step (Ghost.absorb 4 t 1) ?_
    simp +decide only[go_sem,nT,nA,nS,nM,nB,reduceIte,reduceCtorEq,hst]
    refine GQ.step (Ghost.absorb 4 t 3) ?_
    simp +decide only[go_sem,nT,nA,nS,nM,nB,reduceIte,reduceCtorEq,hst]
    refine GQ.done ?_
    simp +decide only[go_sem,nT,nA,nS,nM,nB,reduceIte,reduceCtorEq,hst]
    rw[e];rfl
end Go.Proofs.YtoknohandclcbaaGreat
namespace Go.Proofs.YtoknohandclcbaaGreat
open Go.RowKit
section
variable {N L:Nat} {T:Nat→HV} {H:Heap}
theorem Ghost.freeze (i n j q o:Nat) {ob:HObj} {row:List HV} (hi:T i=.pt n j q o) (ho:H[n]?=some (some ob)) (hj:j=ob.rows.length) (hq:ob.rows[q]?=some row):Ghost N L T H (upd T i (.fp (fzoR ob.rows) q o)) (H.set n none):=fun B Z G FP ds a w hL hs=>by
 have hk:=hs.inv.freeze n
 have hG:GLe G (G.set n none):=GLe.kill n
 have hE:Evo Z FP w (Zid Z FP n) (fun j=>if j=n then [] else FP j) w:=zDQ n
 have hs':=hs.evo hk hG hE
 refine ⟨_,_,_,⟨hs'.inv,hs'.size,fun c hc=>?_,hs'.defers,hs'.dsn,hs'.dsat⟩,GLt.of hL hG,hE⟩
 unfold upd
 split
 ·rename_i e
  subst e
  have h0:=hs.tmps c hc
  rw[hi] at h0
  obtain ⟨g,b,cells,f,hg,hOB,hb,e2,e3,e4,e5,e6,e7,hy,hrl⟩:=zPd hs.inv ho hj hq h0
  rw[hy]
  simp only[RV]
  have hrow:zGF (fzoR ob.rows)=ob.sz:=by
   cases hr:ob.rows with
   | nil=>rw[hr] at hq;cases hq
   | cons r0 rs =>
    have:=hOB.len r0 (by rw[hr];simp)
    simp only[fzoR,zGF,List.headD_cons]
    rw[zA4];exact this
  refine ⟨trivial,b,0,by rw[hrow,Nat.zero_add],.inr (by rw[e2];simp),?_,?_⟩
  ·refine zCE (sz:=ob.sz) fun r hr=>?_
   rw[zCB] at hr
   obtain ⟨r',hr',rfl⟩:=List.mem_map.1 hr
   rw[zA4];exact hOB.len r' hr'
  ·exact zCT ob.rows G b 0 f ⟨fun b hb=>.inl hb,fun b hb=>.inr (by rw[e2];simp[hb])⟩ e7
 ·exact hs'.tmps c hc
end
end Go.Proofs.YtoknohandclcbaaGreat
namespace Go.Proofs.YtoknohandclcbaaGreat
open Go.RowKit
set_option maxRecDepth 8000
theorem zAT {L:Nat} {H:Heap}:zAp L (zDX []) H=(.tu [],H):=rfl
theorem zBQ {L:Nat} {Q:HV→Heap→Prop} {x:HV} {H:Heap}:endP L Q (x,H)=(nmH L H=true∧Q x (H.take L)):=rfl
abbrev z2Z (p:Prg) (s:Sta) (mem:List Int) (ths:List (List HV)) (t:Nat):Heap :=
  [some ⟨25,2,[[.sl (ints p.init),.sl (thrs p.thr)]]⟩,some ⟨79,2,[[.sl (ints s.mem),.sl (thds s.ths)]]⟩,
   some ⟨79,2,[[.v (.slice none 0 0),.v (.slice none 0 0)]]⟩,some ⟨3,1,ints mem⟩,some ⟨106,4,ths⟩,
   some ⟨79,2,[[.hd 3 0 s.mem.length,.hd 4 0 s.ths.length]]⟩,some ⟨230,2,[[.pt 4 s.ths.length t 0,.hd 3 0 s.mem.length]]⟩]
set_option maxHeartbeats 8000000 in
theorem yA6 (p:Prg) (s:Sta) (x:Stp) (y:Thd) (t k many:Nat) (ht:t<s.ths.length) (hx:s.ths[t]?=some y) (hR:RightX p x k many) (hmany:many≤80) (q2:y.regs.length=4) (hmm:s.mem.length=p.init.length) (hin:p.init.length≤4) (hk:0≤y.pc∧y.pc≤1000) :
  HCalls Tryz.prog 191 (z2Z p s s.mem (zX s.ths) t) [.pt 6 1 0 0,.ag [.v (.int .i64 x.op),.v (.int .i64 x.reg),.v (.int .i64 x.loc),.v (.int .i64 x.n),.v (.int .i64 x.to)]]
   (fun r H'=>r=.tu []∧H'=z2Z p s (zG x s.mem y).1 ((zX s.ths).set t (zBA (zG x s.mem y).2)) t):=by
 refine zV (fn:=Tryz.f191) 173 [] (by kernel_rfl) rfl rfl (by kernel_rfl) (HW.weaken (Q':=fun e=>GQ _ _ (endC _ _ _ _ e)) (HW.run 400 (by kernel_rfl) ?_) (fun _ _ _ h=>h))
 have hst:∀X,((zX s.ths).set t X)[t]?=some X:=zC5 (by rw[zAQ];exact ht)
 have hw:IntKind.i64.wrap (y.pc+1)=y.pc+1:=w64 (by omega) (by omega)
 have r1:(0≤x.reg)=True:=by simp only[eq_iff_iff,iff_true];exact hR.reg.1
 have r2:(x.reg<(y.regs.length:Int))=True:=by have:=hR.reg.2.1;simp only[eq_iff_iff,iff_true];omega
 have r3:y.regs[x.reg.toNat]?=some (getI y.regs x.reg):=by
  have:x.reg.toNat<y.regs.length:=by have:=hR.reg;omega
  unfold getI;rw[List.getElem?_eq_getElem this];rfl
 have hlv:(s.ths.length == s.ths.length && s.ths.length != 0)=true:=by
  rw[Bool.and_eq_true]
  exact ⟨beq_self_eq_true _,by simp only[bne_iff_ne];omega⟩
 have hop:x.op=1∨x.op=2∨x.op=3∨x.op=4∨x.op=5∨x.op=6∨x.op=7∨x.op=8∨x.op=9∨x.op=10:=by have:=hR.op;omega
 have locs:hasL x.op=true→(0≤x.loc)=True∧(x.loc<(s.mem.length:Int))=True∧s.mem[x.loc.toNat]?=some (getI s.mem x.loc):=fun h=>by
  obtain ⟨k1,k2⟩:=hR.loc.1 h
  refine ⟨by simp[k1],by simp only[eq_iff_iff,iff_true];omega,?_⟩
  have:x.loc.toNat<s.mem.length:=by omega
  unfold getI;rw[List.getElem?_eq_getElem this];rfl
 rcases hop with h | h | h | h | h | h | h | h | h | h
 ·have hj:zP x y.eq=false:=by simp[zP,h]
  have e:zG x s.mem y=(s.mem,{ y with pc:=y.pc+1,regs:=setI y.regs x.reg x.n }):=by simp[zG,h,hj]
  rw[e]
  simp +decide only[go_sem,nT,nA,nS,nM,nB,reduceIte,reduceCtorEq,hx,h,hw,hlv,hst,r1,r2,r3,List.map_set,List.set_set,setI]
  refine HW.ghost (Ghost.open 4 t 1) ?_
  simp +decide only[go_sem,nT,nA,nS,nM,nB,reduceIte,reduceCtorEq,hx,h,hw,hlv,hst,r1,r2,r3,List.map_set,List.set_set,setI]
  refine HW.mixed 120 11 (9,0) [] follows (by kernel_rfl) (by decide) ?_
  simp +decide only[go_sem,nT,nA,nS,nM,nB,reduceIte,reduceCtorEq,hx,h,hw,hlv,hst,r1,r2,r3,List.map_set,List.set_set,setI]
  refine GQ.step (Ghost.absorb 4 t 1) ?_
  simp +decide only[go_sem,nT,nA,nS,nM,nB,reduceIte,reduceCtorEq,hst,List.set_set,setI]
  refine GQ.done ?_
  simp +decide only[go_sem,nT,nA,nS,nM,nB,reduceIte,reduceCtorEq,hst,List.set_set,setI,zAT,zBQ]
  try exact ⟨rfl,rfl⟩
 ·have hj:zP x y.eq=false:=by simp[zP,h]
  have e:zG x s.mem y=(s.mem,{ y with pc:=y.pc+1,regs:=setI y.regs x.reg (getI s.mem x.loc) }):=by simp[zG,h,hj]
  rw[e]
  obtain ⟨m1,m2,m3⟩:=locs (by rw[h];rfl)
  have hms:∀v,(s.mem.set x.loc.toNat v)[x.loc.toNat]?=some v:=fun v=>by simp[(List.getElem?_eq_some_iff.1 m3).1]
  have hrs:y.regs.set x.reg.toNat (getI y.regs x.reg)=y.regs:=zAP r3
  simp +decide only[go_sem,nT,nA,nS,nM,nB,reduceIte,reduceCtorEq,hx,h,hw,hlv,hst,r1,r2,r3,List.map_set,List.set_set,setI,m1,m2,m3,hms,hrs,List.length_set]
  refine HW.ghost (Ghost.open 4 t 1) ?_
  simp +decide only[go_sem,nT,nA,nS,nM,nB,reduceIte,reduceCtorEq,hx,h,hw,hlv,hst,r1,r2,r3,List.map_set,List.set_set,setI,m1,m2,m3,hms,hrs,List.length_set]
  refine HW.mixed 120 17 (9,0) [] follows (by kernel_rfl) (by decide) ?_
  simp +decide only[go_sem,nT,nA,nS,nM,nB,reduceIte,reduceCtorEq,hx,h,hw,hlv,hst,r1,r2,r3,List.map_set,List.set_set,setI,m1,m2,m3,hms,hrs,List.length_set]
  refine GQ.step (Ghost.absorb 4 t 1) ?_
  simp +decide only[go_sem,nT,nA,nS,nM,nB,reduceIte,reduceCtorEq,hst,List.set_set,setI]
  refine GQ.done ?_
  simp +decide only[go_sem,nT,nA,nS,nM,nB,reduceIte,reduceCtorEq,hst,List.set_set,setI,zAT,zBQ]
  try exact ⟨rfl,rfl⟩
 ·have hj:zP x y.eq=false:=by simp[zP,h]
  have e:zG x s.mem y=(setI s.mem x.loc (getI y.regs x.reg),{ y with pc:=y.pc+1 }):=by simp[zG,h,hj]
  rw[e]
  obtain ⟨m1,m2,m3⟩:=locs (by rw[h];rfl)
  have hms:∀v,(s.mem.set x.loc.toNat v)[x.loc.toNat]?=some v:=fun v=>by simp[(List.getElem?_eq_some_iff.1 m3).1]
  have hrs:y.regs.set x.reg.toNat (getI y.regs x.reg)=y.regs:=zAP r3
  simp +decide only[go_sem,nT,nA,nS,nM,nB,reduceIte,reduceCtorEq,hx,h,hw,hlv,hst,r1,r2,r3,List.map_set,List.set_set,setI,m1,m2,m3,hms,hrs,List.length_set]
  refine HW.ghost (Ghost.open 4 t 1) ?_
  simp +decide only[go_sem,nT,nA,nS,nM,nB,reduceIte,reduceCtorEq,hx,h,hw,hlv,hst,r1,r2,r3,List.map_set,List.set_set,setI,m1,m2,m3,hms,hrs,List.length_set]
  refine HW.mixed 120 17 (9,0) [] follows (by kernel_rfl) (by decide) ?_
  simp +decide only[go_sem,nT,nA,nS,nM,nB,reduceIte,reduceCtorEq,hx,h,hw,hlv,hst,r1,r2,r3,List.map_set,List.set_set,setI,m1,m2,m3,hms,hrs,List.length_set]
  refine HW.mixed 120 17 (9,0) [] follows (by kernel_rfl) (by decide) ?_
  simp +decide only[go_sem,nT,nA,nS,nM,nB,reduceIte,reduceCtorEq,hx,h,hw,hlv,hst,r1,r2,r3,List.map_set,List.set_set,setI,m1,m2,m3,hms,hrs,List.length_set]
  refine GQ.step (Ghost.absorb 4 t 1) ?_
  simp +decide only[go_sem,nT,nA,nS,nM,nB,reduceIte,reduceCtorEq,hst,List.set_set,setI]
  refine GQ.done ?_
  simp +decide only[go_sem,nT,nA,nS,nM,nB,reduceIte,reduceCtorEq,hst,List.set_set,setI,zAT,zBQ]
  try exact ⟨rfl,rfl⟩
 ·have hj:zP x y.eq=false:=by simp[zP,h]
  have e:zG x s.mem y=(setI s.mem x.loc x.n,{ y with pc:=y.pc+1 }):=by simp[zG,h,hj]
  rw[e]
  obtain ⟨m1,m2,m3⟩:=locs (by rw[h];rfl)
  have hms:∀v,(s.mem.set x.loc.toNat v)[x.loc.toNat]?=some v:=fun v=>by simp[(List.getElem?_eq_some_iff.1 m3).1]
  have hrs:y.regs.set x.reg.toNat (getI y.regs x.reg)=y.regs:=zAP r3
  simp +decide only[go_sem,nT,nA,nS,nM,nB,reduceIte,reduceCtorEq,hx,h,hw,hlv,hst,r1,r2,r3,List.map_set,List.set_set,setI,m1,m2,m3,hms,hrs,List.length_set]
  refine HW.ghost (Ghost.open 4 t 1) ?_
  simp +decide only[go_sem,nT,nA,nS,nM,nB,reduceIte,reduceCtorEq,hx,h,hw,hlv,hst,r1,r2,r3,List.map_set,List.set_set,setI,m1,m2,m3,hms,hrs,List.length_set]
  refine HW.mixed 120 8 (9,0) [] follows (by kernel_rfl) (by decide) ?_
  simp +decide only[go_sem,nT,nA,nS,nM,nB,reduceIte,reduceCtorEq,hx,h,hw,hlv,hst,r1,r2,r3,List.map_set,List.set_set,setI,m1,m2,m3,hms,hrs,List.length_set]
  refine GQ.step (Ghost.absorb 4 t 1) ?_
  simp +decide only[go_sem,nT,nA,nS,nM,nB,reduceIte,reduceCtorEq,hst,List.set_set,setI]
  refine GQ.done ?_
  simp +decide only[go_sem,nT,nA,nS,nM,nB,reduceIte,reduceCtorEq,hst,List.set_set,setI,zAT,zBQ]
  try exact ⟨rfl,rfl⟩
 ·have hj:zP x y.eq=false:=by simp[zP,h]
  have e:zG x s.mem y=(setI s.mem x.loc (getI y.regs x.reg),{ y with pc:=y.pc+1,regs:=setI y.regs x.reg (getI s.mem x.loc) }):=by simp[zG,h,hj]
  rw[e]
  obtain ⟨m1,m2,m3⟩:=locs (by rw[h];rfl)
  have hms:∀v,(s.mem.set x.loc.toNat v)[x.loc.toNat]?=some v:=fun v=>by simp[(List.getElem?_eq_some_iff.1 m3).1]
  have hrs:y.regs.set x.reg.toNat (getI y.regs x.reg)=y.regs:=zAP r3
  simp +decide only[go_sem,nT,nA,nS,nM,nB,reduceIte,reduceCtorEq,hx,h,hw,hlv,hst,r1,r2,r3,List.map_set,List.set_set,setI,m1,m2,m3,hms,hrs,List.length_set]
  refine HW.ghost (Ghost.open 4 t 1) ?_
  simp +decide only[go_sem,nT,nA,nS,nM,nB,reduceIte,reduceCtorEq,hx,h,hw,hlv,hst,r1,r2,r3,List.map_set,List.set_set,setI,m1,m2,m3,hms,hrs,List.length_set]
  refine HW.ghost (Ghost.freeze 3 7 1 0 0 rfl rfl rfl rfl) ?_
  refine HW.mixed 160 36 (3,9) [35,2035,1000,1001,1002,1003,1004,1005,1006,1007,1008,1009,1010,1011,1012,1015,1016,1017,1018,1019,1020,1021,1022,1023,1024,1025,1026,1027,1028,1029,1030,1031,1032,1033,1034] follows (by kernel_rfl) (by decide) ?_
  simp +decide only[go_sem,nT,nA,nS,nM,nB,reduceIte,reduceCtorEq,hx,h,hw,hlv,hst,r1,r2,r3,List.map_set,List.set_set,setI,m1,m2,m3,hms,hrs,List.length_set]
  refine GQ.step (Ghost.absorb 4 t 1) ?_
  simp +decide only[go_sem,nT,nA,nS,nM,nB,reduceIte,reduceCtorEq,hst,List.set_set,setI]
  refine GQ.done ?_
  simp +decide only[go_sem,nT,nA,nS,nM,nB,reduceIte,reduceCtorEq,hst,List.set_set,setI,zAT,zBQ]
  try exact ⟨rfl,rfl⟩
 ·have hj:zP x y.eq=false:=by simp[zP,h]
  have e:zG x s.mem y=(s.mem,{ y with pc:=y.pc+1 }):=by simp[zG,h,hj]
  rw[e]
  simp +decide only[go_sem,nT,nA,nS,nM,nB,reduceIte,reduceCtorEq,hx,h,hw,hlv,hst,r1,r2,r3,List.map_set,List.set_set,setI]
  refine GQ.done ?_
  simp +decide only[go_sem,nT,nA,nS,nM,nB,reduceIte,reduceCtorEq,hst,List.set_set,setI,zAT,zBQ]
  try exact ⟨rfl,rfl⟩
 ·have hj:zP x y.eq=false:=by simp[zP,h]
  have e:zG x s.mem y=(s.mem,{ y with pc:=y.pc+1,eq:=decide (getI y.regs x.reg=x.n) }):=by simp[zG,h,hj]
  rw[e]
  simp +decide only[go_sem,nT,nA,nS,nM,nB,reduceIte,reduceCtorEq,hx,h,hw,hlv,hst,r1,r2,r3,List.map_set,List.set_set,setI]
  refine HW.ghost (Ghost.open 4 t 1) ?_
  simp +decide only[go_sem,nT,nA,nS,nM,nB,reduceIte,reduceCtorEq,hx,h,hw,hlv,hst,r1,r2,r3,List.map_set,List.set_set,setI]
  refine HW.mixed 120 18 (9,0) [] follows (by kernel_rfl) (by decide) ?_
  simp +decide only[go_sem,nT,nA,nS,nM,nB,reduceIte,reduceCtorEq,hx,h,hw,hlv,hst,r1,r2,r3,List.map_set,List.set_set,setI]
  refine GQ.step (Ghost.absorb 4 t 1) ?_
  simp +decide only[go_sem,nT,nA,nS,nM,nB,reduceIte,reduceCtorEq,hst,List.set_set,setI]
  refine GQ.done ?_
  simp +decide only[go_sem,nT,nA,nS,nM,nB,reduceIte,reduceCtorEq,hst,List.set_set,setI,zAT,zBQ]
  try exact ⟨rfl,rfl⟩
 ·have hj:zP x y.eq=true:=by simp[zP,h]
  have e:zG x s.mem y=(s.mem,{ y with pc:=x.to }):=by simp[zG,h,hj]
  rw[e]
  simp +decide only[go_sem,nT,nA,nS,nM,nB,reduceIte,reduceCtorEq,hx,h,hw,hlv,hst,r1,r2,r3,List.map_set,List.set_set,setI]
  refine GQ.done ?_
  simp +decide only[go_sem,nT,nA,nS,nM,nB,reduceIte,reduceCtorEq,hst,List.set_set,setI,zAT,zBQ]
  try exact ⟨rfl,rfl⟩
 ·cases he:y.eq with
  | true =>
   have hj:zP x y.eq=true:=by simp[zP,h,he]
   have e:zG x s.mem y=(s.mem,{ y with pc:=x.to }):=by simp[zG,h,hj]
   rw[e]
   simp +decide only[go_sem,nT,nA,nS,nM,nB,reduceIte,reduceCtorEq,hx,h,hw,hlv,hst,r1,r2,r3,List.map_set,List.set_set,setI,he]
   refine GQ.done ?_
   simp +decide only[go_sem,nT,nA,nS,nM,nB,reduceIte,reduceCtorEq,hst,List.set_set,setI,zAT,zBQ]
   try exact ⟨rfl,rfl⟩
  | false =>
   have hj:zP x y.eq=false:=by simp[zP,h,he]
   have e:zG x s.mem y=(s.mem,{ y with pc:=y.pc+1 }):=by simp[zG,h,hj]
   rw[e]
   simp +decide only[go_sem,nT,nA,nS,nM,nB,reduceIte,reduceCtorEq,hx,h,hw,hlv,hst,r1,r2,r3,List.map_set,List.set_set,setI,he]
   refine GQ.done ?_
   simp +decide only[go_sem,nT,nA,nS,nM,nB,reduceIte,reduceCtorEq,hst,List.set_set,setI,zAT,zBQ]
   try exact ⟨rfl,rfl⟩
 ·cases he:y.eq with
  | false =>
   have hj:zP x y.eq=true:=by simp[zP,h,he]
   have e:zG x s.mem y=(s.mem,{ y with pc:=x.to }):=by simp[zG,h,hj]
   rw[e]
   simp +decide only[go_sem,nT,nA,nS,nM,nB,reduceIte,reduceCtorEq,hx,h,hw,hlv,hst,r1,r2,r3,List.map_set,List.set_set,setI,he]
   refine GQ.done ?_
   simp +decide only[go_sem,nT,nA,nS,nM,nB,reduceIte,reduceCtorEq,hst,List.set_set,setI,zAT,zBQ]
   try exact ⟨rfl,rfl⟩
  | true =>
   have hj:zP x y.eq=false:=by simp[zP,h,he]
   have e:zG x s.mem y=(s.mem,{ y with pc:=y.pc+1 }):=by simp[zG,h,hj]
   rw[e]
   simp +decide only[go_sem,nT,nA,nS,nM,nB,reduceIte,reduceCtorEq,hx,h,hw,hlv,hst,r1,r2,r3,List.map_set,List.set_set,setI,he]
   refine GQ.done ?_
   simp +decide only[go_sem,nT,nA,nS,nM,nB,reduceIte,reduceCtorEq,hst,List.set_set,setI,zAT,zBQ]
   try exact ⟨rfl,rfl⟩
end Go.Proofs.YtoknohandclcbaaGreat
namespace Go.Proofs.YtoknohandclcbaaGreat
set_option maxRecDepth 8000
theorem zBk {l:List Int} {i x:Int}:(setI l i x).length=l.length:=by simp[setI]
theorem zDH {x:Stp} {mem:List Int} {t:Thd}:(zG x mem t).1.length=mem.length:=by
 unfold zG
 dsimp only
 repeat' split
 all_goals simp[zBk]
theorem zDb {x:Stp} {mem:List Int} {t:Thd}:(zG x mem t).2.regs.length=t.regs.length:=by
 unfold zG
 dsimp only
 repeat' split
 all_goals simp[zBk]
theorem zBe {x:Stp} {mem:List Int} {t:Thd}:(zG x mem t).2.buf=t.buf:=by
 unfold zG
 dsimp only
 repeat' split
 all_goals rfl
theorem zFq {x:Stp} {mem:List Int} {t:Thd}:(zG x mem t).2.pc=if zP x t.eq=true then x.to else t.pc+1:=by
 unfold zG
 dsimp only
 repeat' split
 all_goals first | rfl | simp_all
section
variable {p:Prg} {s:Sta}
theorem zDz {th:Int} (h:0≤th∧th<s.ths.length):s.ths[th.toNat]?=some (thAt s th):=by
 unfold thAt
 rw[List.getElem?_eq_getElem (show th.toNat<s.ths.length by omega)];rfl
theorem zE9 {th:Int} {x:Stp} (hp:RightP p) (hs:RightS p s) (h:atS p s th=some x) :
  ∃l,0≤th∧th<s.ths.length∧p.thr[th.toNat]?=some l∧s.ths[th.toNat]?=some (thAt s th)∧RightT p l (thAt s th)∧l[(thAt s th).pc.toNat]?=some x∧RightX p x (thAt s th).pc.toNat l.length∧(thAt s th).pc<l.length:=by
 unfold atS at h
 split at h
 ·rename_i hc
  have hlen:=hs.ths
  have hl:p.thr[th.toNat]?=some (p.thr[th.toNat]'(by omega)):=List.getElem?_eq_getElem (by omega)
  rw[hl,Option.getD_some] at h
  have ht:=zDz hc
  have hT:=hs.t _ _ _ hl ht
  have hlt:=(List.getElem?_eq_some_iff.1 h).1
  exact ⟨_,hc.1,hc.2,hl,ht,hT,h,hp.x _ _ hl _ _ h,by have:=hT.pc;omega⟩
 ·cases h
theorem zSe {l:List Stp} {x:Stp} {t:Thd} (hX:RightX p x t.pc.toNat l.length) (hT:RightT p l t) (hlt:t.pc<l.length):0≤(if zP x t.eq=true then x.to else t.pc+1)∧(if zP x t.eq=true then x.to else t.pc+1)≤l.length∧t.pc<(if zP x t.eq=true then x.to else t.pc+1):=by
 have h0:=hT.pc
 split
 ·rename_i hj
  have h8:8≤x.op:=by
   simp only[zP,Bool.or_eq_true,Bool.and_eq_true,decide_eq_true_eq] at hj
   omega
  have:=hX.to.1 h8
  omega
 ·omega
theorem zBL {th:Int} {mem:List Int} {t:Thd} (hs:RightS p s) (hm:mem.length=s.mem.length) (ht:∀l,p.thr[th.toNat]?=some l→RightT p l t):RightS p (zA6 s th mem t):=by
 refine ⟨by rw[←hs.mem,←hm];rfl,by rw[←hs.ths];simp[zA6],fun i l t' hl ht'=>?_⟩
 simp only[zA6] at ht'
 by_cases e:th.toNat=i
 ·subst e
  rw[List.getElem?_set] at ht'
  split at ht'
  ·split at ht'
   ·cases ht';exact ht l hl
   ·cases ht'
  ·rename_i h;exact absurd rfl h
 ·rw[List.getElem?_set_ne e] at ht'
  exact hs.t i l t' hl ht'
theorem zMI {th:Int} (hp:RightP p) (hs:RightS p s):RightS p (zCr p s th).1:=by
 unfold zCr
 cases h:atS p s th with
 | none=>exact hs
 | some x =>
  obtain ⟨l,c1,c2,hl,ht,hT,hx,hX,hlt⟩:=zE9 hp hs h
  refine zBL hs zDH fun l' hl'=>?_
  rw[hl] at hl';cases hl'
  have:=zSe hX hT hlt
  exact ⟨by rw[zFq];omega,by rw[zDb];exact hT.regs,by rw[zBe];exact hT.buf⟩
theorem zC1 {k:Pck} (hp:RightP p) (hs:RightS p s):RightS p (zQ p s k).1:=by
 unfold zQ
 split
 ·exact hs
 ·rename_i hc
  have hc:0≤k.th∧k.th<s.ths.length:=Decidable.not_not.1 hc
  have ht:=zDz hc
  have hlen:=hs.ths
  have hl:p.thr[k.th.toNat]?=some (p.thr[k.th.toNat]'(by omega)):=List.getElem?_eq_getElem (by omega)
  have hT:=hs.t _ _ _ hl ht
  split
  ·split
   ·rename_i hd
    refine zBL hs ?_ fun l' hl'=>?_
    ·unfold zAI
     split
     ·rfl
     ·split
      ·exact zBk
      ·rfl
    ·rw[hl] at hl';cases hl'
     refine ⟨hT.pc,hT.regs,fun w hw=>?_⟩
     unfold zAI at hw
     split at hw
     ·simp at hw
     ·rename_i b v r e
      split at hw
      ·exact hT.buf w (by rw[e];exact List.mem_cons_of_mem _ hw)
      ·exact hT.buf w (by rw[e];rw[e] at hw;exact hw)
   ·exact hs
  ·cases h:atS p s k.th with
   | none=>exact hs
   | some x =>
    obtain ⟨l,_,_,hl',_,_,hx,hX,hlt⟩:=zE9 hp hs h
    rw[hl] at hl';cases hl'
    have hpc:=zSe hX hT hlt
    have base:RightT p (p.thr[k.th.toNat]'(by omega)) (zG x s.mem (thAt s k.th)).2:=⟨by rw[zFq];omega,by rw[zDb];exact hT.regs,by rw[zBe];exact hT.buf⟩
    have hb:hasL x.op=true→0≤x.loc∧x.loc<(p.init.length:Int):=hX.loc.1
    dsimp only
    split
    ·exact hs
    ·split
     ·refine zBL hs rfl fun l' hl'=>?_
      rw[hl] at hl';cases hl'
      exact ⟨base.pc,by simp only[zBk];exact hT.regs,base.buf⟩
     ·split
      ·rename_i h3
       refine zBL hs rfl fun l' hl'=>?_
       rw[hl] at hl';cases hl'
       refine ⟨base.pc,base.regs,fun w hw=>?_⟩
       rcases List.mem_append.1 hw with hw | hw
       ·exact hT.buf w hw
       ·obtain rfl:=List.mem_singleton.1 hw
        exact hb (by rw[h3];rfl)
      ·split
       ·rename_i h4
        refine zBL hs rfl fun l' hl'=>?_
        rw[hl] at hl';cases hl'
        refine ⟨base.pc,base.regs,fun w hw=>?_⟩
        rcases List.mem_append.1 hw with hw | hw
        ·exact hT.buf w hw
        ·obtain rfl:=List.mem_singleton.1 hw
         exact hb (by rw[h4];rfl)
       ·refine zBL hs zDH fun l' hl'=>?_
        rw[hl] at hl';cases hl'
        exact base
def Few (s:Sta) (n:Nat):Prop:=∀t∈s.ths,t.buf.length≤n
theorem Few.set {th:Int} {mem:List Int} {t:Thd} {n m:Nat} (h:Few s n) (hnm:n≤m) (ht:t.buf.length≤m):Few (zA6 s th mem t) m:=by
 intro t' ht'
 rcases List.mem_or_eq_of_mem_set ht' with h1 | rfl
 ·have:=h t' h1;omega
 ·exact ht
theorem Few.at {n:Nat} (h:Few s n) (th:Int):(thAt s th).buf.length≤n:=by
 unfold thAt
 cases hx:s.ths[th.toNat]? with
 | none=>simp[thd0]
 | some t=>exact h t (List.mem_of_getElem? hx)
theorem Few.mono {n m:Nat} (h:Few s n) (hnm:n≤m):Few s m:=fun t ht=>by have:=h t ht;omega
theorem zRi {th:Int} {n:Nat} (h:Few s n):Few (zCr p s th).1 n:=by
 unfold zCr
 cases atS p s th with
 | none=>exact h
 | some x=>exact h.set (Nat.le_refl _) (by rw[zBe];exact h.at th)
theorem zJr {k:Pck} {n:Nat} (h:Few s n):Few (zQ p s k).1 (n+1):=by
 have h1:=h.mono (show n≤n+1 by omega)
 have ha:=h.at k.th
 unfold zQ
 split
 ·exact h1
 ·split
  ·split
   ·refine h.set (by omega) ?_
    show (zAI (thAt s k.th).buf s.mem).1.length≤n+1
    unfold zAI
    split
    ·simp
    ·rename_i b v r e
     rw[e] at ha
     simp only[List.length_cons] at ha
     split
     ·show r.length≤n+1;omega
     ·show (thAt s k.th).buf.length≤n+1;rw[e];simp only[List.length_cons];omega
   ·exact h1
  ·cases atS p s k.th with
   | none=>exact h1
   | some x =>
    dsimp only
    split
    ·exact h1
    ·split
     ·exact h.set (by omega) (by show (zG x s.mem (thAt s k.th)).2.buf.length≤_;rw[zBe];omega)
     ·split
      ·exact h.set (by omega) (by simp only[List.length_append,List.length_singleton];omega)
      ·split
       ·exact h.set (by omega) (by simp only[List.length_append,List.length_singleton];omega)
       ·exact h.set (by omega) (by rw[zBe];omega)
end
end Go.Proofs.YtoknohandclcbaaGreat
namespace Go.Proofs.YtoknohandclcbaaGreat
open Go.RowKit
set_option maxRecDepth 8000
set_option maxHeartbeats 4000000 in
theorem zYl (p:Prg) (s:Sta) (th:Int) (hp:RightP p) (hs:RightS p s) (hb:∀t∈s.ths,t.buf.length≤100000):HFn Tryz.prog 158 [prgH p,staH s,.v (.int .i64 th)] (.tu [staO (zCr p s th).1,.v (.bool (zCr p s th).2)]):=by
 refine zV (fn:=Tryz.f158) 62 [.cell 6 79,.tmp 7] (by kernel_rfl) rfl rfl (by kernel_rfl) (HW.weaken (Q':=fun e=>GQ _ _ (endC _ _ _ _ e)) (HW.run 400 (by kernel_rfl) ?_) (fun _ _ _ h=>h))
 have hml:s.mem.length≤100000:=by have:=hs.mem;have:=hp.init;omega
 have htl:s.ths.length≤1000:=by have:=hs.ths;have:=hp.thr;omega
 have hrl:∀t∈s.ths,t.regs.length≤100000∧t.buf.length≤100000:=fun t ht=>by
  obtain ⟨i,hi⟩:=List.getElem?_of_mem ht
  have hlt:=(List.getElem?_eq_some_iff.1 hi).1
  have:=(hs.t i _ t (List.getElem?_eq_getElem (show i<p.thr.length by rw[←hs.ths];exact hlt)) hi).regs
  exact ⟨by omega,hb t ht⟩
 simp +decide only[go_sem,nT,nA,nS,nM,nB,reduceIte,reduceCtorEq]
 refine zJ 3 (yA9 s hml htl hrl) (by simp only[go_sem]) (by simp only[go_sem]) ?_
 have hlen:=hs.ths
 by_cases c1:0≤th
 case neg =>
  have c1' : (th<0)=True:=by simp only[eq_iff_iff,iff_true];omega
  have ha:atS p s th=none:=if_neg (fun h=>c1 h.1)
  rw[zEa ha]
  simp +decide only[go_sem,nT,nA,nS,nM,nB,reduceIte,reduceCtorEq]
  refine HW.quiet 80 follows (by kernel_rfl) ?_
  simp +decide only[go_sem,nT,nA,nS,nM,nB,reduceIte,reduceCtorEq,c1']
  refine GQ.done ?_
  simp +decide only[go_sem,nT,nA,nS,nM,nB,reduceIte,reduceCtorEq]
 have c1' : (th<0)=False:=by simp only[eq_iff_iff,iff_false];omega
 by_cases c2:th<s.ths.length
 case neg =>
  have c2' : ((s.ths.length:Int)≤th)=True:=by simp only[eq_iff_iff,iff_true];omega
  have ha:atS p s th=none:=if_neg (fun h=>c2 h.2)
  rw[zEa ha]
  simp +decide only[go_sem,nT,nA,nS,nM,nB,reduceIte,reduceCtorEq]
  refine HW.quiet 80 follows (by kernel_rfl) ?_
  simp +decide only[go_sem,nT,nA,nS,nM,nB,reduceIte,reduceCtorEq,c1',c2']
  refine GQ.done ?_
  simp +decide only[go_sem,nT,nA,nS,nM,nB,reduceIte,reduceCtorEq]
 have c2' : ((s.ths.length:Int)≤th)=False:=by simp only[eq_iff_iff,iff_false];omega
 obtain ⟨t,rfl⟩:∃t:Nat,th=t:=⟨th.toNat,by omega⟩
 have ht:t<s.ths.length:=by omega
 have hx:s.ths[t]?=some s.ths[t]:=List.getElem?_eq_getElem ht
 have htA:thAt s (t:Int)=s.ths[t]:=by unfold thAt;rw[Int.toNat_natCast,hx];rfl
 have hpt:p.thr[t]?=some (p.thr[t]'(by omega)):=List.getElem?_eq_getElem (by omega)
 obtain ⟨q1,q2,q3⟩:=hs.t t _ _ hpt hx
 have e0:atS p s (t:Int)=(p.thr[t]'(by omega))[(s.ths[t]).pc.toNat]?:=by
  unfold atS;rw[if_pos ⟨c1,c2⟩,htA,Int.toNat_natCast,hpt,Option.getD_some]
 have hRx:=fun i x h=>hp.x t _ hpt i x h
 have hll:(p.thr[t]'(by omega)).length≤80:=hp.len _ (List.mem_of_getElem? hpt)
 generalize s.ths[t]=y at hx htA q1 q2 q3 e0
 generalize p.thr[t]'(by omega)=l at hpt q1 e0 hRx hll
 obtain ⟨k,hk⟩:∃k:Nat,y.pc=k:=⟨y.pc.toNat,by omega⟩
 have hc2:((t:Int)<(s.ths.length:Int))=True:=by rw[zR];simp[ht]
 have hc3:((t:Int)<(p.thr.length:Int))=True:=by rw[zR,←hlen];simp[ht]
 have hst:∀X,((zX s.ths).set t X)[t]?=some X:=zC5 (by rw[zAQ];exact ht)
 have hlv:(s.ths.length == s.ths.length && s.ths.length != 0)=true:=by
  rw[Bool.and_eq_true]
  exact ⟨beq_self_eq_true _,by simp only[bne_iff_ne];omega⟩
 rw[hk,Int.toNat_natCast] at e0
 by_cases c3:k<l.length
 case neg =>
  have c3' : ((l.length:Int)≤(k:Int))=True:=by simp only[eq_iff_iff,iff_true];omega
  rw[List.getElem?_eq_none (by omega)] at e0
  rw[zEa e0]
  simp +decide only[go_sem,nT,nA,nS,nM,nB,reduceIte,reduceCtorEq]
  refine HW.quiet 80 follows (by kernel_rfl) ?_
  simp +decide only[go_sem,nT,nA,nS,nM,nB,reduceIte,reduceCtorEq,c1',c2',hx,hpt,hc2,hc3,hk,c3',hlv]
  refine GQ.done ?_
  simp +decide only[go_sem,nT,nA,nS,nM,nB,reduceIte,reduceCtorEq]
 have c3' : ((l.length:Int)≤(k:Int))=False:=by simp only[eq_iff_iff,iff_false];omega
 have hc4:((k:Int)<(l.length:Int))=True:=by rw[zR];simp[c3]
 have hz:l[k]?=some l[k]:=List.getElem?_eq_getElem c3
 rw[hz] at e0
 rw[zFk e0,htA]
 have hR:=hRx _ _ hz
 generalize l[k]=x at hz e0 hR
 simp +decide only[go_sem,nT,nA,nS,nM,nB,reduceIte,reduceCtorEq]
 refine HW.quiet 80 follows (by kernel_rfl) ?_
 simp +decide only[go_sem,nT,nA,nS,nM,nB,reduceIte,reduceCtorEq,c1',c2',hx,hpt,hc2,hc3,hk,c3',hlv]
 refine HW.mixed 80 7 (7,0) [] follows (by kernel_rfl) (by decide) ?_
 simp +decide only[go_sem,nT,nA,nS,nM,nB,reduceIte,reduceCtorEq,c1',c2',hx,hpt,hc2,hc3,hk,c3',hc4,hz,hlv]
 refine HW.mixed 80 14 (7,0) [] follows (by kernel_rfl) (by decide) ?_
 simp +decide only[go_sem,nT,nA,nS,nM,nB,reduceIte,reduceCtorEq,c1',c2',hx,hpt,hc2,hc3,hk,c3',hc4,hz,hlv]
 refine ⟨_,yA6 p s x y t k l.length ht hx hR hll q2 hs.mem hp.init (by omega),?_⟩
 have hm' : (zG x s.mem y).1.length=s.mem.length:=zDH
 generalize zG x s.mem y=z at hm'⊢
 obtain ⟨m',z⟩:=z
 simp only at hm'
 rintro r H' ⟨rfl,rfl⟩ -
 simp +decide only[go_sem,nT,nA,nS,nM,nB,reduceIte,reduceCtorEq,hlv,hm']
 refine GQ.done ?_
 simp +decide only[go_sem,nT,nA,nS,nM,nB,reduceIte,reduceCtorEq,hlv,hm',List.length_set]
 rfl
end Go.Proofs.YtoknohandclcbaaGreat
namespace Go.Proofs.YtoknohandclcbaaGreat
open Go.RowKit
set_option maxRecDepth 8000
theorem zRQ (n:Nat):List.replicate n [HV.v (.int .i64 0),HV.v (.int .i64 0)]=wrts (List.replicate n (0,0)):=by simp[wrts,wrow]
set_option maxHeartbeats 4000000 in
theorem z2B (b:List (Int×Int)) (l n:Int) (hb:b.length≤100000):HFn Tryz.prog 160 [.sl (wrts b),.ag [.v (.int .i64 l),.v (.int .i64 n)]] (zOF (b++[(l,n)])):=by
 refine zB (fn:=Tryz.f160) 19 [4] (by kernel_rfl) rfl (by kernel_rfl) (HW.run 400 (by kernel_rfl) ?_)
 have e1:IntKind.i64.wrap ((b.length:Int)+1)=((b.length+1:Nat):Int):=by rw[w64 (by omega) (by omega)];rfl
 simp +decide only[go_sem,nT,nA,nS,nM,nB,reduceIte,reduceCtorEq,e1,zRQ,List.length_replicate]
 (with_reducible and_intros) <;> first | omega | rfl
set_option maxHeartbeats 4000000 in
theorem zY4 (b:List (Int×Int)) (mem:List Int) (hb:b.length≤100000) (hm:mem.length≤100000):HFn Tryz.prog 157 [.sl (wrts b),.sl (ints mem)] (.tu [zOF (zAI b mem).1,zBn (zAI b mem).2.1,.v (.bool (zAI b mem).2.2)]):=by
 refine zB (fn:=Tryz.f157) 46 [4,5,6] (by kernel_rfl) rfl (by kernel_rfl) (HW.run 400 (by kernel_rfl) ?_)
 simp +decide only[go_sem,nT,nA,nS,nM,nB,reduceIte,reduceCtorEq]
 refine zD (zAj mem (by omega)) rfl rfl ?_
 cases b with
 | nil =>
  simp +decide only[go_sem,nT,nA,nS,nM,nB,reduceIte,reduceCtorEq]
  refine zD (zCX [] (by simp)) rfl rfl ?_
  simp +decide only[go_sem,nT,nA,nS,nM,nB,reduceIte,reduceCtorEq,zAI]
  rfl
 | cons w r =>
  rw[List.length_cons] at hb
  have c0:(((r.length+1:Nat):Int)=0)=False:=by simp only[eq_iff_iff,iff_false];omega
  have c0' : ((0:Int)<((r.length+1:Nat):Int))=True:=by simp only[eq_iff_iff,iff_true];omega
  have c1s:((1:Int)≤((r.length+1:Nat):Int))=True:=by simp only[eq_iff_iff,iff_true];omega
  have hx:(w::r)[(0:Int).toNat]?=some w:=rfl
  by_cases c1:0≤w.1
  case neg =>
   have c1' : (w.1<0)=True:=by simp only[eq_iff_iff,iff_true];omega
   have e:=zE4 (r:=r) (fun h=>c1 h.1:¬(0≤w.1∧w.1<mem.length))
   simp +decide only[go_sem,nT,nA,nS,nM,nB,reduceIte,reduceCtorEq,c0,c0',hx,c1',e]
   refine zD (zCX (w::r) (by simp;omega)) rfl rfl ?_
   simp +decide only[go_sem,nT,nA,nS,nM,nB,reduceIte,reduceCtorEq,c0,c0',hx,c1',e]
  have c1' : (w.1<0)=False:=by simp only[eq_iff_iff,iff_false];omega
  by_cases c2:w.1<mem.length
  case neg =>
   have c2' : ((mem.length:Int)≤w.1)=True:=by simp only[eq_iff_iff,iff_true];omega
   have e:=zE4 (r:=r) (fun h=>c2 h.2:¬(0≤w.1∧w.1<mem.length))
   simp +decide only[go_sem,nT,nA,nS,nM,nB,reduceIte,reduceCtorEq,c0,c0',hx,c1',c2',e]
   refine zD (zCX (w::r) (by simp;omega)) rfl rfl ?_
   simp +decide only[go_sem,nT,nA,nS,nM,nB,reduceIte,reduceCtorEq,c0,c0',hx,c1',c2',e]
  have c2' : ((mem.length:Int)≤w.1)=False:=by simp only[eq_iff_iff,iff_false];omega
  have c2t:(w.1<(mem.length:Int))=True:=by simp only[eq_iff_iff,iff_true];omega
  have c1t:(0≤w.1)=True:=by simp only[eq_iff_iff,iff_true];omega
  have e:=zID (r:=r) ⟨c1,c2⟩
  have hy:mem[w.1.toNat]?=some (mem[w.1.toNat]'(by omega)):=List.getElem?_eq_getElem (by omega)
  simp +decide only[go_sem,nT,nA,nS,nM,nB,reduceIte,reduceCtorEq,c0,c0',hx,c1',c2',c2t,c1t,c1s,e]
  refine HW.mixed 80 9 (0,0) [] follows (by kernel_rfl) (by decide) ?_
  simp +decide only[go_sem,nT,nA,nS,nM,nB,reduceIte,reduceCtorEq,c0,c0',hx,c1',c2',c2t,c1t,c1s,e,hy,Nat.add_sub_cancel,List.length_set]
  refine zD (zCX r (by omega)) rfl rfl ?_
  simp +decide only[go_sem,nT,nA,nS,nM,nB,reduceIte,reduceCtorEq,c0,c0',hx,c1',c2',c2t,c1t,c1s,e,hy,Nat.add_sub_cancel,List.length_set,setI]
end Go.Proofs.YtoknohandclcbaaGreat
