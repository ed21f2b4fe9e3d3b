/- Parts of the proof: Cl, Cr, De, Ct, Cq, Cs, Sw, Sr, St, Pb, Pc, Pd, Qa, Qc, Ge, Gy, Gz, Ia, Id. -/
import Derived.Test.YtoknohandclcbaaGreatZt16
import Derived.Test.YtoknohandclcbaaGreatZt15
import Derived.Test.YtoknohandclcbaaGreatZt13
import Derived.Test.YtoknohandclcbaaGreatZt12
import Derived.Test.YtoknohandclcbaaGreatZt10
import Derived.Test.YtoknohandclcbaaGreatZt14
open Nat renaming reduceAdd → nA, reduceSub → nS, reduceMul → nM, reduceBEq → nB
open Int renaming reduceToNat → nT
set_option linter.unusedSectionVars false
set_option linter.unusedVariables false
set_option linter.unusedSimpArgs false
namespace Go.Proofs.YtoknohandclcbaaGreat
open Go.RowKit
set_option maxRecDepth 8000
theorem zJc:∀(thr:List (List Stp)) (t0 k:Nat) (w:Nat×Nat),(zCM t0 thr)[k]?=some w→∃t l,thr[t]?=some l∧w.1=t0+t∧w.2<l.length∧k=z1 thr t+w.2
 | [],_,k,w,h=>by simp[zCM] at h
 | x::r,t0,k,w,h=>by
  unfold zCM at h
  rcases Nat.lt_or_ge k x.length with hk | hk
  ·rw[List.getElem?_append_left (by simpa using hk),List.getElem?_map,List.getElem?_range hk] at h
   simp only[Option.map_some,Option.some.injEq] at h
   subst h
   exact ⟨0,x,rfl,rfl,hk,by simp[z1]⟩
  ·rw[List.getElem?_append_right (by simpa using hk),List.length_map,List.length_range] at h
   obtain ⟨t,l,h1,h2,h3,h4⟩:=zJc r (t0+1) (k-x.length) w h
   exact ⟨t+1,l,by simpa using h1,by omega,h3,by rw[zCZ];omega⟩
theorem zN3 {thr:List (List Stp)} {j:Nat} {x:List HV} (h:(zIO thr)[j]?=some x):∃t a l,thr[t]?=some l∧a<l.length∧j=z1 thr t+a∧(zCM 0 thr)[j]?=some (t,a)∧x=[.v (.int .i64 (j:Int)),.ag [.v (.int .i64 (t:Int)),.v (.int .i64 (a:Int))]]:=by
 unfold zIO at h
 rw[List.getElem?_map,List.getElem?_zipIdx] at h
 cases hw:(zCM 0 thr)[j]? with
 | none=>rw[hw] at h;cases h
 | some w =>
  rw[hw] at h
  simp only[Option.map_some,Option.some.injEq,Nat.zero_add] at h
  obtain ⟨t,l,h1,h2,h3,h4⟩:=zJc thr 0 j w hw
  obtain ⟨w1,w2⟩:=w
  simp only[Nat.zero_add] at h2 h3 h4 h
  subst h2
  exact ⟨w1,w2,l,h1,h3,h4,rfl,h.symm⟩
set_option maxHeartbeats 8000000 in
theorem zN2 (p:Prg) (th at_:Int) (hp:SmallP p):HFn Tryz.prog 61 [prgH p,.v (.int .i64 th),.v (.int .i64 at_)] (.v (.int .i64 (numS p th at_))):=by
 refine zS (fn:=Tryz.f61) 19 [.cell 6 3] (by kernel_rfl) rfl rfl (by kernel_rfl) (HW.run 400 (by kernel_rfl) ?_)
 simp +decide only[go_sem,nT,nA,nS,nM,nB,reduceIte,reduceCtorEq]
 refine zC (zV3 p) rfl rfl ?_
 simp +decide only[go_sem,nT,nA,nS,nM,nB,reduceIte,reduceCtorEq]
 refine HW.rangeFunc rfl (by decide) rfl (zIO p.thr) [some ⟨25,2,[[.sl (ints p.init),.sl (thrs p.thr)]]⟩,some ⟨3,1,[[.v (.int .i64 th)]]⟩,some ⟨3,1,[[.v (.int .i64 at_)]]⟩,some ⟨3,1,[[.v (.int .i64 0)]]⟩,none]
  (fun j Hi=>Hi=[some ⟨25,2,[[.sl (ints p.init),.sl (thrs p.thr)]]⟩,some ⟨3,1,[[.v (.int .i64 th)]]⟩,some ⟨3,1,[[.v (.int .i64 at_)]]⟩,some ⟨3,1,[[.v (.int .i64 0)]]⟩,none]∧∀k,k<j→∀w,(zCM 0 p.thr)[k]?=some w→¬((w.1:Int)=th∧(w.2:Int)=at_))
  (fun c Hi=>c=.ret∧Hi=[some ⟨25,2,[[.sl (ints p.init),.sl (thrs p.thr)]]⟩,some ⟨3,1,[[.v (.int .i64 th)]]⟩,some ⟨3,1,[[.v (.int .i64 at_)]]⟩,some ⟨3,1,[[.v (.int .i64 (numS p th at_))]]⟩,none])
  (SubH.spec (And.intro rfl (And.intro rfl (And.intro rfl (And.intro rfl trivial))))) ?_ (fun o=>zRW p hp _ 4 rfl) ⟨rfl,by simp⟩ ?_ ?_ ?_
 ·intro x hx
  obtain ⟨j,hj⟩:=List.mem_iff_getElem?.1 hx
  obtain ⟨t,a,l,_,_,_,_,rfl⟩:=zN3 hj
  exact ⟨rfl,rfl⟩
 ·rintro j x Hi hx - ⟨rfl,hno⟩
  obtain ⟨t,a,l,e1,e2,e3,e4,rfl⟩:=zN3 hx
  refine HW.run 60 (by kernel_rfl) ?_
  simp +decide only[go_sem,nT,nA,nS,nM,nB,reduceIte,reduceCtorEq]
  refine HW.run 60 (by kernel_rfl) ?_
  by_cases hc:(t:Int)=th∧(a:Int)=at_
  ·obtain ⟨rfl,rfl⟩:=hc
   have hl:numS p t a=(j:Int):=by
    unfold numS
    rw[Int.toNat_natCast,e1,Option.getD_some,if_pos ⟨by omega,by have:=(List.getElem?_eq_some_iff.1 e1).1;omega,by omega,by omega⟩,e3]
    omega
   simp +decide only[go_sem,nT,nA,nS,nM,nB,reduceIte,reduceCtorEq]
   exact ⟨_,_,Ghost.trunc [] 5 (by omega) rfl rfl,rfl,by rw[hl];rfl⟩
  ·have hc' : ((t:Int)=th→(a:Int)=at_→False)=True:=by simp only[eq_iff_iff,iff_true];exact fun h1 h2=>hc ⟨h1,h2⟩
   simp +decide only[go_sem,nT,nA,nS,nM,nB,reduceIte,reduceCtorEq]
   refine ⟨fun hh=>?_,fun _=>⟨_,_,Ghost.trunc [] 5 (by omega) rfl rfl,rfl,rfl,fun k hk w hw=>?_⟩⟩
   ·rw[Bool.and_eq_true,decide_eq_true_eq,decide_eq_true_eq] at hh
    exact absurd hh hc
   ·rcases Nat.lt_or_ge k j with h | h
    ·exact hno k h w hw
    ·obtain rfl:k=j:=by omega
     rw[e4] at hw;cases hw;exact hc
 ·rintro Hf - ⟨rfl,hno⟩
  have hl:numS p th at_ = -1:=by
   unfold numS
   rw[if_neg]
   rintro ⟨h1,h2,h3,h4⟩
   have e1:p.thr[th.toNat]?=some (p.thr[th.toNat]'(by omega)):=List.getElem?_eq_getElem (by omega)
   rw[e1,Option.getD_some] at h4
   have e2:=zEb p.thr 0 th.toNat at_.toNat _ e1 (by omega)
   have hlt:=(List.getElem?_eq_some_iff.1 e2).1
   rw[zC1,←zFK] at hlt
   refine hno _ hlt _ e2 ⟨?_,?_⟩
   ·simp only[Nat.zero_add];omega
   ·show ((at_.toNat:Nat):Int)=at_;omega
  simp +decide only[go_sem,nT,nA,nS,nM,nB,reduceIte,reduceCtorEq,hl]
 ·rintro c Hf - ⟨rfl,rfl⟩
  unfold XQ
  simp +decide only[go_sem,nT,nA,nS,nM,nB,reduceIte,reduceCtorEq]
end Go.Proofs.YtoknohandclcbaaGreat
namespace Go.Proofs.YtoknohandclcbaaGreat
open Go.RowKit
set_option maxRecDepth 8000
theorem zLP {p:Prg} {s0 s:Sta} {l r:List Pck} {pre:List (List HV)} {j:Nat} {x:List HV} (h:zA1 p s0 l=pre++zA1 p s r) (hj:pre.length=j) (hx:(zA1 p s0 l)[j]?=some x) :
  ∃k r',r=k::r'∧(((zAG p s k).2=true∧x=[zF3 k (thAt s k.th)]∧zA1 p s0 l=(pre++[x])++zA1 p (zAG p s k).1 r')∨((zAG p s k).2=false∧x=[badH])):=by
 rw[h,List.getElem?_append_right (by omega),hj,Nat.sub_self] at hx
 cases r with
 | nil=>simp[zA1] at hx
 | cons k r' =>
  refine ⟨k,r',rfl,?_⟩
  rw[zBv] at hx h
  cases hw:(zAG p s k).2 with
  | true =>
   rw[hw,if_pos rfl] at hx h
   simp only[List.getElem?_cons_zero,Option.some.injEq] at hx
   subst hx
   exact .inl ⟨rfl,rfl,by rw[h,List.append_assoc];rfl⟩
  | false =>
   rw[hw,if_neg (by simp)] at hx
   simp only[List.getElem?_cons_zero,Option.some.injEq] at hx
   exact .inr ⟨rfl,hx.symm⟩
theorem zHy {p:Prg} {s0 s:Sta} {l r:List Pck} {pre:List (List HV)} (h:zA1 p s0 l=pre++zA1 p s r) (hj:pre.length=(zA1 p s0 l).length):r=[]:=by
 rw[h,List.length_append] at hj
 cases r with
 | nil=>rfl
 | cons k r' =>
  rw[zBv] at hj
  split at hj <;> simp at hj
theorem zFG {p:Prg}:∀{l:List Pck} {s:Sta} {x:List HV},x∈zA1 p s l→(∃k t,x=[zF3 k t])∨x=[badH]
 | [],s,x,h=>by simp[zA1] at h
 | k::l,s,x,h=>by
  rw[zBv] at h
  split at h
  ·rcases List.mem_cons.1 h with rfl | h
   ·exact .inl ⟨_,_,rfl⟩
   ·exact zFG h
  ·simp at h;exact .inr h
theorem zGt {p:Prg}:∀(l:List Pck) (s:Sta),(zA1 p s l).length≤l.length
 | [],s=>by simp[zA1]
 | k::l,s=>by
  have:=zGt (p:=p) l (zAG p s k).1
  rw[zBv]
  split <;> simp <;> omega
abbrev raiH (p:Prg) (g:List Int) (a:List HV) (b:Bool) (n:Nat) (out:List Pck):Heap :=
  [some ⟨25,2,[[.sl (ints p.init),.sl (thrs p.thr)]]⟩,some ⟨32,1,[a]⟩,some ⟨4,1,[[.v (.bool b)]]⟩,some (mapI (zDT g)),some ⟨93,1,[[.mp 3]]⟩,
   some ⟨32,1,[[.hd 8 0 n]]⟩,none,none,some ⟨74,2,pcks out⟩]
set_option maxHeartbeats 8000000 in
theorem zQ6 (p:Prg) (g:List Int) (l:List Pck) (hp:RightP p) (hg:g.length≤10000) (hl:l.length≤10000):HFn Tryz.prog 34 [prgH p,.sl (ints g),.sl (pcks l)]
  (.tu [zKE ((zAB p g (zG p) [] l).getD []),.v (.bool (zAB p g (zG p) [] l).isSome)]):=by
 refine HCalls.conv (Q:=fun x _=>x=.tu [zKE ((zAB p g (zG p) [] l).getD []),.v (.bool (zAB p g (zG p) [] l).isSome)]∨(zAB p g (zG p) [] l=none∧x=.tu [.v (.slice none 0 0),.v (.bool false)])) ?_ ?_
 rotate_left
 ·rintro x H' (rfl | ⟨h,rfl⟩)
  ·exact ⟨_,rfl,.inl rfl⟩
  ·rw[h];exact ⟨_,rfl,.inr ⟨rfl,Conv.nilTuOw _ _ _⟩⟩
 have hsm:=hp.small
 refine zS (fn:=Tryz.f34) 52 [.cell 6 32,.cell 7 4] (by kernel_rfl) rfl rfl (by kernel_rfl) (HW.run 400 (by kernel_rfl) ?_)
 simp +decide only[go_sem,nT,nA,nS,nM,nB,reduceIte,reduceCtorEq]
 refine zC (zUP g (by omega)) rfl rfl ?_
 simp +decide only[go_sem,nT,nA,nS,nM,nB,reduceIte,reduceCtorEq]
 refine zC (zHu p l) rfl rfl ?_
 simp +decide only[go_sem,nT,nA,nS,nM,nB,reduceIte,reduceCtorEq]
 refine HW.ghost ((Ghost.cell 5 0 0 (.ow 74 2 []) rfl rfl rfl rfl (Conv.nilOw _ _) (by simp)).trans (Ghost.open 5 0 0)) ?_
 simp +decide only[go_sem,nT,nA,nS,nM,nB,reduceIte,reduceCtorEq]
 refine HW.rangeFunc rfl (by decide) rfl (zA1 p (zG p) l) (raiH p g [.v (.slice none 0 0)] false 0 [])
  (fun j Hi=>∃pre s out r,zA1 p (zG p) l=pre++zA1 p s r∧pre.length=j∧out.length≤2*j∧j≤l.length∧zAB p g (zG p) [] l=zAB p g s out r∧Hi=raiH p g [.v (.slice none 0 0)] false out.length out)
  (fun c Hi=>c=.ret∧zAB p g (zG p) [] l=none∧∃n out,Hi=raiH p g [.v (.slice none 0 0)] false n out)
  ?_ ?_ (fun o=>zY7 p l hp hl _ 6 7 (by omega) rfl rfl) ⟨[],zG p,[],l,rfl,rfl,by simp,by simp,rfl,rfl⟩ ?_ ?_ ?_
 ·refine ⟨rfl,fun j o hj=>?_⟩
  rcases j with _ | _ | _ | _ | _ | _ | _ | _ | _ | j <;> simp at hj⊢<;> exact hj
 ·intro x hx
  rcases zFG hx with ⟨k,t,rfl⟩ | rfl <;> exact ⟨rfl,rfl⟩
 ·rintro j x Hi hx - ⟨pre,s,out,r,hX,hpre,hout,hjl,hR,rfl⟩
  obtain ⟨k,r',rfl,hcase⟩:=zLP hX hpre hx
  have hlen:=zGt (p:=p) l (zG p)
  have hj1:j+1≤l.length:=by
   have:=(List.getElem?_eq_some_iff.1 hx).1
   omega
  refine HW.run 60 (by kernel_rfl) ?_
  rcases hcase with ⟨hw,rfl,hX'⟩ | ⟨hw,rfl⟩
  ·have hthr:=(zIM hw).1
   have c0:(k.th<0)=False:=by simp only[eq_iff_iff,iff_false];omega
   have hR' : zAB p g s out (k::r')=(if k.dr=false∧hasB g (numS p k.th (thAt s k.th).pc)=true then (if (thAt s k.th).buf≠[] then none else zAB p g (zAG p s k).1 (out++[⟨k.th,false⟩]++[k]) r') else zAB p g (zAG p s k).1 (out++[k]) r'):=by
    rw[zAB,if_pos hw]
   rw[hR'] at hR
   generalize (zAG p s k).1=s' at hR hX'
   generalize thAt s k.th=y at hR hX' hx
   have hbuf:(0<(y.buf.length:Int))=(y.buf≠[]):=by
    cases y.buf with
    | nil=>simp
    | cons a b=>simp only[List.length_cons,eq_iff_iff];constructor <;> intro <;> first | simp | omega
   simp +decide only[go_sem,nT,nA,nS,nM,nB,reduceIte,reduceCtorEq,c0]
   refine HW.run 100 (by kernel_rfl) ?_
   simp +decide only[go_sem,nT,nA,nS,nM,nB,reduceIte,reduceCtorEq,c0]
   cases hdr:k.dr with
   | true =>
    rw[if_neg (by simp[hdr])] at hR
    refine HW.tree 1 (.light 0 (.light 1 (.light 2 (.light 3 (.light 4 (.light 5 (.light 6 (.light 7 (.light 8 (.light 9 (.light 10 (.light 11 (.heavy 12 [5] (.heavy 13 [] (.light 14 (.light 15 .leaf)) .stop) .stop))))))))))))) follows (by kernel_rfl) (by kernel_rfl) ?_
    simp +decide only[go_sem,nT,nA,nS,nM,nB,reduceIte,reduceCtorEq,hdr]
    repeat (with_reducible refine And.intro ?_ ?_;·(with_reducible and_intros) <;> omega)
    refine ⟨_,_,Ghost.trunc [] 9 (by omega) rfl ?_,rfl,pre++[[zF3 k y]],s',out++[k],r',hX',by simp[hpre],by simp;omega,hj1,hR,?_⟩
    ·simp +decide only[go_sem,nB,reduceIte]
    ·simp[←zKB,prow,hdr]
   | false =>
    refine HW.tree 1 (.light 0 (.light 1 (.light 2 (.light 3 (.light 4 (.light 5 (.light 6 (.light 7 (.light 8 (.light 9 (.light 10 (.light 11 (.heavy 12 [5] (.heavy 13 [] (.light 14 (.light 15 .leaf)) .stop) .stop))))))))))))) follows (by kernel_rfl) (by kernel_rfl) ?_
    simp +decide only[go_sem,nT,nA,nS,nM,nB,reduceIte,reduceCtorEq,hdr]
    refine zC (zN2 p k.th y.pc hsm) rfl rfl ?_
    have hpos:=zHM g (numS p k.th y.pc)
    by_cases hin:hasB g (numS p k.th y.pc)=true
    ·have hpos' : ((0:Int)<getM (zDT g) (numS p k.th y.pc))=True:=by rw[hpos];simpa [hasB] using hin
     rw[if_pos ⟨hdr,hin⟩] at hR
     by_cases hb:y.buf=[]
     ·rw[if_neg (by simp[hb])] at hR
      have hbuf' : ((0:Int)<(y.buf.length:Int))=False:=by rw[hbuf];simp[hb]
      simp +decide only[go_sem,nT,nA,nS,nM,nB,reduceIte,reduceCtorEq,hdr,hpos',hbuf']
      repeat (with_reducible refine And.intro ?_ ?_;·(with_reducible and_intros) <;> omega)
      refine ⟨_,_,Ghost.trunc [] 9 (by omega) rfl ?_,rfl,pre++[[zF3 k y]],s',out++[⟨k.th,false⟩]++[k],r',hX',by simp[hpre],by simp;omega,hj1,hR,?_⟩
      ·simp +decide only[go_sem,nB,reduceIte]
      ·simp[pcks,prow,hdr]
     ·rw[if_pos hb] at hR
      have hbuf' : ((0:Int)<(y.buf.length:Int))=True:=by rw[hbuf];simp[hb]
      simp +decide only[go_sem,nT,nA,nS,nM,nB,reduceIte,reduceCtorEq,hdr,hpos',hbuf']
      refine ⟨_,_,Ghost.trunc [] 9 (by omega) rfl ?_,rfl,hR,out.length,out,rfl⟩
      simp +decide only[go_sem,nB,reduceIte]
    ·have hpos' : ((0:Int)<getM (zDT g) (numS p k.th y.pc))=False:=by rw[hpos];simpa [hasB] using hin
     rw[if_neg (fun h=>hin h.2)] at hR
     simp +decide only[go_sem,nT,nA,nS,nM,nB,reduceIte,reduceCtorEq,hdr,hpos']
     repeat (with_reducible refine And.intro ?_ ?_;·(with_reducible and_intros) <;> omega)
     refine ⟨_,_,Ghost.trunc [] 9 (by omega) rfl ?_,rfl,pre++[[zF3 k y]],s',out++[k],r',hX',by simp[hpre],by simp;omega,hj1,hR,?_⟩
     ·simp +decide only[go_sem,nB,reduceIte]
     ·simp[←zKB,prow,hdr]
  ·simp +decide only[go_sem,nT,nA,nS,nM,nB,reduceIte,reduceCtorEq]
   refine HW.run 100 (by kernel_rfl) ?_
   simp +decide only[go_sem,nT,nA,nS,nM,nB,reduceIte,reduceCtorEq]
   have hR' : zAB p g (zG p) [] l=none:=by rw[hR,zAB,if_neg (by simp[hw])]
   refine ⟨_,_,Ghost.trunc [] 9 (by omega) rfl ?_,rfl,hR',out.length,out,rfl⟩
   simp +decide only[go_sem,nB,reduceIte]
 ·rintro Hf - ⟨pre,s,out,r,hX,hpre,hout,hjl,hR,rfl⟩
  obtain rfl:=zHy hX hpre
  simp +decide only[go_sem,nT,nA,nS,nM,nB,reduceIte,reduceCtorEq]
  rw[hR]
  exact .inl rfl
 ·rintro c Hf - ⟨rfl,hn,n,out,rfl⟩
  unfold XQ
  simp +decide only[go_sem,nT,nA,nS,nM,nB,reduceIte,reduceCtorEq]
  exact .inr hn
end Go.Proofs.YtoknohandclcbaaGreat
namespace Go.Proofs.YtoknohandclcbaaGreat
open Go.RowKit
set_option maxRecDepth 8000
def insS (n:Int):List Int→List Int
 | []=>[n]
 | x::l=>if n=x then x::l else if n<x then n::x::l else x::insS n l
theorem zGG (n:Int):∀(l acc:List Int),l.foldl (putS n) (acc,true)=(acc++l,true)
 | [],acc=>by simp
 | x::l,acc=>by
  have:putS n (acc,true) x=(acc++[x],true):=by unfold putS;rw[if_neg (by simp)]
  rw[List.foldl_cons,this,zGG n l];simp
theorem zHd (n:Int):∀(l acc:List Int),(if (l.foldl (putS n) (acc,false)).2=true then (l.foldl (putS n) (acc,false)).1 else (l.foldl (putS n) (acc,false)).1++[n])=acc++insS n l
 | [],acc=>by simp[insS]
 | x::l,acc=>by
  rw[List.foldl_cons]
  unfold insS
  by_cases h1:n=x
  ·have:putS n (acc,false) x=(acc++[x],true):=by unfold putS;rw[if_pos ⟨rfl,by omega⟩,if_pos h1]
   rw[this,zGG,if_pos rfl,if_pos h1];simp
  ·by_cases h2:n<x
   ·have:putS n (acc,false) x=(acc++[n]++[x],true):=by unfold putS;rw[if_pos ⟨rfl,by omega⟩,if_neg h1]
    rw[this,zGG,if_pos rfl,if_neg h1,if_pos h2];simp
   ·have:putS n (acc,false) x=(acc++[x],false):=by unfold putS;rw[if_neg (by simp;omega)]
    rw[this,zHd n l,if_neg h1,if_neg h2];simp
theorem zWK (l:List Int) (n:Int):putB l n=insS n l:=by
 have:=zHd n l []
 unfold putB
 rw[this];rfl
theorem zNt {n m:Int}:∀{l:List Int},m∈insS n l↔m=n∨m∈l
 | []=>by simp[insS]
 | x::l=>by
  unfold insS
  split
  ·rename_i h;simp[h]
  ·split
   ·simp
   ·simp only[List.mem_cons,zNt (l:=l)]
    constructor
    ·rintro (h | h | h)
     ·exact .inr (.inl h)
     ·exact .inl h
     ·exact .inr (.inr h)
    ·rintro (h | h | h)
     ·exact .inr (.inl h)
     ·exact .inl h
     ·exact .inr (.inr h)
theorem zGV {n:Int}:∀{l:List Int},l.Pairwise (·< ·)→(insS n l).Pairwise (·< ·)
 | [],_=>by simp[insS]
 | x::l,h=>by
  obtain ⟨h1,h2⟩:=List.pairwise_cons.1 h
  unfold insS
  split
  ·exact h
  ·rename_i hne
   split
   ·rename_i hlt
    refine List.pairwise_cons.2 ⟨fun y hy=>?_,h⟩
    rcases List.mem_cons.1 hy with rfl | hy
    ·exact hlt
    ·have:=h1 y hy;omega
   ·refine List.pairwise_cons.2 ⟨fun y hy=>?_,zGV h2⟩
    rcases zNt.1 hy with rfl | hy
    ·omega
    ·exact h1 y hy
theorem zKR {n:Int}:∀{l:List Int},l.Pairwise (·< ·)→(insS n l).Perm (if n∈l then l else n::l)
 | [],_=>by simp[insS]
 | x::l,h=>by
  obtain ⟨h1,h2⟩:=List.pairwise_cons.1 h
  unfold insS
  by_cases e:n=x
  ·rw[if_pos e,if_pos (by simp[e])]
  ·rw[if_neg e]
   by_cases hl:n<x
   ·rw[if_pos hl,if_neg]
    intro hm
    rcases List.mem_cons.1 hm with hm | hm
    ·exact e hm
    ·have:=h1 n hm;omega
   ·rw[if_neg hl]
    have ih:=zKR (n:=n) h2
    by_cases hm:n∈l
    ·rw[if_pos hm] at ih
     rw[if_pos (List.mem_cons_of_mem _ hm)]
     exact ih.cons x
    ·rw[if_neg hm] at ih
     rw[if_neg (fun h=>by
      rcases List.mem_cons.1 h with h | h
      ·exact e h
      ·exact hm h)]
     exact (ih.cons x).trans (.swap n x l)
theorem zDw {α:Type} [DecidableEq α] (k:α) (v:Int):∀kv:List (α×Int),(setM kv k v).map (·.1)=if k∈kv.map (·.1) then kv.map (·.1) else kv.map (·.1)++[k]
 | []=>by simp[setM]
 | e::r=>by
  have ih:=zDw k v r
  unfold setM
  by_cases h:k=e.1
  ·rw[if_pos h,if_pos (by simp[h])];simp[h]
  ·rw[if_neg h]
   simp only[List.map_cons,ih,List.mem_cons,h,false_or]
   split <;> simp
structure Rise (kv:List (Int×Int)) (out:List Int):Prop where
 rise:out.Pairwise (·< ·)
 perm:out.Perm (kv.map (·.1))
theorem Rise.nodup {kv:List (Int×Int)} {out:List Int} (h:Rise kv out):(kv.map (·.1)).Nodup:=h.perm.nodup_iff.1 (h.rise.imp fun h=>by omega)
theorem Rise.put {kv:List (Int×Int)} {out:List Int} (h:Rise kv out) (n v:Int):Rise (setM kv n v) (putB out n):=by
 rw[zWK]
 refine ⟨zGV h.rise,(zKR h.rise).trans ?_⟩
 rw[zDw]
 have hm:n∈out↔n∈kv.map (·.1):=h.perm.mem_iff
 by_cases hn:n∈out
 ·rw[if_pos hn,if_pos (hm.1 hn)];exact h.perm
 ·rw[if_neg hn,if_neg (fun h'=>hn (hm.2 h'))]
  exact (h.perm.cons n).trans (List.perm_append_singleton n _).symm
theorem zOt {kv:List (Int×Int)} {n v a b:Int} (h:∀e∈kv,a≤e.1∧e.1≤b) (hn:a≤n∧n≤b):∀e∈setM kv n v,a≤e.1∧e.1≤b:=by
 intro e he
 have:e.1∈(setM kv n v).map (·.1):=List.mem_map.2 ⟨e,he,rfl⟩
 rw[zDw] at this
 have key:e.1=n∨e.1∈kv.map (·.1):=by
  split at this
  ·exact .inr this
  ·rcases List.mem_append.1 this with h | h
   ·exact .inr h
   ·exact .inl (List.mem_singleton.1 h)
 rcases key with hk | hk
 ·rw[hk];exact hn
 ·obtain ⟨e',he',e1⟩:=List.mem_map.1 hk
  rw[←e1];exact h e' he'
theorem zLq {α:Type} [DecidableEq α] (k:α) (v:Int) (kv:List (α×Int)):(setM kv k v).length≤kv.length+1:=by
 have:=congrArg List.length (zDw k v kv)
 rw[List.length_map] at this
 rw[this]
 split <;> simp
theorem zP0 (p:Prg) (hp:SmallP p) (t a:Int):-1≤numS p t a∧numS p t a≤3000:=by
 unfold numS
 split
 ·rename_i h
  obtain ⟨h1,h2,h3,h4⟩:=h
  have:=zCl hp t.toNat
  have hl:=hp.thr
  have hx:((p.thr[t.toNat]?).getD []).length≤300:=by
   cases e:p.thr[t.toNat]? with
   | none=>simp
   | some l=>exact hp.len l (List.mem_of_getElem? e)
  omega
 ·omega
end Go.Proofs.YtoknohandclcbaaGreat
namespace Go.Proofs.YtoknohandclcbaaGreat
open Go.RowKit
set_option maxRecDepth 8000
theorem Rise.sorted {kv:List (Int×Int)} {out:List Int} (h:Rise kv out):zEa kv=out:=by
 unfold zEa
 rw[mergeSort_of_perm_i h.perm.symm]
 exact List.mergeSort_of_pairwise (h.rise.imp fun h=>by simp;omega)
abbrev croH (p:Prg) (a:List HV) (b:Bool) (kv:List (Int×Int)):Heap :=
 [some ⟨25,2,[[.sl (ints p.init),.sl (thrs p.thr)]]⟩,some ⟨22,1,[a]⟩,some ⟨4,1,[[.v (.bool b)]]⟩,some (mapI kv),some (zKK 3),none,none,some ⟨93,1,[]⟩]
set_option maxHeartbeats 8000000 in
theorem zQ7 (p:Prg) (l:List Pck) (hp:RightP p) (hl:l.length≤10000):HFn Tryz.prog 109 [prgH p,.sl (pcks l)]
  (.tu [zB1 ((zAS p (zG p) [] l).getD []),.v (.bool (zAS p (zG p) [] l).isSome)]):=by
 refine HCalls.conv (Q:=fun x _=>x=.tu [zB1 ((zAS p (zG p) [] l).getD []),.v (.bool (zAS p (zG p) [] l).isSome)]∨(zAS p (zG p) [] l=none∧x=.tu [.v (.slice none 0 0),.v (.bool false)])) ?_ ?_
 rotate_left
 ·rintro x H' (rfl | ⟨h,rfl⟩)
  ·exact ⟨_,rfl,.inl rfl⟩
  ·rw[h];exact ⟨_,rfl,.inr ⟨rfl,Conv.nilTuOw _ _ _⟩⟩
 have hsm:=hp.small
 refine zS (fn:=Tryz.f109) 38 [.cell 4 22,.cell 5 4] (by kernel_rfl) rfl rfl (by kernel_rfl) (HW.run 400 (by kernel_rfl) ?_)
 simp +decide only[go_sem,nT,nA,nS,nM,nB,reduceIte,reduceCtorEq]
 refine zC (zHu p l) rfl rfl ?_
 simp +decide only[go_sem,nT,nA,nS,nM,nB,reduceIte,reduceCtorEq]
 refine HW.ghost (Ghost.hole 93 1) ?_
 simp +decide only[go_sem,nT,nA,nS,nM,nB,reduceIte,reduceCtorEq]
 refine HW.rangeFunc rfl (by decide) rfl (zA1 p (zG p) l) (croH p [.v (.slice none 0 0)] false [])
  (fun j Hi=>∃pre s out r kv,zA1 p (zG p) l=pre++zA1 p s r∧pre.length=j∧j≤l.length∧zAS p (zG p) [] l=zAS p s out r∧Rise kv out∧(∀e∈kv,-1000000≤e.1∧e.1≤1000000)∧kv.length≤j∧(∀n,0≤getM kv n∧getM kv n≤j)∧Hi=croH p [.v (.slice none 0 0)] false kv)
  (fun c Hi=>c=.ret∧zAS p (zG p) [] l=none∧∃kv,Hi=croH p [.v (.slice none 0 0)] false kv)
  ?_ ?_ (fun o=>zY7 p l hp hl _ 5 6 (by omega) rfl rfl) ⟨[],zG p,[],l,[],rfl,rfl,by simp,rfl,⟨by simp,by simp⟩,by simp,by simp,fun n=>⟨Int.le_refl _,Int.le_refl _⟩,rfl⟩ ?_ ?_ ?_
 ·refine ⟨rfl,fun j o hj=>?_⟩
  rcases j with _ | _ | _ | _ | _ | _ | _ | _ | j <;> simp at hj⊢<;> exact hj
 ·intro x hx
  rcases zFG hx with ⟨k,t,rfl⟩ | rfl <;> exact ⟨rfl,rfl⟩
 ·rintro j x Hi hx - ⟨pre,s,out,r,kv,hX,hpre,hjl,hR,hri,hrg,hkl,hkv,rfl⟩
  obtain ⟨k,r',rfl,hcase⟩:=zLP hX hpre hx
  have hlen:=zGt (p:=p) l (zG p)
  have hj1:j+1≤l.length:=by
   have:=(List.getElem?_eq_some_iff.1 hx).1
   omega
  have hkv1:∀n,0≤getM kv n∧getM kv n≤((j+1:Nat):Int):=fun n=>⟨(hkv n).1,by have:=(hkv n).2;omega⟩
  refine HW.run 60 (by kernel_rfl) ?_
  rcases hcase with ⟨hw,rfl,hX'⟩ | ⟨hw,rfl⟩
  ·have hthr:=(zIM hw).1
   have c0:(k.th<0)=False:=by simp only[eq_iff_iff,iff_false];omega
   rw[zAS,if_pos hw] at hR
   generalize (zAG p s k).1=s' at hR hX'
   generalize thAt s k.th=y at hR hX' hx
   have hbuf:(0<(y.buf.length:Int))=(y.buf≠[]):=by
    cases y.buf with
    | nil=>simp
    | cons a b=>simp only[List.length_cons,eq_iff_iff];constructor <;> intro <;> first | simp | omega
   simp +decide only[go_sem,nT,nA,nS,nM,nB,reduceIte,reduceCtorEq,c0]
   refine HW.run 100 (by kernel_rfl) ?_
   simp +decide only[go_sem,nT,nA,nS,nM,nB,reduceIte,reduceCtorEq,c0]
   by_cases hb:y.buf=[]
   ·have hbuf' : ((0:Int)<(y.buf.length:Int))=False:=by rw[hbuf];simp[hb]
    rw[if_neg (fun h=>h.2 hb)] at hR
    simp +decide only[go_sem,nT,nA,nS,nM,nB,reduceIte,reduceCtorEq,hbuf']
    refine ⟨_,_,Ghost.trunc [] 8 (by omega) rfl ?_,rfl,pre++[[zF3 k y]],s',out,r',kv,hX',by simp[hpre],hj1,hR,hri,hrg,by omega,hkv1,?_⟩
    ·simp +decide only[go_sem,nB,reduceIte]
    ·rfl
   ·have hbuf' : ((0:Int)<(y.buf.length:Int))=True:=by rw[hbuf];simp[hb]
    cases hdr:k.dr with
    | true =>
     rw[if_neg (by simp[hdr])] at hR
     simp +decide only[go_sem,nT,nA,nS,nM,nB,reduceIte,reduceCtorEq,hbuf',hdr]
     refine ⟨_,_,Ghost.trunc [] 8 (by omega) rfl ?_,rfl,pre++[[zF3 k y]],s',out,r',kv,hX',by simp[hpre],hj1,hR,hri,hrg,by omega,hkv1,?_⟩
     ·simp +decide only[go_sem,nB,reduceIte]
     ·rfl
    | false =>
     rw[if_pos ⟨hdr,hb⟩] at hR
     simp +decide only[go_sem,nT,nA,nS,nM,nB,reduceIte,reduceCtorEq,hbuf',hdr]
     refine HW.tree 1 (.light 0 (.light 1 (.light 2 (.light 3 (.light 4 (.light 5 (.light 6 (.heavy 7 [0] (.heavy 8 [] (.light 9 (.heavy 10 [] .leaf .stop)) .stop) .stop)))))))) follows (by kernel_rfl) (by kernel_rfl) ?_
     simp +decide only[go_sem,nT,nA,nS,nM,nB,reduceIte,reduceCtorEq,hbuf',hdr]
     refine zC (zN2 p k.th y.pc hsm) rfl rfl ?_
     have hnr:=zP0 p hsm k.th y.pc
     generalize numS p k.th y.pc=n at hR hnr
     have hkn:=hkv n
     have hw2:IntKind.i64.wrap (getM kv n+1)=getM kv n+1:=w64 (by omega) (by omega)
     simp +decide only[go_sem,nT,nA,nS,nM,nB,reduceIte,reduceCtorEq,hbuf',hdr,hw2]
     refine ⟨_,_,Ghost.trunc [] 8 (by omega) rfl ?_,rfl,pre++[[zF3 k y]],s',putB out n,r',setM kv n (getM kv n+1),hX',by simp[hpre],hj1,hR,hri.put n _,zOt hrg (by omega),by have:=zLq n (getM kv n+1) kv;omega,fun m=>?_,?_⟩
     ·simp +decide only[go_sem,nB,reduceIte]
     ·rw[zPk]
      have:=hkv m
      split <;> omega
     ·rfl
  ·simp +decide only[go_sem,nT,nA,nS,nM,nB,reduceIte,reduceCtorEq]
   refine HW.run 100 (by kernel_rfl) ?_
   simp +decide only[go_sem,nT,nA,nS,nM,nB,reduceIte,reduceCtorEq]
   have hR' : zAS p (zG p) [] l=none:=by rw[hR,zAS,if_neg (by simp[hw])]
   refine ⟨_,_,Ghost.trunc [] 8 (by omega) rfl ?_,rfl,hR',kv,rfl⟩
   simp +decide only[go_sem,nB,reduceIte]
 ·rintro Hf - ⟨pre,s,out,r,kv,hX,hpre,hjl,hR,hri,hrg,hkl,hkv,rfl⟩
  obtain rfl:=zHy hX hpre
  simp +decide only[go_sem,nT,nA,nS,nM,nB,reduceIte,reduceCtorEq]
  refine ⟨_,zW7 (kv:=kv) (j:=7) rfl rfl,?_⟩
  rintro r H' ⟨rfl,rfl⟩ -
  simp +decide only[go_sem,nT,nA,nS,nM,nB,reduceIte,reduceCtorEq]
  refine ⟨_,zJd (id:=3) (j:=7) (kv:=kv) rfl rfl hri.nodup hrg (by omega),?_⟩
  rintro r H' ⟨rfl,rfl⟩ -
  rw[hri.sorted]
  simp +decide only[go_sem,nT,nA,nS,nM,nB,reduceIte,reduceCtorEq]
  rw[hR]
  exact .inl rfl
 ·rintro c Hf - ⟨rfl,hn,kv,rfl⟩
  unfold XQ
  simp +decide only[go_sem,nT,nA,nS,nM,nB,reduceIte,reduceCtorEq]
  exact .inr hn
end Go.Proofs.YtoknohandclcbaaGreat
namespace Go.Proofs.YtoknohandclcbaaGreat
open Go.RowKit
set_option maxRecDepth 8000
def zVG (x:List Stp):List HV:=[.ow 87 5 (stps x)]
def zJZ (l:List (List Stp)):List (List HV):=l.map zVG
theorem zRE {l:List (List Stp)}:(zJZ l).length=l.length:=by simp[zJZ]
theorem zVK {l:List (List Stp)} {k:Nat} {H:Heap}:(zJZ l).map (fun r=>r.map (fz k H))=thrs l:=by
 simp only[zJZ,thrs,List.map_map]
 apply List.map_congr_left
 intro x _
 cases k <;> simp only[Function.comp,zVG,trow,List.map_cons,List.map_nil,fz,fzo,zJ9]
theorem zJY {m:Nat}:∀{l:List (List Stp)},nmR m (zJZ l)=true
 | []=>rfl
 | x::l=>by
  show nmR m (zVG x::zJZ l)=true
  simp only[nmR,zVG,nmL,nm,zJY,Bool.and_self]
theorem zIJ {l:List (List Stp)}:zZ (zJZ l) 1=True:=by
 simp only[zZ,zJZ,List.mem_map,eq_iff_iff,iff_true]
 rintro r ⟨a,_,rfl⟩;rfl
attribute [go_sem] zVK zJY zIJ zRE
end Go.Proofs.YtoknohandclcbaaGreat
namespace Go.Proofs.YtoknohandclcbaaGreat
open Go.RowKit
set_option maxRecDepth 8000
end Go.Proofs.YtoknohandclcbaaGreat
namespace Go.Proofs.YtoknohandclcbaaGreat
open Go.RowKit
set_option maxRecDepth 8000
def bufP:Prg:=⟨[0,0],[[⟨4,0,0,1,0⟩,⟨2,0,1,0,0⟩],[⟨4,0,1,1,0⟩,⟨2,0,0,0,0⟩]]⟩
def loose:List Pck:=[⟨0,false⟩,⟨0,false⟩,⟨1,false⟩,⟨1,false⟩,⟨0,true⟩,⟨1,true⟩]
theorem zBi:RightP bufP:=zGB.1 (by rfl)
theorem zKM:HFn Tryz.prog 27 [] (prgH bufP):=by
 refine zAq (fn:=Tryz.f27) 4 10 [.cell 0 25] (by kernel_rfl) rfl rfl (by kernel_rfl) (HW.run 400 (by kernel_rfl) ?_)
 simp +decide only[go_sem,nT,nA,nS,nM,nB,reduceIte,reduceCtorEq]
 rfl
theorem zW8:HFn Tryz.prog 55 [] (.sl (pcks loose)):=by
 refine HFn.shut (R:=zKE loose) ?_ (by simp only[fzo,zCp])
 refine zA (fn:=Tryz.f55) 8 [0] (by kernel_rfl) rfl (by kernel_rfl) (HW.run 400 (by kernel_rfl) ?_)
 simp +decide only[go_sem,nT,nA,nS,nM,nB,reduceIte,reduceCtorEq]
 rfl
end Go.Proofs.YtoknohandclcbaaGreat
namespace Go.Proofs.YtoknohandclcbaaGreat
open Go.RowKit
set_option maxRecDepth 8000
end Go.Proofs.YtoknohandclcbaaGreat
namespace Go.Proofs.YtoknohandclcbaaGreat
open Go.RowKit
set_option maxRecDepth 8000
end Go.Proofs.YtoknohandclcbaaGreat
namespace Go.Proofs.YtoknohandclcbaaGreat
open Go.RowKit
set_option maxRecDepth 8000
theorem zHt (p:Prg):∀(l:List Pck) (s:Sta) (out x:List Int),zAS p s out l=some x→x.length≤out.length+l.length
 | [],s,out,x,h=>by simp only[zAS,Option.some.injEq] at h;subst h;simp
 | k::r,s,out,x,h=>by
  unfold zAS at h
  split at h
  ·have h1:=zHt p r _ _ x h
   have h2:=zNh out (numS p k.th (thAt s k.th).pc)
   simp only[List.length_cons]
   split at h1 <;> omega
  ·cases h
theorem zEh (p:Prg) (g:List Int):∀(l:List Pck) (s:Sta) (out x:List Pck),zAB p g s out l=some x→x.length≤out.length+2*l.length
 | [],s,out,x,h=>by simp only[zAB,Option.some.injEq] at h;subst h;simp
 | k::r,s,out,x,h=>by
  unfold zAB at h
  split at h
  ·split at h
   ·split at h
    ·cases h
    ·have:=zEh p g r _ _ x h
     simp only[List.length_append,List.length_cons,List.length_nil] at this⊢;omega
   ·have:=zEh p g r _ _ x h
    simp only[List.length_append,List.length_cons,List.length_nil] at this⊢;omega
  ·cases h
theorem zOC {α:Type} {o:Option (List α)} {n:Nat} (h:∀x,o=some x→x.length≤n):(o.getD []).length≤n:=by
 cases o with
 | none=>simp
 | some x=>exact h x rfl
theorem zKw {p:Prg} {l:List Pck}:((zAS p (zG p) [] l).getD []).length≤l.length:=zOC fun x h=>by have:=zHt p l _ _ x h;simpa using this
theorem zSI {p:Prg} {g:List Int} {l:List Pck}:((zAB p g (zG p) [] l).getD []).length≤2*l.length:=zOC fun x h=>by have:=zEh p g l _ _ x h;simpa using this
end Go.Proofs.YtoknohandclcbaaGreat
namespace Go.Proofs.YtoknohandclcbaaGreat
set_option maxRecDepth 8000
abbrev runW (p:Prg) (s:Sta) (l:List Pck):Sta×Nat×Bool:=runF (fun s k=>zAU p s k true) s l
end Go.Proofs.YtoknohandclcbaaGreat
namespace Go.Proofs.YtoknohandclcbaaGreat
set_option maxRecDepth 8000
def Empty (s:Sta):Prop:=∀t∈s.ths,t.buf=[]
theorem Empty.at {s:Sta} (h:Empty s) (th:Int):(thAt s th).buf=[]:=by
 unfold thAt
 cases hx:s.ths[th.toNat]? with
 | none=>rfl
 | some t=>exact h t (List.mem_of_getElem? hx)
theorem Empty.set {s:Sta} {th:Int} {mem:List Int} {t:Thd} (h:Empty s) (ht:t.buf=[]):Empty (zAw s th mem t):=by
 intro t' ht'
 rcases List.mem_or_eq_of_mem_set ht' with h1 | rfl
 ·exact h t' h1
 ·exact ht
end Go.Proofs.YtoknohandclcbaaGreat
namespace Go.Proofs.YtoknohandclcbaaGreat
set_option maxRecDepth 8000
def fpos (g:List Int) (a i:Nat):Nat:=i+zCv g a i
def spos (g:List Int) (a i:Nat):Nat:=i+zCv g a (i+1)
theorem zTO {g:List Int} {a i j:Nat} (h:i<j):spos g a i<fpos g a j:=by
 unfold spos fpos
 have:=zGk g a (show i+1≤j by omega);omega
theorem zZq {g:List Int} {a i:Nat}:fpos g a i≤spos g a i:=by
 unfold spos fpos
 have:=zGk g a (show i≤i+1 by omega);omega
theorem zTN {g:List Int} {a i j:Nat} (h:i<j):fpos g a i<fpos g a j:=Nat.lt_of_le_of_lt zZq (zTO h)
section
variable {p:Prg} {g:List Int}
theorem zWh {t:Nat} {l:List Stp} (hl:p.thr[t]?=some l):(insP p g).thr[t]?=some (insT g (z1 p.thr t) l):=by
 have ht:=(List.getElem?_eq_some_iff.1 hl).1
 show (insF g p.thr p.thr.length)[t]?=_
 rw[zNu g p.thr _ t ht,hl,Option.getD_some]
theorem zWf {a:Nat} {l:List Stp}:(insT g a l).length=fpos g a l.length:=zWe g a l
def Pos (b:Bool) (g:List Int) (a n:Nat) (t:Thd) (c:Int):Prop :=
 c=((fpos g a t.pc.toNat:Nat):Int)∨(b=true∧t.pc.toNat<n∧hasB g ((a+t.pc.toNat:Nat):Int)=true∧t.buf=[]∧c=((spos g a t.pc.toNat:Nat):Int))
structure Sim (b:Bool) (p:Prg) (g:List Int) (s z:Sta):Prop where
 mem:z.mem=s.mem
 len:z.ths.length=s.ths.length
 th:∀i t l,s.ths[i]?=some t→p.thr[i]?=some l→∃c:Int,z.ths[i]?=some { t with pc:=c }∧Pos b g (z1 p.thr i) l.length t c
theorem Sim.set {b:Bool} {s z:Sta} {th c:Int} {m:List Int} {t:Thd} (h:Sim b p g s z) (ht:∀l,p.thr[th.toNat]?=some l→Pos b g (z1 p.thr th.toNat) l.length t c) :
  Sim b p g (zAw s th m t) (zAw z th m { t with pc:=c }):=by
 refine ⟨rfl,by simp[zAw,h.len],fun i u l hu hl=>?_⟩
 simp only[zAw] at hu⊢
 by_cases e:th.toNat=i
 ·subst e
  rw[List.getElem?_set] at hu⊢
  rw[if_pos rfl] at hu⊢
  split at hu
  ·rename_i hlt
   cases hu
   rw[if_pos (by rw[h.len];exact hlt)]
   exact ⟨c,rfl,ht l hl⟩
  ·cases hu
 ·rw[List.getElem?_set_ne e] at hu⊢
  exact h.th i u l hu hl
theorem Sim.regs {b:Bool} {s z:Sta} (hs:RightS p s) (h:Sim b p g s z):zF0 z=zF0 s:=by
 have e:z.ths.map (·.regs)=s.ths.map (·.regs):=by
  apply List.ext_getElem?
  intro i
  rw[List.getElem?_map,List.getElem?_map]
  by_cases hi:i<s.ths.length
  ·have hlen:=hs.ths
   have ht:s.ths[i]?=some s.ths[i]:=List.getElem?_eq_getElem hi
   have hl:p.thr[i]?=some (p.thr[i]'(by omega)):=List.getElem?_eq_getElem (by omega)
   obtain ⟨c,hz,_⟩:=h.th i _ _ ht hl
   rw[hz,ht];rfl
  ·rw[List.getElem?_eq_none (by rw[h.len];omega),List.getElem?_eq_none (by omega)]
 unfold zF0
 rw[List.flatMap_def,List.flatMap_def,e]
theorem Sim.overT {b:Bool} {s z:Sta} (hs:RightS p s) (h:Sim b p g s z) {i:Nat} (hi:i<s.ths.length):(overT (insP p g) z i=true→overT p s i=true)∧(b=false→overT p s i=true→overT (insP p g) z i=true):=by
 have hlen:=hs.ths
 have ht:s.ths[i]?=some s.ths[i]:=List.getElem?_eq_getElem hi
 have hl:p.thr[i]?=some (p.thr[i]'(by omega)):=List.getElem?_eq_getElem (by omega)
 obtain ⟨c,hz,hP⟩:=h.th i _ _ ht hl
 have hT:=hs.t i _ _ hl ht
 have hq:=zWh (g:=g) hl
 unfold Go.Proofs.YtoknohandclcbaaGreat.overT
 rw[hz,ht,hl,hq]
 dsimp only
 rw[zWf]
 have hpc:=hT.pc
 simp only[Bool.and_eq_true,decide_eq_true_eq]
 refine ⟨fun ⟨h1,h2⟩=>⟨?_,h2⟩,fun hb ⟨h1,h2⟩=>⟨?_,h2⟩⟩
 ·rcases hP with hP | ⟨_,h2,_,_,h5⟩
  ·rw[hP] at h1
   rcases Nat.lt_or_ge (s.ths[i]).pc.toNat (p.thr[i]'(by omega)).length with e | e
   ·have:=zTN (g:=g) (a:=z1 p.thr i) e;omega
   ·omega
  ·rw[h5] at h1
   have:=zTO (g:=g) (a:=z1 p.thr i) h2
   omega
 ·rcases hP with hP | ⟨h3,_⟩
  ·rw[hP]
   have:(s.ths[i]).pc.toNat=(p.thr[i]'(by omega)).length:=by omega
   rw[this]
  ·rw[hb] at h3;cases h3
theorem Sim.over {b:Bool} {s z:Sta} (hs:RightS p s) (h:Sim b p g s z):(zBO (insP p g) z=true→zBO p s=true)∧(b=false→zBO p s=zBO (insP p g) z):=by
 have e1:zBO (insP p g) z=true→zBO p s=true:=by
  unfold zBO
  rw[h.len,List.all_eq_true,List.all_eq_true]
  intro h1 i hi
  exact (h.overT hs (by simpa using hi)).1 (h1 i hi)
 refine ⟨e1,fun hb=>?_⟩
 rw[Bool.eq_iff_iff]
 refine ⟨?_,e1⟩
 unfold zBO
 rw[h.len,List.all_eq_true,List.all_eq_true]
 intro h1 i hi
 exact (h.overT hs (by simpa using hi)).2 hb (h1 i hi)
end
end Go.Proofs.YtoknohandclcbaaGreat
namespace Go.Proofs.YtoknohandclcbaaGreat
open Go.RowKit
set_option maxRecDepth 8000
end Go.Proofs.YtoknohandclcbaaGreat
namespace Go.Proofs.YtoknohandclcbaaGreat
set_option maxRecDepth 8000
def zHU (p:Prg) (l:List Pck):Option Ot:=if ((runW p (zG p) l).2.2 && zBO p (runW p (zG p) l).1)=true then some ⟨(runW p (zG p) l).1.mem,zF0 (runW p (zG p) l).1⟩ else none
def zAI (l:List Prf):List (List Int):=l.map (·.slots)
def zEW (p:Prg) (l:List Pck):List Int:=(zAS p (zG p) [] l).getD []
def zBH (p:Prg) (a:Ans) (x:Prf):Bool:=match zHU p x.picks with
 | none=>false
 | some o=>decide (o=x.out) && (decide (zEW p x.picks=x.slots) && (!hasO a.ends o && hasO a.loose o))
def zHD (a:Ans):Bool:=setO a.ends && (setO a.loose && (zBM a.ends a.loose).isEmpty)
def zGT (a:Ans):Bool:=(zB8 (zAI a.proofs)).2 && decide ((zB8 (zAI a.proofs)).1=a.fences)
def zMM (a:Ans):Bool:=decide (decide (a.fences=[])=decide (a.ends=a.loose))
def zEY (p:Prg) (a:Ans):Bool:=zHD a && (a.proofs.all (zBH p a) && (zGT a && zMM a))
def zGr (a:Ans) (g:List Int):Option Prf:=a.proofs.find? fun x=>!zAe x.slots g
theorem zQ1 {p:Prg} {l:List Pck} {o:Ot} (h:zHU p l=some o):(runW p (zG p) l).2.2=true∧zBO p (runW p (zG p) l).1=true∧o=⟨(runW p (zG p) l).1.mem,zF0 (runW p (zG p) l).1⟩:=by
 unfold zHU at h
 split at h
 ·rename_i hh
  rw[Bool.and_eq_true] at hh
  exact ⟨hh.1,hh.2,(Option.some.inj h).symm⟩
 ·cases h
end Go.Proofs.YtoknohandclcbaaGreat
namespace Go.Proofs.YtoknohandclcbaaGreat
open Go.RowKit
set_option maxRecDepth 8000
structure SmallA (a:Ans):Prop where
 ends:a.ends.length≤1000
 endO:∀o∈a.ends,SmallO o
 loose:a.loose.length≤1000
 looseO:∀o∈a.loose,SmallO o
 proofs:a.proofs.length≤1000
 picks:∀x∈a.proofs,x.picks.length≤10000
 slots:∀x∈a.proofs,x.slots.length≤1000
 outs:∀x∈a.proofs,SmallO x.out
 fences:a.fences.length≤1000
 all:(zAI a.proofs).flatten.length≤10000
abbrev chkC (p:Prg) (a:Ans):HV:=.fp [[.sl (ints a.fences),.sl (pfs a.proofs),.sl (ots a.ends),.sl (ots a.loose),.v (.int .i64 a.states),.sl (ints p.init),.sl (thrs p.thr)]] 0 0
theorem zOO (a b:Ot) (ha:SmallO a) (hb:SmallO b):HFn Tryz.prog 76 [otH a,otH b] (.v (.bool (decide (a=b)))):=by
 have h1:=zI7 a b ha hb
 have h2:=zI7 b a hb ha
 have e:decide (a=b)=(!zBL a b && !zBL b a):=by
  rcases zS5 a b with h | rfl | h
  ·have:¬a=b:=fun e=>by subst e;rw[zEH] at h;cases h
   simp[h,this]
  ·simp[zEH]
  ·have:¬a=b:=fun e=>by subst e;rw[zEH] at h;cases h
   simp[h,this]
 rw[e]
 generalize zBL a b=x at h1
 generalize zBL b a=y at h2
 refine zA (fn:=Tryz.f76) 15 [4] (by kernel_rfl) rfl (by kernel_rfl) (HW.run 400 (by kernel_rfl) ?_)
 simp +decide only[go_sem,nT,nA,nS,nM,nB,reduceIte,reduceCtorEq]
 refine zC (h1) rfl rfl ?_
 cases x with
 | true =>
  simp +decide only[go_sem,nT,nA,nS,nM,nB,reduceIte,reduceCtorEq]
  rfl
 | false =>
  simp +decide only[go_sem,nT,nA,nS,nM,nB,reduceIte,reduceCtorEq]
  refine zC (h2) rfl rfl ?_
  simp +decide only[go_sem,nT,nA,nS,nM,nB,reduceIte,reduceCtorEq]
set_option maxHeartbeats 4000000 in
theorem zFn (a b:List Int) (ha:a.length≤1000000) (hb:b.length≤1000000):HFn Tryz.prog 74 [.sl (ints a),.sl (ints b)] (.v (.bool (decide (a=b)))):=by
 refine zA (fn:=Tryz.f74) 26 [4] (by kernel_rfl) rfl (by kernel_rfl) (HW.run 400 (by kernel_rfl) ?_)
 by_cases hn:a.length=b.length
 ·have hn' : ((a.length:Int)=(b.length:Int))=True:=by simp only[eq_iff_iff,iff_true];omega
  simp +decide only[go_sem,nT,nA,nS,nM,nB,reduceIte,reduceCtorEq,hn']
  refine HW.loopG (fun k T H=>∃i:Nat,k=a.length-i∧i≤a.length∧a.take i=b.take i∧T 0=.sl (ints a)∧T 1=.sl (ints b)∧T 12=.v (.int .i64 a.length)∧T 13=.v (.int .i64 i)∧H=[]) a.length ⟨_,_,Ghost.refl,0,rfl,by omega,rfl,rfl,rfl,?_,rfl,rfl⟩ ?_
  ·simp +decide only[go_sem,nT,nA,nS,nM,nB,reduceIte,reduceCtorEq]
  rintro k T H ⟨i,rfl,hi,he,h0,h1,h12,h13,rfl⟩
  refine HW.run 200 (by kernel_rfl) ?_
  by_cases hlt:i<a.length
  ·have hlt' : ((i:Int)<(a.length:Int))=True:=by simp only[eq_iff_iff,iff_true];omega
   have hlt2:((i:Int)<(b.length:Int))=True:=by simp only[eq_iff_iff,iff_true];omega
   have hx:a[i]?=some a[i]:=List.getElem?_eq_getElem hlt
   have hy:b[i]?=some (b[i]'(by omega)):=List.getElem?_eq_getElem (by omega)
   generalize a[i]=x at hx
   generalize b[i]'(by omega)=y at hy
   simp +decide only[go_sem,nT,nA,nS,nM,nB,reduceIte,reduceCtorEq,h0,h1,h12,h13,hlt']
   refine HW.tree 1 (.light 0 (.light 1 (.light 2 (.light 3 (.light 4 (.light 5 (.light 6 (.light 7 (.light 8 .leaf))))))))) follows (by kernel_rfl) (by kernel_rfl) ?_
   simp +decide only[go_sem,nT,nA,nS,nM,nB,reduceIte,reduceCtorEq,h0,h1,h12,h13,hlt',hlt2,hx,hy]
   by_cases hxy:x=y
   ·subst hxy
    simp +decide only[go_sem,nT,nA,nS,nM,nB,reduceIte,reduceCtorEq,h0,h1,h12,h13]
    refine ⟨_,_,Ghost.refl,a.length-(i+1),by omega,i+1,rfl,by omega,by rw[List.take_add_one,List.take_add_one,he,hx,hy],?_,?_,?_,?_,rfl⟩
    all_goals first | (simp +decide only[go_sem,nB,reduceIte,h0,h1,h12];done) | (simp +decide only[go_sem,nB,reduceIte];rw[w64 (by omega) (by omega)];rfl)
   ·have hxy' : (x=y)=False:=eq_false hxy
    have:¬a=b:=fun e=>by rw[e,hy] at hx;exact hxy (Option.some.inj hx).symm
    rw[show decide (a=b)=false from decide_eq_false this]
    simp +decide only[go_sem,nT,nA,nS,nM,nB,reduceIte,reduceCtorEq,h0,h1,h12,h13,hxy']
  ·have hlt' : ((i:Int)<(a.length:Int))=False:=by simp only[eq_iff_iff,iff_false];omega
   have:a=b:=by rw[List.take_of_length_le (by omega),List.take_of_length_le (by omega)] at he;exact he
   rw[show decide (a=b)=true from decide_eq_true this]
   simp +decide only[go_sem,nT,nA,nS,nM,nB,reduceIte,reduceCtorEq,h0,h1,h12,h13,hlt']
 ·have hn' : ((a.length:Int)=(b.length:Int))=False:=by simp only[eq_iff_iff,iff_false];omega
  have:¬a=b:=fun e=>hn (by rw[e])
  rw[show decide (a=b)=false from decide_eq_false this]
  simp +decide only[go_sem,nT,nA,nS,nM,nB,reduceIte,reduceCtorEq,hn']
set_option maxHeartbeats 4000000 in
theorem zJe (a b:List Ot) (ha:a.length≤1000000) (hb:b.length≤1000000) (hsa:∀x∈a,SmallO x) (hsb:∀x∈b,SmallO x):HFn Tryz.prog 75 [.sl (ots a),.sl (ots b),.fn 76 []] (.v (.bool (decide (a=b)))):=by
 refine zA (fn:=Tryz.f75) 32 [6] (by kernel_rfl) rfl (by kernel_rfl) (HW.run 400 (by kernel_rfl) ?_)
 by_cases hn:a.length=b.length
 ·have hn' : ((a.length:Int)=(b.length:Int))=True:=by simp only[eq_iff_iff,iff_true];omega
  simp +decide only[go_sem,nT,nA,nS,nM,nB,reduceIte,reduceCtorEq,hn']
  refine HW.loopG (fun k T H=>∃i:Nat,k=a.length-i∧i≤a.length∧a.take i=b.take i∧T 1=.sl (ots b)∧T 2=.fn 76 []∧T 15=.sl (ots a)∧T 16=.v (.int .i64 a.length)∧T 17=.v (.int .i64 i)∧H=[]) a.length ⟨_,_,Ghost.refl,0,rfl,by omega,rfl,rfl,rfl,rfl,?_,rfl,rfl⟩ ?_
  ·simp +decide only[go_sem,nT,nA,nS,nM,nB,reduceIte,reduceCtorEq]
  rintro k T H ⟨i,rfl,hi,he,h1,h2,h15,h16,h17,rfl⟩
  refine HW.run 200 (by kernel_rfl) ?_
  by_cases hlt:i<a.length
  ·have hlt' : ((i:Int)<(a.length:Int))=True:=by simp only[eq_iff_iff,iff_true];omega
   have hlt2:((i:Int)<(b.length:Int))=True:=by simp only[eq_iff_iff,iff_true];omega
   have hx:a[i]?=some a[i]:=List.getElem?_eq_getElem hlt
   have hy:b[i]?=some (b[i]'(by omega)):=List.getElem?_eq_getElem (by omega)
   have hc:=zOO _ _ (hsa _ (List.getElem_mem hlt)) (hsb _ (List.getElem_mem (by omega:i<b.length)))
   generalize a[i]=x at hx hc
   generalize b[i]'(by omega)=y at hy hc
   simp +decide only[go_sem,nT,nA,nS,nM,nB,reduceIte,reduceCtorEq,h1,h2,h15,h16,h17,hlt',hlt2,hx,hy]
   refine zC (hc) rfl rfl ?_
   by_cases hxy:x=y
   ·subst hxy
    simp +decide only[go_sem,nT,nA,nS,nM,nB,reduceIte,reduceCtorEq,h1,h2,h15,h16,h17]
    refine ⟨_,_,Ghost.trunc [1,2,15,16,17] 0 (by omega) ?_ ?_,a.length-(i+1),by omega,i+1,rfl,by omega,by rw[List.take_add_one,List.take_add_one,he,hx,hy],?_,?_,?_,?_,?_,rfl⟩
    all_goals first | (simp +decide only[go_sem,nB,reduceIte,h1,h2,h15,h16];done) | (simp +decide only[go_sem,nB,reduceIte];rw[w64 (by omega) (by omega)];rfl)
   ·have hxy' : decide (x=y)=false:=decide_eq_false hxy
    have:¬a=b:=fun e=>by rw[e,hy] at hx;exact hxy (Option.some.inj hx).symm
    rw[show decide (a=b)=false from decide_eq_false this]
    simp +decide only[go_sem,nT,nA,nS,nM,nB,reduceIte,reduceCtorEq,h1,h2,h15,h16,h17,hxy']
  ·have hlt' : ((i:Int)<(a.length:Int))=False:=by simp only[eq_iff_iff,iff_false];omega
   have:a=b:=by rw[List.take_of_length_le (by omega),List.take_of_length_le (by omega)] at he;exact he
   rw[show decide (a=b)=true from decide_eq_true this]
   simp +decide only[go_sem,nT,nA,nS,nM,nB,reduceIte,reduceCtorEq,h1,h2,h15,h16,h17,hlt']
 ·have hn' : ((a.length:Int)=(b.length:Int))=False:=by simp only[eq_iff_iff,iff_false];omega
  have:¬a=b:=fun e=>hn (by rw[e])
  rw[show decide (a=b)=false from decide_eq_false this]
  simp +decide only[go_sem,nT,nA,nS,nM,nB,reduceIte,reduceCtorEq,hn']
theorem zXu (p:Prg) (a:Ans) (ha:SmallA a):HFn Tryz.prog 41 [chkC p a] (.v (.bool (zMM a))):=by
 have hE:=zJe a.ends a.loose (by have:=ha.ends;omega) (by have:=ha.loose;omega) ha.endO ha.looseO
 have e1:decide ((a.fences.length:Int)=0)=decide (a.fences=[]):=by
  cases a.fences with
  | nil=>rfl
  | cons x l=>simp;omega
 unfold zMM
 generalize decide (a.ends=a.loose)=z at hE
 refine zA (fn:=Tryz.f41) 22 [2] (by kernel_rfl) rfl (by kernel_rfl) (HW.run 400 (by kernel_rfl) ?_)
 simp +decide only[go_sem,nT,nA,nS,nM,nB,reduceIte,reduceCtorEq]
 refine HW.tree 1 (.light 0 (.light 1 (.light 2 (.light 3 (.light 4 (.light 5 (.light 6 (.light 7 (.light 8 (.light 9 (.light 10 (.light 11 (.light 12 (.light 13 (.light 14 (.light 15 (.light 16 (.heavy 17 [0,1,2,3,4,5,6] (.light 18 (.light 19 .leaf)) .stop)))))))))))))))))) follows (by kernel_rfl) (by kernel_rfl) ?_
 simp +decide only[go_sem,nT,nA,nS,nM,nB,reduceIte,reduceCtorEq,e1]
 refine zC (hE) rfl rfl ?_
 simp +decide only[go_sem,nT,nA,nS,nM,nB,reduceIte,reduceCtorEq,e1]
set_option maxHeartbeats 4000000 in
theorem zXs (p:Prg) (a:Ans) (ha:SmallA a):HFn Tryz.prog 38 [chkC p a] (.v (.bool (zHD a))):=by
 have h1:=zSO a.ends (by have:=ha.ends;omega) ha.endO
 have h2:=zSO a.loose (by have:=ha.loose;omega) ha.looseO
 unfold zHD
 refine zA (fn:=Tryz.f38) 32 [2] (by kernel_rfl) rfl (by kernel_rfl) (HW.run 400 (by kernel_rfl) ?_)
 simp +decide only[go_sem,nT,nA,nS,nM,nB,reduceIte,reduceCtorEq]
 refine HW.tree 1 (.light 0 (.light 1 (.light 2 (.light 3 (.light 4 (.heavy 5 [] (.light 6 (.light 7 (.light 8 (.light 9 (.light 10 (.light 11 (.heavy 12 [] (.light 13 (.light 14 (.light 15 (.light 16 (.light 17 (.light 18 (.light 19 (.light 20 (.light 21 (.light 22 (.light 23 (.light 24 (.heavy 25 [] (.light 26 (.light 27 (.light 28 (.light 29 .leaf)))) .stop))))))))))))) .stop))))))) .stop)))))) follows (by kernel_rfl) (by kernel_rfl) ?_
 simp +decide only[go_sem,nT,nA,nS,nM,nB,reduceIte,reduceCtorEq]
 refine zC (h1) rfl rfl ?_
 cases hb:setO a.ends with
 | false =>
  simp +decide only[go_sem,nT,nA,nS,nM,nB,reduceIte,reduceCtorEq]
  rfl
 | true =>
  simp +decide only[go_sem,nT,nA,nS,nM,nB,reduceIte,reduceCtorEq]
  refine zC (h2) rfl rfl ?_
  cases hb2:setO a.loose with
  | false =>
   simp +decide only[go_sem,nT,nA,nS,nM,nB,reduceIte,reduceCtorEq]
   rfl
  | true =>
   have h3:=zSP a.ends a.loose (by have:=ha.ends;omega) (by have:=ha.loose;omega) (zF8.1 hb2) ha.endO ha.looseO
   have e:decide (((zBM a.ends a.loose).length:Int)=0)=(zBM a.ends a.loose).isEmpty:=by
    cases zBM a.ends a.loose with
    | nil=>rfl
    | cons x l=>simp;omega
   simp +decide only[go_sem,nT,nA,nS,nM,nB,reduceIte,reduceCtorEq]
   refine zC (h3) rfl rfl ?_
   simp +decide only[go_sem,nT,nA,nS,nM,nB,reduceIte,reduceCtorEq,e]
end Go.Proofs.YtoknohandclcbaaGreat
namespace Go.Proofs.YtoknohandclcbaaGreat
open Go.RowKit
set_option maxRecDepth 8000
theorem zNa:∀(l:List Thd),(∀t∈l,t.regs.length≤1000)→(l.flatMap (·.regs)).length≤1000*l.length
 | [],_=>by simp
 | t::l,h=>by
  have:=zNa l fun t ht=>h t (by simp[ht])
  have:=h t (by simp)
  simp only[List.flatMap_cons,List.length_append,List.length_cons]
  omega
theorem zGg {p:Prg} (hp:RightP p) {l:List Pck} {o:Ot} (h:zHU p l=some o):SmallO o:=by
 obtain ⟨_,_,rfl⟩:=zQ1 h
 have hs:RightS p (runW p (zG p) l).1:=zDC (weak:=true) hp l (zG p) zAk
 have h1:=hs.mem
 have h2:=hs.ths
 have h3:=hp.init
 have h4:=hp.thr
 have h5:=zNa _ (zEf hs)
 exact ⟨by show (runW p (zG p) l).1.mem.length≤_;omega,by show (zF0 (runW p (zG p) l).1).length≤_;unfold zF0;omega⟩
abbrev z2P (x:Prf):HObj:=⟨50,4,[[.sl (pcks x.picks),.sl (ints x.out.mem),.sl (ints x.out.regs),.sl (ints x.slots)]]⟩
def zET:Option Ot→List HV
 | none=>[.v (.slice none 0 0),.v (.slice none 0 0)]
 | some o=>[.sl (ints o.mem),.sl (ints o.regs)]
set_option maxHeartbeats 8000000 in
theorem zUS (p:Prg) (a:Ans) (x:Prf) (hp:RightP p) (ha:SmallA a) (hs1:SetO a.ends) (hs2:SetO a.loose) (hx:x∈a.proofs):HFn Tryz.prog 71 [chkC p a,prfH x] (.v (.bool (zBH p a x))):=by
 have hE:HFn Tryz.prog 108 [prgH p,.sl (pcks x.picks),.v (.bool true)] (endR (zHU p x.picks)):=zYt p x.picks true hp (by have:=ha.picks x hx;omega)
 have hC:HFn Tryz.prog 109 [prgH p,.sl (pcks x.picks)] (.tu [.sl (ints (zEW p x.picks)),.v (.bool (zAS p (zG p) [] x.picks).isSome)]):=HFn.shut (zQ7 p x.picks hp (ha.picks x hx)) (by simp only[fzo,fzoL,zAO];rfl)
 have hcl:(zEW p x.picks).length≤1000000:=by
  have:=zKw (p:=p) (l:=x.picks)
  have:=ha.picks x hx
  show ((zAS p (zG p) [] x.picks).getD []).length≤_
  omega
 have hQ:=zFn (zEW p x.picks) x.slots hcl (by have:=ha.slots x hx;omega)
 have hxo:=ha.outs x hx
 have hse:∀o,zHU p x.picks=some o→SmallO o:=fun o h=>zGg hp h
 unfold zBH
 generalize zHU p x.picks=eo at hE hse
 generalize (zAS p (zG p) [] x.picks).isSome=cb at hC
 generalize zEW p x.picks=cr at hC hQ hcl
 refine zA (fn:=Tryz.f71) 61 [4] (by kernel_rfl) rfl (by kernel_rfl) (HW.run 400 (by kernel_rfl) ?_)
 simp +decide only[go_sem,nT,nA,nS,nM,nB,reduceIte,reduceCtorEq]
 refine HW.treeI (fun T H=>T 0=chkC p a∧T 3=.pt 0 1 0 0∧T 5=.pt 1 1 0 0∧T 6=.v (.bool eo.isSome)∧H=[some (z2P x),some ⟨44,2,[zET eo]⟩]) (.light 0 (.light 1 (.light 2 (.light 3 (.light 4 (.light 5 (.heavy 6 [] (.light 7 (.light 8 (.light 9 (.heavy 10 [0,1,2,3,4,5,7,8,9] (.heavy 11 [9] (.light 12 .leaf) .stop) .stop)))) (.heavy 10 [0,1,2,3,4,5] (.heavy 6 [] (.light 7 (.light 8 (.light 9 (.heavy 11 [9] (.light 12 .leaf) .stop)))) .stop) .stop)))))))) follows (by kernel_rfl) (by kernel_rfl) ?_ ?_
 ·cases eo with
  | none =>
   simp only[endR] at hE
   simp +decide only[go_sem,nT,nA,nS,nM,nB,reduceIte,reduceCtorEq]
   refine ⟨?_,?_⟩
   all_goals
    refine zC (hE) rfl rfl ?_
    simp +decide only[go_sem,nT,nA,nS,nM,nB,reduceIte,reduceCtorEq]
    refine GQ.done ⟨?_,?_,?_,?_,rfl⟩
    all_goals first | (simp +decide only[go_sem,nB,reduceIte];done) | rfl
  | some o =>
   simp only[endR] at hE
   simp +decide only[go_sem,nT,nA,nS,nM,nB,reduceIte,reduceCtorEq]
   refine ⟨?_,?_⟩
   all_goals
    refine zC (hE) rfl rfl ?_
    simp +decide only[go_sem,nT,nA,nS,nM,nB,reduceIte,reduceCtorEq]
    refine GQ.done ⟨?_,?_,?_,?_,rfl⟩
    all_goals first | (simp +decide only[go_sem,nB,reduceIte];done) | rfl
 rintro T H ⟨h0,h3,h5,h6,rfl⟩
 simp +decide only[go_sem,nT,nA,nS,nM,nB,reduceIte,reduceCtorEq,h0,h3,h5,h6]
 refine HW.tree 1 (.light 0 (.light 1 (.light 2 (.light 3 (.light 4 (.light 5 (.heavy 6 [] (.light 7 (.light 8 (.light 9 (.light 10 (.light 11 .leaf))))) .stop))))))) follows (by kernel_rfl) (by kernel_rfl) ?_
 simp +decide only[go_sem,nT,nA,nS,nM,nB,reduceIte,reduceCtorEq,h0,h3,h5,h6]
 refine zC (hC) rfl rfl ?_
 simp +decide only[go_sem,nT,nA,nS,nM,nB,reduceIte,reduceCtorEq,h0,h3,h5,h6]
 refine HW.tree 1 (.light 0 (.light 1 (.light 2 (.light 3 (.light 4 (.heavy 5 [] (.light 6 (.light 7 (.light 8 (.light 9 (.light 10 (.heavy 11 [] (.light 12 (.light 13 (.light 14 (.light 15 (.light 16 (.light 17 (.light 18 (.light 19 (.heavy 20 [] (.light 21 (.light 22 (.light 23 (.light 24 (.light 25 (.light 26 (.light 27 (.light 28 (.light 29 (.heavy 30 [] (.light 31 (.light 32 .leaf)) .stop)))))))))) .stop))))))))) .stop)))))) .stop)))))) follows (by kernel_rfl) (by kernel_rfl) ?_
 cases eo with
 | none =>
  simp +decide only[go_sem,nT,nA,nS,nM,nB,reduceIte,reduceCtorEq,h0,h3,h5,h6,Option.isSome_none]
 | some o =>
  have hso:=hse o rfl
  have h1:=zOO o x.out hso hxo
  have h2:=zMJ a.ends o (by have:=ha.ends;omega) hs1 ha.endO hso
  have h4:=zMJ a.loose o (by have:=ha.loose;omega) hs2 ha.looseO hso
  simp only
  generalize decide (o=x.out)=b1 at h1
  generalize decide (cr=x.slots)=b2 at hQ
  generalize hasO a.ends o=b3 at h2
  generalize hasO a.loose o=b4 at h4
  simp +decide only[go_sem,nT,nA,nS,nM,nB,reduceIte,reduceCtorEq,h0,h3,h5,h6,Option.isSome_some,zET]
  refine zC (h1) rfl rfl ?_
  cases b1 with
  | false =>
   simp +decide only[go_sem,nT,nA,nS,nM,nB,reduceIte,reduceCtorEq,h0,h3,h5,h6,zET]
   rfl
  | true =>
   simp +decide only[go_sem,nT,nA,nS,nM,nB,reduceIte,reduceCtorEq,h0,h3,h5,h6,zET]
   refine zC (hQ) rfl rfl ?_
   cases b2 with
   | false =>
    simp +decide only[go_sem,nT,nA,nS,nM,nB,reduceIte,reduceCtorEq,h0,h3,h5,h6,zET]
    rfl
   | true =>
    simp +decide only[go_sem,nT,nA,nS,nM,nB,reduceIte,reduceCtorEq,h0,h3,h5,h6,zET]
    refine zC (h2) rfl rfl ?_
    cases b3 with
    | true =>
     simp +decide only[go_sem,nT,nA,nS,nM,nB,reduceIte,reduceCtorEq,h0,h3,h5,h6,zET]
     rfl
    | false =>
     simp +decide only[go_sem,nT,nA,nS,nM,nB,reduceIte,reduceCtorEq,h0,h3,h5,h6,zET]
     refine zC (h4) rfl rfl ?_
     simp +decide only[go_sem,nT,nA,nS,nM,nB,reduceIte,reduceCtorEq,h0,h3,h5,h6,zET]
end Go.Proofs.YtoknohandclcbaaGreat
namespace Go.Proofs.YtoknohandclcbaaGreat
open Go.RowKit
set_option maxRecDepth 8000
theorem zMw (p:Prg) (a:Ans) (x:Prf) (hp:RightP p) (ha:SmallA a) (hs1:SetO a.ends) (hs2:SetO a.loose) (hx:x∈a.proofs):HFn Tryz.prog 70 [prfH x,.fp [[chkC p a]] 0 0] (.v (.bool (!zBH p a x))):=by
 have h:=zUS p a x hp ha hs1 hs2 hx
 refine zA (fn:=Tryz.f70) 8 [3] (by kernel_rfl) rfl (by kernel_rfl) (HW.run 400 (by kernel_rfl) ?_)
 simp +decide only[go_sem,nT,nA,nS,nM,nB,reduceIte,reduceCtorEq]
 refine zC (h) rfl rfl ?_
 simp +decide only[go_sem,nT,nA,nS,nM,nB,reduceIte,reduceCtorEq]
theorem zQc (p:Prg) (a:Ans) (hp:RightP p) (ha:SmallA a) (hs1:SetO a.ends) (hs2:SetO a.loose):HFn Tryz.prog 39 [chkC p a] (.v (.bool (a.proofs.all (zBH p a)))):=by
 have h:=conP a.proofs 70 [.fp [[chkC p a]] 0 0] (fun x=>!zBH p a x) (by have:=ha.proofs;omega) (fun x _=>rfl) rfl (fun i x hx _=>zMw p a x hp ha hs1 hs2 (List.mem_of_getElem? hx))
 have e:a.proofs.all (zBH p a) = !(a.proofs.any fun x=>!zBH p a x):=by rw[List.all_eq_not_any_not]
 rw[e]
 generalize (a.proofs.any fun x=>!zBH p a x)=b at h
 refine zA (fn:=Tryz.f39) 11 [2] (by kernel_rfl) rfl (by kernel_rfl) (HW.run 400 (by kernel_rfl) ?_)
 simp +decide only[go_sem,nT,nA,nS,nM,nB,reduceIte,reduceCtorEq]
 refine zJ 3 h (by simp only[go_sem];rfl) rfl ?_
 simp +decide only[go_sem,nT,nA,nS,nM,nB,reduceIte,reduceCtorEq]
set_option maxHeartbeats 4000000 in
theorem zXt (a:Ans) (ha:a.proofs.length≤100000):HFn Tryz.prog 73 [ansH a] (.sl (rws (zAI a.proofs))):=by
 refine HFn.shut (R:=.ow 22 1 (rws (zAI a.proofs))) ?_ (by simp only[fzo,zIR])
 refine zA (fn:=Tryz.f73) 20 [2] (by kernel_rfl) rfl (by kernel_rfl) (HW.run 400 (by kernel_rfl) ?_)
 simp +decide only[go_sem,nT,nA,nS,nM,nB,reduceIte,reduceCtorEq]
 refine HW.loopG (fun k T H=>∃i:Nat,k=a.proofs.length-i∧i≤a.proofs.length∧T 3=.hd 1 0 (zAI (a.proofs.take i)).length∧T 7=.sl (pfs a.proofs)∧T 8=.v (.int .i64 a.proofs.length)∧T 9=.v (.int .i64 i)∧
  H=[some ⟨29,5,[[.sl (ints a.fences),.sl (pfs a.proofs),.sl (ots a.ends),.sl (ots a.loose),.v (.int .i64 a.states)]]⟩,some ⟨22,1,rws (zAI (a.proofs.take i))⟩]) a.proofs.length
  ⟨_,_,Ghost.nil 3 22 1 rfl,0,rfl,by omega,?_,?_,?_,?_,rfl⟩ ?_
 ·simp +decide only[go_sem,nB,reduceIte]
  rfl
 ·simp +decide only[go_sem,nB,reduceIte]
 ·simp +decide only[go_sem,nB,reduceIte]
 ·simp +decide only[go_sem,nB,reduceIte]
  rfl
 rintro k T H ⟨i,rfl,hi,h3,h7,h8,h9,rfl⟩
 refine HW.run 200 (by kernel_rfl) ?_
 by_cases hlt:i<a.proofs.length
 ·have hlt' : ((i:Int)<(a.proofs.length:Int))=True:=by simp only[eq_iff_iff,iff_true];omega
  have hx:a.proofs[i]?=some a.proofs[i]:=List.getElem?_eq_getElem hlt
  have htk:zAI (a.proofs.take (i+1))=zAI (a.proofs.take i)++[(a.proofs[i]).slots]:=by
   unfold zAI;rw[List.take_add_one,hx,List.map_append];rfl
  generalize a.proofs[i]=x at hx htk
  have hln:(zAI (a.proofs.take i)).length≤100000:=by unfold zAI;simp;omega
  simp +decide only[go_sem,nT,nA,nS,nM,nB,reduceIte,reduceCtorEq,h3,h7,h8,h9,hlt',hx]
  repeat (with_reducible refine And.intro ?_ ?_;·(with_reducible and_intros) <;> omega)
  refine ⟨_,_,Ghost.trunc [3,7,8,9] 2 (by omega) ?_ ?_,a.proofs.length-(i+1),by omega,i+1,rfl,by omega,?_,?_,?_,?_,?_⟩
  all_goals first | (simp +decide only[go_sem,nB,reduceIte,h3,h7,h8];done) | (simp +decide only[go_sem,nB,reduceIte];rw[w64 (by omega) (by omega)];rfl) | (simp +decide only[go_sem,nT,nA,nS,nM,nB,reduceIte,reduceCtorEq,htk,List.length_append];done)
 ·have hlt' : ((i:Int)<(a.proofs.length:Int))=False:=by simp only[eq_iff_iff,iff_false];omega
  have e:a.proofs.take i=a.proofs:=List.take_of_length_le (by omega)
  simp +decide only[go_sem,nT,nA,nS,nM,nB,reduceIte,reduceCtorEq,h3,h7,h8,h9,hlt',e]
theorem zUT (p:Prg) (a:Ans) (ha:SmallA a):HFn Tryz.prog 40 [chkC p a] (.v (.bool (zGT a))):=by
 have hr:=zXt a (by have:=ha.proofs;omega)
 have hL:=zWp (zAI a.proofs) (by unfold zAI;simp;have:=ha.proofs;omega) (fun r h=>by
  unfold zAI at h
  obtain ⟨x,hx,rfl⟩:=List.mem_map.1 h
  exact ha.slots x hx) ha.all
 have hlen:∀r,zB8 (zAI a.proofs)=(r,true)→r.length≤1000000:=fun r h=>by
  obtain ⟨n,hn,_⟩:=(zGS h).2
  obtain ⟨_,s,e,_,hsub⟩:=zDp _ _ _ _ _ hn
  rw[List.nil_append] at e
  subst e
  have h1:=hsub.length_le
  have h2:=zFf (zAI a.proofs)
  have h3:=ha.all
  omega
 unfold zGT
 generalize zB8 (zAI a.proofs)=R at hL hlen
 generalize zAI a.proofs=sr at hr hL
 obtain ⟨r,b⟩:=R
 cases b with
 | false =>
  simp only[zGR] at hL
  refine zA (fn:=Tryz.f40) 24 [2] (by kernel_rfl) rfl (by kernel_rfl) (HW.run 400 (by kernel_rfl) ?_)
  simp +decide only[go_sem,nT,nA,nS,nM,nB,reduceIte,reduceCtorEq]
  refine zC (hr) rfl rfl ?_
  simp +decide only[go_sem,nT,nA,nS,nM,nB,reduceIte,reduceCtorEq]
  refine zC (hL) rfl rfl ?_
  simp +decide only[go_sem,nT,nA,nS,nM,nB,reduceIte,reduceCtorEq]
  rfl
 | true =>
  simp only[zGR] at hL
  have hQ:=zFn r a.fences (hlen r rfl) (by have:=ha.fences;omega)
  refine zA (fn:=Tryz.f40) 24 [2] (by kernel_rfl) rfl (by kernel_rfl) (HW.run 400 (by kernel_rfl) ?_)
  simp +decide only[go_sem,nT,nA,nS,nM,nB,reduceIte,reduceCtorEq]
  refine zC (hr) rfl rfl ?_
  simp +decide only[go_sem,nT,nA,nS,nM,nB,reduceIte,reduceCtorEq]
  refine zC (hL) rfl rfl ?_
  simp +decide only[go_sem,nT,nA,nS,nM,nB,reduceIte,reduceCtorEq]
  refine zC (hQ) rfl rfl ?_
  simp +decide only[go_sem,nT,nA,nS,nM,nB,reduceIte,reduceCtorEq]
end Go.Proofs.YtoknohandclcbaaGreat
namespace Go.Proofs.YtoknohandclcbaaGreat
open Go.RowKit
set_option maxRecDepth 8000
theorem zMQ {a b:List Ot} {i:Nat} {x:Ot} (hx:a[i]?=some x):zBM (a.take (i+1)) b=if hasO b x=true then zBM (a.take i) b else zBM (a.take i) b++[x]:=zEr hx
set_option maxHeartbeats 4000000 in
theorem zVt (a b:List Ot) (ha:a.length≤1000000) (hb:b.length≤1000000) (hsa:∀x∈a,SmallO x) (hsb:∀x∈b,SmallO x):HFn Tryz.prog 26 [.sl (ots a),.sl (ots b)] (.ow 44 2 (ots (zBM a b))):=by
 refine zA (fn:=Tryz.f26) 28 [4] (by kernel_rfl) rfl (by kernel_rfl) (HW.run 400 (by kernel_rfl) ?_)
 simp +decide only[go_sem,nT,nA,nS,nM,nB,reduceIte,reduceCtorEq]
 refine HW.loopG (fun k T H=>∃i:Nat,k=a.length-i∧i≤a.length∧T 0=.sl (ots a)∧T 1=.sl (ots b)∧T 5=.hd 0 0 (zBM (a.take i) b).length∧T 6=.v (.int .i64 i)∧H=[some ⟨44,2,ots (zBM (a.take i) b)⟩]) a.length ⟨_,_,Ghost.nil 5 44 2 rfl,0,rfl,by omega,?_,?_,?_,?_,rfl⟩ ?_
 iterate 4 first | (simp +decide only[go_sem,nB,reduceIte];done) | exact rfl
 rintro k T H ⟨i,rfl,hi,h0,h1,h5,h6,rfl⟩
 refine HW.run 200 (by kernel_rfl) ?_
 by_cases hlt:i<a.length
 ·have hlt' : ((i:Int)<(a.length:Int))=True:=by simp only[eq_iff_iff,iff_true];omega
  have hx:a[i]?=some a[i]:=List.getElem?_eq_getElem hlt
  have hc:=zMC b _ hb hsb (hsa _ (List.getElem_mem hlt))
  generalize a[i]=x at hx hc
  have htk:=zMQ (b:=b) hx
  have hln:(zBM (a.take i) b).length≤i:=by
   have:=List.length_filter_le (fun o=>!hasO b o) (a.take i)
   simp only[List.length_take] at this
   unfold zBM;omega
  simp +decide only[go_sem,nT,nA,nS,nM,nB,reduceIte,reduceCtorEq,h0,h1,h5,h6,hlt',hx]
  refine zC (hc) rfl rfl ?_
  cases hh:hasO b x with
  | true =>
   rw[if_pos hh] at htk
   simp +decide only[go_sem,nT,nA,nS,nM,nB,reduceIte,reduceCtorEq,h0,h1,h5,h6]
   refine ⟨_,_,Ghost.refl,a.length-(i+1),by omega,i+1,rfl,by omega,?_,?_,?_,?_,?_⟩
   all_goals first | (simp +decide only[go_sem,nB,reduceIte,h0,h1,h5];done) | (simp +decide only[go_sem,nB,reduceIte,h5,htk];done) | (simp +decide only[go_sem,nB,reduceIte];rw[w64 (by omega) (by omega)];rfl) | (rw[htk];done)
  | false =>
   rw[if_neg (by rw[hh];simp)] at htk
   simp +decide only[go_sem,nT,nA,nS,nM,nB,reduceIte,reduceCtorEq,h0,h1,h5,h6,hlt',hx]
   repeat (with_reducible refine And.intro ?_ ?_;·(with_reducible and_intros) <;> omega)
   refine ⟨_,_,Ghost.trunc [0,1,5,6] 1 (by omega) ?_ ?_,a.length-(i+1),by omega,i+1,rfl,by omega,?_,?_,?_,?_,?_⟩
   all_goals first | (simp +decide only[go_sem,nB,reduceIte,h0,h1,h5];done) | (simp +decide only[go_sem,nB,reduceIte];rw[w64 (by omega) (by omega)];rfl) | (simp +decide only[go_sem,nT,nA,nS,nM,nB,reduceIte,reduceCtorEq,htk,List.length_append];done)
 ·have hlt' : ((i:Int)<(a.length:Int))=False:=by simp only[eq_iff_iff,iff_false];omega
  have e:a.take i=a:=List.take_of_length_le (by omega)
  simp +decide only[go_sem,nT,nA,nS,nM,nB,reduceIte,reduceCtorEq,h0,h1,h5,h6,hlt',e]
theorem zSp {n x:Int} {l:List Int} {i:Nat} (hx:l[i]?=some x):insI n (l.drop i)=if n<x then n::x::l.drop (i+1) else if n=x then x::l.drop (i+1) else x::insI n (l.drop (i+1)):=by
 obtain ⟨h1,e1⟩:=List.getElem?_eq_some_iff.1 hx
 rw[List.drop_eq_getElem_cons h1,e1,insI]
set_option maxHeartbeats 4000000 in
theorem zZJ (g:List Int) (l:List (List Int)) (hg:g.length≤1000000) (hl:l.length≤1000000) (hr:∀r∈l,r.length≤1000000):HFn Tryz.prog 116 [.sl (ints g),.sl (rws l)] (.v (.bool (zB3 g l))):=by
 refine zA (fn:=Tryz.f116) 19 [4] (by kernel_rfl) rfl (by kernel_rfl) (HW.run 400 (by kernel_rfl) ?_)
 simp +decide only[go_sem,nT,nA,nS,nM,nB,reduceIte,reduceCtorEq]
 refine HW.loopG (fun k T H=>∃i:Nat,k=l.length-i∧i≤l.length∧zB3 g (l.take i)=true∧T 0=.sl (ints g)∧T 1=.sl (rws l)∧T 5=.v (.int .i64 i)∧H=[]) l.length ⟨_,_,Ghost.refl,0,rfl,by omega,rfl,rfl,rfl,rfl,rfl⟩ ?_
 rintro k T H ⟨i,rfl,hi,hI,h0,h1,h5,rfl⟩
 refine HW.run 200 (by kernel_rfl) ?_
 by_cases hlt:i<l.length
 ·have hlt' : ((i:Int)<(l.length:Int))=True:=by simp only[eq_iff_iff,iff_true];omega
  have hx:l[i]?=some l[i]:=List.getElem?_eq_getElem hlt
  have hc:=zRy l[i] g (hr _ (List.getElem_mem hlt)) hg
  generalize l[i]=x at hx hc
  have htk:zB3 g (l.take (i+1))=zAe x g:=by
   unfold zB3 at hI⊢
   rw[List.take_add_one,hx,List.all_append,hI];simp
  simp +decide only[go_sem,nT,nA,nS,nM,nB,reduceIte,reduceCtorEq,h0,h1,h5,hlt',hx]
  refine zC (hc) rfl rfl ?_
  cases hb:zAe x g with
  | true =>
   simp +decide only[go_sem,nT,nA,nS,nM,nB,reduceIte,reduceCtorEq,h0,h1,h5]
   refine ⟨_,_,Ghost.refl,l.length-(i+1),by omega,i+1,rfl,by omega,by rw[htk,hb],?_,?_,?_,rfl⟩
   all_goals first | (simp +decide only[go_sem,nB,reduceIte,h0,h1];done) | (simp +decide only[go_sem,nB,reduceIte];rw[w64 (by omega) (by omega)];rfl)
  | false =>
   have:zB3 g l=false:=by
    unfold zB3
    rw[List.all_eq_false]
    exact ⟨x,List.mem_of_getElem? hx,by rw[hb];simp⟩
   rw[this]
   simp +decide only[go_sem,nT,nA,nS,nM,nB,reduceIte,reduceCtorEq,h0,h1,h5]
 ·have hlt' : ((i:Int)<(l.length:Int))=False:=by simp only[eq_iff_iff,iff_false];omega
  rw[List.take_of_length_le (by omega)] at hI
  rw[hI]
  simp +decide only[go_sem,nT,nA,nS,nM,nB,reduceIte,reduceCtorEq,h0,h1,h5,hlt']
set_option maxHeartbeats 4000000 in
theorem zRv (l:List Prf) (hl:l.length≤100000):HFn Tryz.prog 30 [.sl (pfs l)] (.sl (rws (zAI l))):=by
 refine HFn.shut (R:=.ow 22 1 (rws (zAI l))) ?_ (by simp only[fzo,zIR])
 refine zA (fn:=Tryz.f30) 20 [2] (by kernel_rfl) rfl (by kernel_rfl) (HW.run 400 (by kernel_rfl) ?_)
 simp +decide only[go_sem,nT,nA,nS,nM,nB,reduceIte,reduceCtorEq]
 refine HW.loopG (fun k T H=>∃i:Nat,k=l.length-i∧i≤l.length∧T 0=.sl (pfs l)∧T 3=.hd 0 0 (zAI (l.take i)).length∧T 4=.v (.int .i64 i)∧H=[some ⟨22,1,rws (zAI (l.take i))⟩]) l.length ⟨_,_,Ghost.nil 3 22 1 rfl,0,rfl,by omega,?_,?_,?_,rfl⟩ ?_
 iterate 3 first | (simp +decide only[go_sem,nB,reduceIte];done) | exact rfl
 rintro k T H ⟨i,rfl,hi,h0,h3,h4,rfl⟩
 refine HW.run 200 (by kernel_rfl) ?_
 by_cases hlt:i<l.length
 ·have hlt' : ((i:Int)<(l.length:Int))=True:=by simp only[eq_iff_iff,iff_true];omega
  have hx:l[i]?=some l[i]:=List.getElem?_eq_getElem hlt
  have htk:zAI (l.take (i+1))=zAI (l.take i)++[(l[i]).slots]:=by
   unfold zAI;rw[List.take_add_one,hx,List.map_append];rfl
  generalize l[i]=x at hx htk
  have hln:(zAI (l.take i)).length≤100000:=by unfold zAI;simp;omega
  simp +decide only[go_sem,nT,nA,nS,nM,nB,reduceIte,reduceCtorEq,h0,h3,h4,hlt',hx]
  repeat (with_reducible refine And.intro ?_ ?_;·(with_reducible and_intros) <;> omega)
  refine ⟨_,_,Ghost.trunc [0,3,4] 1 (by omega) ?_ ?_,l.length-(i+1),by omega,i+1,rfl,by omega,?_,?_,?_,?_⟩
  all_goals first | (simp +decide only[go_sem,nB,reduceIte,h0,h3];done) | (simp +decide only[go_sem,nB,reduceIte];rw[w64 (by omega) (by omega)];rfl) | (simp +decide only[go_sem,nT,nA,nS,nM,nB,reduceIte,reduceCtorEq,htk,List.length_append];done)
 ·have hlt' : ((i:Int)<(l.length:Int))=False:=by simp only[eq_iff_iff,iff_false];omega
  have e:l.take i=l:=List.take_of_length_le (by omega)
  simp +decide only[go_sem,nT,nA,nS,nM,nB,reduceIte,reduceCtorEq,h0,h3,h4,hlt',e]
end Go.Proofs.YtoknohandclcbaaGreat
