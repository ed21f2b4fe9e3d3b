/- Parts of the proof: Ic, Gn, Gc, Gg, Gp, Gq, Gh, Gi, Gj. -/
import Derived.Test.YtoknohandclcbaaGreatZc11
import Derived.Test.YtoknohandclcbaaGreatZc07
import Derived.Test.YtoknohandclcbaaGreatZc10
import Derived.WalkSmall
import Derived.Test.YtoknohandclcbaaGreatZc08
import Derived.Tactics
import Derived.Tactics2
import Derived.Defers
import Derived.Recover
open Nat renaming reduceAdd → nA, reduceSub → nS, reduceMul → nM, reduceBEq → nB
open Int renaming reduceToNat → nT
set_option linter.unusedSectionVars false
set_option linter.unusedVariables false
set_option linter.unusedSimpArgs false
namespace Go.Proofs.YtoknohandclcbaaGreat
open Go.RowKit
set_option maxRecDepth 8000
theorem zEa (a b:Ot) (ha:SmallO a) (hb:SmallO b):HFn Tryz.prog 53 [otH a,otH b] (.v (.bool (decide (a=b)))):=by
 have h1:=zD4 a.mem b.mem (by have:=ha.mem;omega)
 have h2:=zD4 a.regs b.regs (by have:=ha.regs;omega)
 have e:decide (a=b)=(decide (a.mem=b.mem) && decide (a.regs=b.regs)):=by
  obtain ⟨am,ar⟩:=a
  obtain ⟨bm,br⟩:=b
  simp
 rw[e]
 generalize decide (a.mem=b.mem)=x at h1
 generalize decide (a.regs=b.regs)=y at h2
 refine zB (fn:=Tryz.f53) 17 [4] (by kernel_rfl) rfl (by kernel_rfl) (HW.run 400 (by kernel_rfl) ?_)
 simp +decide only[go_sem,nT,nA,nS,nM,nB,reduceIte,reduceCtorEq]
 refine zD (h1) rfl rfl ?_
 cases x with
 | false =>
  simp +decide only[go_sem,nT,nA,nS,nM,nB,reduceIte,reduceCtorEq]
  rfl
 | true =>
  simp +decide only[go_sem,nT,nA,nS,nM,nB,reduceIte,reduceCtorEq]
  refine zD (h2) rfl rfl ?_
  simp +decide only[go_sem,nT,nA,nS,nM,nB,reduceIte,reduceCtorEq]
theorem zQe {a b:List Int} {i:Nat} {x y:Int} (hx:a[i]?=some x) (hy:b[i]?=some y):zAN (a.drop i) (b.drop i)=if x=y then zAN (a.drop (i+1)) (b.drop (i+1)) else decide (x<y):=by
 obtain ⟨h1,e1⟩:=List.getElem?_eq_some_iff.1 hx
 obtain ⟨h2,e2⟩:=List.getElem?_eq_some_iff.1 hy
 rw[List.drop_eq_getElem_cons h1,List.drop_eq_getElem_cons h2,e1,e2,zAN]
set_option maxHeartbeats 4000000 in
theorem zN8 (a b:List Int) (ha:a.length≤1000000) (hb:b.length≤1000000):HFn Tryz.prog 87 [.sl (ints a),.sl (ints b)] (.v (.bool (zAN a b))):=by
 refine zB (fn:=Tryz.f87) 41 [4] (by kernel_rfl) rfl (by kernel_rfl) (HW.run 400 (by kernel_rfl) ?_)
 simp +decide only[go_sem,nT,nA,nS,nM,nB,reduceIte,reduceCtorEq]
 refine HW.loopG (fun k T H=>∃i:Nat,k=a.length-i∧i≤a.length∧i≤b.length∧zAN a b=zAN (a.drop i) (b.drop i)∧T 0=.sl (ints a)∧T 1=.sl (ints b)∧T 5=.v (.int .i64 i)∧H=[]) a.length ⟨_,_,Ghost.refl,0,rfl,by omega,by omega,rfl,rfl,rfl,rfl,rfl⟩ ?_
 rintro k T H ⟨i,rfl,hi,hib,hI,h0,h1,h5,rfl⟩
 refine HW.run 200 (by kernel_rfl) ?_
 by_cases hlt:i<a.length
 ·have hlt' : ((i:Int)<(a.length:Int))=True:=by simp only[eq_iff_iff,iff_true];omega
  by_cases hlb:i<b.length
  ·have hlb' : ((i:Int)<(b.length:Int))=True:=by simp only[eq_iff_iff,iff_true];omega
   have hx:a[i]?=some a[i]:=List.getElem?_eq_getElem hlt
   have hy:b[i]?=some b[i]:=List.getElem?_eq_getElem hlb
   generalize a[i]=x at hx
   generalize b[i]=y at hy
   rw[zQe hx hy] at hI
   simp +decide only[go_sem,nT,nA,nS,nM,nB,reduceIte,reduceCtorEq,h0,h1,h5,hlt',hlb']
   refine HW.tree 1 (.light 0 (.light 1 (.light 2 (.light 3 (.light 4 (.light 5 (.light 6 (.light 7 (.light 8 .leaf))))))))) follows (by kernel_rfl) (by kernel_rfl) ?_
   simp +decide only[go_sem,nT,nA,nS,nM,nB,reduceIte,reduceCtorEq,h0,h1,h5,hlt',hlb',hx,hy]
   by_cases hxy:x=y
   ·subst hxy
    rw[if_pos rfl] at hI
    simp +decide only[go_sem,nT,nA,nS,nM,nB,reduceIte,reduceCtorEq,h0,h1,h5]
    refine ⟨_,_,Ghost.refl,a.length-(i+1),by omega,i+1,rfl,by omega,by omega,hI,?_,?_,?_,rfl⟩
    all_goals first | (simp +decide only[go_sem,nB,reduceIte,h0,h1];done) | (simp +decide only[go_sem,nB,reduceIte];rw[w64 (by omega) (by omega)];rfl)
   ·rw[if_neg hxy] at hI
    have hxy' : (x=y)=False:=eq_false hxy
    rw[hI]
    simp +decide only[go_sem,nT,nA,nS,nM,nB,reduceIte,reduceCtorEq,h0,h1,h5,hxy']
    refine HW.tree 1 (.light 0 (.light 1 (.light 2 (.light 3 (.light 4 (.light 5 (.light 6 (.light 7 (.light 8 (.light 9 .leaf)))))))))) follows (by kernel_rfl) (by kernel_rfl) ?_
    simp +decide only[go_sem,nT,nA,nS,nM,nB,reduceIte,reduceCtorEq,h0,h1,h5,hlt',hlb',hx,hy]
  ·have hlb' : ((i:Int)<(b.length:Int))=False:=by simp only[eq_iff_iff,iff_false];omega
   have hge:((a.length:Int)<(b.length:Int))=False:=by simp only[eq_iff_iff,iff_false];omega
   have e:zAN (a.drop i) (b.drop i)=false:=by
    rw[List.drop_of_length_le (by omega:b.length≤i)]
    cases a.drop i <;> rfl
   rw[hI,e]
   simp +decide only[go_sem,nT,nA,nS,nM,nB,reduceIte,reduceCtorEq,h0,h1,h5,hlt',hlb',hge]
 ·have hlt' : ((i:Int)<(a.length:Int))=False:=by simp only[eq_iff_iff,iff_false];omega
  have e:zAN (a.drop i) (b.drop i)=decide ((a.length:Int)<(b.length:Int)):=by
   rw[List.drop_of_length_le (by omega:a.length≤i)]
   by_cases hlb:i<b.length
   ·rw[List.drop_eq_getElem_cons hlb]
    symm;apply decide_eq_true;omega
   ·rw[List.drop_of_length_le (by omega)]
    symm;apply decide_eq_false;omega
  rw[hI,e]
  simp +decide only[go_sem,nT,nA,nS,nM,nB,reduceIte,reduceCtorEq,h0,h1,h5,hlt']
theorem zRr (a b:Ot) (ha:SmallO a) (hb:SmallO b):HFn Tryz.prog 54 [otH a,otH b] (.v (.bool (zAv a b))):=by
 have h1:=zD4 a.mem b.mem (by have:=ha.mem;omega)
 have h2:=zN8 a.mem b.mem ha.mem hb.mem
 have h3:=zN8 a.regs b.regs ha.regs hb.regs
 unfold zAv
 generalize zAN a.mem b.mem=x at h2
 generalize zAN a.regs b.regs=y at h3
 refine zB (fn:=Tryz.f54) 21 [4] (by kernel_rfl) rfl (by kernel_rfl) (HW.run 400 (by kernel_rfl) ?_)
 by_cases hm:a.mem=b.mem
 ·rw[show decide (a.mem=b.mem)=true from decide_eq_true hm] at h1
  rw[if_pos hm]
  simp +decide only[go_sem,nT,nA,nS,nM,nB,reduceIte,reduceCtorEq]
  refine zD (h1) rfl rfl ?_
  simp +decide only[go_sem,nT,nA,nS,nM,nB,reduceIte,reduceCtorEq]
  refine zD (h3) rfl rfl ?_
  simp +decide only[go_sem,nT,nA,nS,nM,nB,reduceIte,reduceCtorEq]
 ·rw[show decide (a.mem=b.mem)=false from decide_eq_false hm] at h1
  rw[if_neg hm]
  simp +decide only[go_sem,nT,nA,nS,nM,nB,reduceIte,reduceCtorEq]
  refine zD (h1) rfl rfl ?_
  simp +decide only[go_sem,nT,nA,nS,nM,nB,reduceIte,reduceCtorEq]
  refine zD (h2) rfl rfl ?_
  simp +decide only[go_sem,nT,nA,nS,nM,nB,reduceIte,reduceCtorEq]
set_option maxHeartbeats 4000000 in
theorem zZB (l:List Ot) (o:Ot) (hl:l.length≤1000000) (hsl:∀x∈l,SmallO x) (ho:SmallO o):HFn Tryz.prog 21 [.sl (ots l),otH o] (.v (.bool (hasO l o))):=by
 refine zB (fn:=Tryz.f21) 18 [4] (by kernel_rfl) rfl (by kernel_rfl) (HW.run 400 (by kernel_rfl) ?_)
 simp +decide only[go_sem,nT,nA,nS,nM,nB,reduceIte,reduceCtorEq]
 refine HW.loopG (fun k T H=>∃i:Nat,k=l.length-i∧i≤l.length∧o∉l.take i∧T 0=.sl (ots l)∧T 3=.pt 0 1 0 0∧T 5=.v (.int .i64 i)∧H=[some ⟨44,2,[[.sl (ints o.mem),.sl (ints o.regs)]]⟩]) l.length ⟨_,_,Ghost.refl,0,rfl,by omega,by simp,rfl,rfl,rfl,rfl⟩ ?_
 rintro k T H ⟨i,rfl,hi,hno,h0,h3,h5,rfl⟩
 refine HW.run 200 (by kernel_rfl) ?_
 by_cases hlt:i<l.length
 ·have hlt' : ((i:Int)<(l.length:Int))=True:=by simp only[eq_iff_iff,iff_true];omega
  have hx:l[i]?=some l[i]:=List.getElem?_eq_getElem hlt
  have hc:=zEa _ o (hsl _ (List.getElem_mem hlt)) ho
  generalize l[i]=x at hx hc
  simp +decide only[go_sem,nT,nA,nS,nM,nB,reduceIte,reduceCtorEq,h0,h3,h5,hlt']
  refine HW.tree 1 (.light 0 (.light 1 (.light 2 (.light 3 (.light 4 (.heavy 5 [] .leaf .stop)))))) follows (by kernel_rfl) (by kernel_rfl) ?_
  simp +decide only[go_sem,nT,nA,nS,nM,nB,reduceIte,reduceCtorEq,h0,h3,h5,hlt',hx]
  refine zD (hc) rfl rfl ?_
  by_cases hxo:x=o
  ·rw[show hasO l o=true from decide_eq_true (by rw[←hxo];exact List.mem_of_getElem? hx)]
   have e:decide (x=o)=true:=decide_eq_true hxo
   simp +decide only[go_sem,nT,nA,nS,nM,nB,reduceIte,reduceCtorEq,h0,h3,h5,e]
  ·have e:decide (x=o)=false:=decide_eq_false hxo
   simp +decide only[go_sem,nT,nA,nS,nM,nB,reduceIte,reduceCtorEq,h0,h3,h5,e]
   refine ⟨_,_,Ghost.refl,l.length-(i+1),by omega,i+1,rfl,by omega,?_,?_,?_,?_,rfl⟩
   ·rw[List.take_add_one,hx]
    simp only[Option.toList_some,List.mem_append,List.mem_singleton,not_or]
    exact ⟨hno,fun e=>hxo e.symm⟩
   all_goals first | (simp +decide only[go_sem,nB,reduceIte,h0,h3];done) | (simp +decide only[go_sem,nB,reduceIte];rw[w64 (by omega) (by omega)];rfl)
 ·have hlt' : ((i:Int)<(l.length:Int))=False:=by simp only[eq_iff_iff,iff_false];omega
  rw[List.take_of_length_le (by omega)] at hno
  rw[show hasO l o=false from decide_eq_false hno]
  simp +decide only[go_sem,nT,nA,nS,nM,nB,reduceIte,reduceCtorEq,h0,h3,h5,hlt']
set_option maxHeartbeats 4000000 in
theorem zYx (l:List Ot) (hl:l.length≤1000000) (ho:∀o∈l,SmallO o):HFn Tryz.prog 23 [.sl (ots l)] (.v (.bool (setO l))):=by
 refine zB (fn:=Tryz.f23) 21 [2] (by kernel_rfl) rfl (by kernel_rfl) (HW.run 400 (by kernel_rfl) ?_)
 simp +decide only[go_sem,nT,nA,nS,nM,nB,reduceIte,reduceCtorEq]
 refine HW.loopG (fun k T H=>∃i:Nat,k=l.length-i∧i≤l.length+1∧1≤i∧setO l=setO (l.drop (i-1))∧T 0=.sl (ots l)∧T 3=.v (.int .i64 i)∧H=[]) (l.length-1) ⟨_,_,Ghost.refl,1,rfl,by omega,by omega,rfl,rfl,rfl,rfl⟩ ?_
 rintro k T H ⟨i,rfl,hil,hi1,hI,h0,h3,rfl⟩
 refine HW.run 200 (by kernel_rfl) ?_
 by_cases hlt:i<l.length
 ·have hlt' : ((i:Int)<(l.length:Int))=True:=by simp only[eq_iff_iff,iff_true];omega
  have w1:IntKind.i64.wrap ((i:Int)-1)=((i-1:Nat):Int):=by rw[w64 (by omega) (by omega)];omega
  have hlt2:(((i-1:Nat):Int)<(l.length:Int))=True:=by simp only[eq_iff_iff,iff_true];omega
  have hx:l[i]?=some l[i]:=List.getElem?_eq_getElem hlt
  have hy:l[i-1]?=some (l[i-1]'(by omega)):=List.getElem?_eq_getElem (by omega)
  have ho1:=ho _ (List.getElem_mem hlt)
  have ho2:=ho _ (List.getElem_mem (by omega:i-1<l.length))
  generalize l[i]=x at hx ho1
  generalize l[i-1]'(by omega)=y at hy ho2
  have hs:=zJ4 hy (by rw[show i-1+1=i by omega];exact hx)
  rw[show i-1+1=i by omega] at hs
  rw[hs] at hI
  have hL:=zRr y x ho2 ho1
  simp +decide only[go_sem,nT,nA,nS,nM,nB,reduceIte,reduceCtorEq,h0,h3,hlt']
  refine HW.tree 1 (.light 0 (.light 1 (.light 2 (.light 3 (.light 4 (.light 5 (.light 6 (.light 7 (.light 8 (.heavy 9 [] (.light 10 .leaf) .stop)))))))))) follows (by kernel_rfl) (by kernel_rfl) ?_
  simp +decide only[go_sem,nT,nA,nS,nM,nB,reduceIte,reduceCtorEq,h0,h3,hlt',w1,hlt2,hx,hy]
  refine zD (hL) rfl rfl ?_
  cases hb:zAv y x with
  | true =>
   rw[hb,Bool.true_and] at hI
   simp +decide only[go_sem,nT,nA,nS,nM,nB,reduceIte,reduceCtorEq,h0,h3]
   refine ⟨_,_,Ghost.refl,l.length-(i+1),by omega,i+1,rfl,by omega,by omega,by rw[hI,Nat.add_sub_cancel],?_,?_,rfl⟩
   all_goals first | (simp +decide only[go_sem,nB,reduceIte,h0];done) | (simp +decide only[go_sem,nB,reduceIte];rw[w64 (by omega) (by omega)];rfl)
  | false =>
   rw[hb,Bool.false_and] at hI
   rw[hI]
   simp +decide only[go_sem,nT,nA,nS,nM,nB,reduceIte,reduceCtorEq,h0,h3]
 ·have hlt' : ((i:Int)<(l.length:Int))=False:=by simp only[eq_iff_iff,iff_false];omega
  have:setO l=true:=by
   rw[hI]
   have hlen:(l.drop (i-1)).length≤1:=by simp;omega
   match hd:l.drop (i-1),hlen with
   | [],_=>rfl
   | [_],_=>rfl
   | _::_::_,h=>simp at h
  rw[this]
  simp +decide only[go_sem,nT,nA,nS,nM,nB,reduceIte,reduceCtorEq,h0,h3,hlt']
set_option maxHeartbeats 4000000 in
theorem zVr (a b:List Ot) (ha:a.length≤1000000) (hb:b.length≤1000000) (hsa:∀x∈a,SmallO x) (hsb:∀x∈b,SmallO x):HFn Tryz.prog 24 [.sl (ots a),.sl (ots b)] (.v (.bool (decide (a=b)))):=by
 refine zB (fn:=Tryz.f24) 27 [4] (by kernel_rfl) rfl (by kernel_rfl) (HW.run 400 (by kernel_rfl) ?_)
 by_cases hn:a.length=b.length
 ·have hn' : ((a.length:Int)=(b.length:Int))=True:=by simp only[eq_iff_iff,iff_true];omega
  simp +decide only[go_sem,nT,nA,nS,nM,nB,reduceIte,reduceCtorEq,hn']
  refine HW.loopG (fun k T H=>∃i:Nat,k=a.length-i∧i≤a.length∧a.take i=b.take i∧T 0=.sl (ots a)∧T 1=.sl (ots b)∧T 5=.v (.int .i64 i)∧H=[]) a.length ⟨_,_,Ghost.refl,0,rfl,by omega,rfl,rfl,rfl,rfl,rfl⟩ ?_
  rintro k T H ⟨i,rfl,hi,he,h0,h1,h5,rfl⟩
  refine HW.run 200 (by kernel_rfl) ?_
  by_cases hlt:i<a.length
  ·have hlt' : ((i:Int)<(a.length:Int))=True:=by simp only[eq_iff_iff,iff_true];omega
   have hlt2:((i:Int)<(b.length:Int))=True:=by simp only[eq_iff_iff,iff_true];omega
   have hx:a[i]?=some a[i]:=List.getElem?_eq_getElem hlt
   have hy:b[i]?=some (b[i]'(by omega)):=List.getElem?_eq_getElem (by omega)
   have hc:=zEa _ _ (hsa _ (List.getElem_mem hlt)) (hsb _ (List.getElem_mem (by omega:i<b.length)))
   generalize a[i]=x at hx hc
   generalize b[i]'(by omega)=y at hy hc
   simp +decide only[go_sem,nT,nA,nS,nM,nB,reduceIte,reduceCtorEq,h0,h1,h5,hlt']
   refine HW.tree 1 (.light 0 (.light 1 (.light 2 (.light 3 (.light 4 (.light 5 (.light 6 (.light 7 (.heavy 8 [] (.light 9 .leaf) .stop))))))))) follows (by kernel_rfl) (by kernel_rfl) ?_
   simp +decide only[go_sem,nT,nA,nS,nM,nB,reduceIte,reduceCtorEq,h0,h1,h5,hlt',hlt2,hx,hy]
   refine zD (hc) rfl rfl ?_
   by_cases hxy:x=y
   ·subst hxy
    simp +decide only[go_sem,nT,nA,nS,nM,nB,reduceIte,reduceCtorEq,h0,h1,h5]
    refine ⟨_,_,Ghost.refl,a.length-(i+1),by omega,i+1,rfl,by omega,by rw[List.take_add_one,List.take_add_one,he,hx,hy],?_,?_,?_,rfl⟩
    all_goals first | (simp +decide only[go_sem,nB,reduceIte,h0,h1];done) | (simp +decide only[go_sem,nB,reduceIte];rw[w64 (by omega) (by omega)];rfl)
   ·have hxy' : decide (x=y)=false:=decide_eq_false hxy
    have:¬a=b:=fun e=>by rw[e,hy] at hx;exact hxy (Option.some.inj hx).symm
    rw[show decide (a=b)=false from decide_eq_false this]
    simp +decide only[go_sem,nT,nA,nS,nM,nB,reduceIte,reduceCtorEq,h0,h1,h5,hxy']
  ·have hlt' : ((i:Int)<(a.length:Int))=False:=by simp only[eq_iff_iff,iff_false];omega
   have:a=b:=by rw[List.take_of_length_le (by omega),List.take_of_length_le (by omega)] at he;exact he
   rw[show decide (a=b)=true from decide_eq_true this]
   simp +decide only[go_sem,nT,nA,nS,nM,nB,reduceIte,reduceCtorEq,h0,h1,h5,hlt']
 ·have hn' : ((a.length:Int)=(b.length:Int))=False:=by simp only[eq_iff_iff,iff_false];omega
  have:¬a=b:=fun e=>hn (by rw[e])
  rw[show decide (a=b)=false from decide_eq_false this]
  simp +decide only[go_sem,nT,nA,nS,nM,nB,reduceIte,reduceCtorEq,hn']
end Go.Proofs.YtoknohandclcbaaGreat
namespace Go.Proofs.YtoknohandclcbaaGreat
open Go.RowKit
set_option maxRecDepth 8000
abbrev z2C (o:Ot):HObj:=⟨44,2,[[.sl (ints o.mem),.sl (ints o.regs)]]⟩
set_option maxHeartbeats 8000000 in
theorem zPQ (l:List Ot) (o:Ot) (hl:l.length≤1000000) (hs:SetO l) (hsm:∀x∈l,SmallO x) (ho:SmallO o):HFn Tryz.prog 134 [.sl (ots l),otH o,.fn 135 []] (.tu [.v (.int .i64 (posO l o)),.v (.bool (hasO l o))]):=by
 have hpl:=zZF l o
 have hq1:=fun i x=>zIU (o:=o) hs i x
 have hq2:hasO l o=true↔l[posO l o]?=some o:=zWG hs
 generalize posO l o=q at hpl hq1 hq2
 generalize hasO l o=hb at hq2
 refine zB (fn:=Tryz.f134) 49 [6,7] (by kernel_rfl) rfl (by kernel_rfl) (HW.run 400 (by kernel_rfl) ?_)
 simp +decide only[go_sem,nT,nA,nS,nM,nB,reduceIte,reduceCtorEq]
 refine HW.loopG (fun k T H=>∃lo hi:Nat,k=hi-lo∧lo≤q∧q≤hi∧hi≤l.length∧T 0=.sl (ots l)∧T 2=.fn 135 []∧T 4=.pt 0 1 0 0∧T 8=.v (.int .i64 l.length)∧T 9=.v (.int .i64 lo)∧T 10=.v (.int .i64 hi)∧H=[some (z2C o)]) l.length ⟨_,_,Ghost.refl,0,l.length,rfl,by omega,by omega,by omega,rfl,rfl,rfl,rfl,rfl,rfl,rfl⟩ ?_
 rintro k T H ⟨lo,hi,rfl,h1,h2,h3,h0,hf,h4,h8,h9,h10,rfl⟩
 refine HW.run 200 (by kernel_rfl) ?_
 by_cases hlt:lo<hi
 ·have hlt' : ((lo:Int)<(hi:Int))=True:=by simp only[eq_iff_iff,iff_true];omega
  have hm:(lo+hi) / 2<l.length:=by omega
  have hx:l[(lo+hi) / 2]?=some l[(lo+hi) / 2]:=List.getElem?_eq_getElem hm
  have hxs:=hsm _ (List.getElem_mem hm)
  generalize l[(lo+hi) / 2]=x at hx hxs
  have hp:=zJt x o hxs ho
  have hqx:=hq1 _ x hx
  rw[←zOD] at hqx
  generalize cmpO x o=c at hp hqx
  have w1:IntKind.i64.wrap ((lo:Int)+(hi:Int))=((lo+hi:Nat):Int):=by rw[w64 (by omega) (by omega)];omega
  have w2:IntKind.u64.wrap ((lo+hi:Nat):Int)=((lo+hi:Nat):Int):=IntWalk.u64_in _ ⟨by omega,by omega⟩
  have w3:(((lo+hi:Nat):Int)).fdiv (2 ^ min 1 64)=(((lo+hi) / 2:Nat):Int):=by
   show (((lo+hi:Nat):Int)).fdiv 2=_
   rw[Int.fdiv_eq_ediv_of_nonneg _ (by omega)];omega
  have w4:IntKind.i64.wrap (((lo+hi) / 2:Nat):Int)=(((lo+hi) / 2:Nat):Int):=w64 (by omega) (by omega)
  have w5:IntKind.i64.wrap ((((lo+hi) / 2:Nat):Int)+1)=(((lo+hi) / 2+1:Nat):Int):=by rw[w64 (by omega) (by omega)];omega
  have hmid:(((((lo+hi) / 2:Nat):Int))<(l.length:Int))=True:=by simp only[eq_iff_iff,iff_true];omega
  have hb1:lo≤(lo+hi) / 2:=by omega
  have hb2:(lo+hi) / 2<hi:=by omega
  generalize (lo+hi) / 2=mid at *
  simp +decide only[go_sem,nT,nA,nS,nM,nB,reduceIte,reduceCtorEq,h0,hf,h4,h8,h9,h10,hlt',hx,w1,w2,w3,w4]
  refine HW.tree 1 (.light 0 (.light 1 (.light 2 (.light 3 (.light 4 (.light 5 (.heavy 6 [] (.light 7 .leaf) .stop))))))) follows (by kernel_rfl) (by kernel_rfl) ?_
  simp +decide only[go_sem,nT,nA,nS,nM,nB,reduceIte,reduceCtorEq,h0,hf,h4,h8,h9,h10,hlt',hx,w1,w2,w3,w4,hmid]
  refine zD (hp) rfl rfl ?_
  rcases tfE' (c<0) with ⟨d,e⟩ | ⟨d,e⟩
  ·simp +decide only[go_sem,nT,nA,nS,nM,nB,reduceIte,reduceCtorEq,h0,hf,h4,h8,h9,h10,e,w5]
   refine ⟨_,_,Ghost.refl,hi-(mid+1),by omega,mid+1,hi,rfl,by have:=hqx.1 d;omega,by omega,by omega,?_,?_,?_,?_,?_,?_,rfl⟩
   all_goals first | (simp +decide only[go_sem,nB,reduceIte,h0,hf,h4,h8,h10];done) | rfl
  ·simp +decide only[go_sem,nT,nA,nS,nM,nB,reduceIte,reduceCtorEq,h0,hf,h4,h8,h9,h10,e,w5]
   refine ⟨_,_,Ghost.refl,mid-lo,by omega,lo,mid,rfl,by omega,by have:=fun h=>d (hqx.2 h);omega,by omega,?_,?_,?_,?_,?_,?_,rfl⟩
   all_goals first | (simp +decide only[go_sem,nB,reduceIte,h0,hf,h4,h8,h9];done) | rfl
 ·have hlt' : ((lo:Int)<(hi:Int))=False:=by simp only[eq_iff_iff,iff_false];omega
  obtain rfl:q=lo:=by omega
  by_cases hlb:q<l.length
  ·have hlb' : ((q:Int)<(l.length:Int))=True:=by simp only[eq_iff_iff,iff_true];omega
   have hx:l[q]?=some l[q]:=List.getElem?_eq_getElem hlb
   have hxs:=hsm _ (List.getElem_mem hlb)
   generalize l[q]=x at hx hxs
   have hp:=zJt x o hxs ho
   have hz:cmpO x o=0↔hb=true:=by
    rw[zUM,hq2,hx];simp
   generalize cmpO x o=c at hp hz
   simp +decide only[go_sem,nT,nA,nS,nM,nB,reduceIte,reduceCtorEq,h0,hf,h4,h8,h9,h10,hlt']
   refine HW.tree 1 (.light 0 (.light 1 (.light 2 (.light 3 (.light 4 (.light 5 (.light 6 (.light 7 (.light 8 (.light 9 (.light 10 (.heavy 11 [0] (.light 12 (.light 13 (.light 14 (.light 15 .leaf)))) .stop)))))))))))) follows (by kernel_rfl) (by kernel_rfl) ?_
   simp +decide only[go_sem,nT,nA,nS,nM,nB,reduceIte,reduceCtorEq,h0,hf,h4,h8,h9,h10,hlt',hx,hlb']
   refine zD (hp) rfl rfl ?_
   cases hb with
   | true =>
    have e:(c=0)=True:=by simpa using hz
    simp +decide only[go_sem,nT,nA,nS,nM,nB,reduceIte,reduceCtorEq,h0,hf,h4,h8,h9,h10,e]
   | false =>
    have e:(c=0)=False:=by simpa using hz
    simp +decide only[go_sem,nT,nA,nS,nM,nB,reduceIte,reduceCtorEq,h0,hf,h4,h8,h9,h10,e]
  ·have hlb' : ((q:Int)<(l.length:Int))=False:=by simp only[eq_iff_iff,iff_false];omega
   obtain rfl:hb=false:=by
    cases hb with
    | false=>rfl
    | true=>rw[List.getElem?_eq_none (by omega)] at hq2;simp at hq2
   simp +decide only[go_sem,nT,nA,nS,nM,nB,reduceIte,reduceCtorEq,h0,hf,h4,h8,h9,h10,hlt']
   refine HW.tree 1 (.light 0 (.light 1 (.light 2 (.light 3 (.light 4 (.light 5 (.light 6 (.light 7 (.light 8 (.light 9 (.light 10 (.heavy 11 [0] (.light 12 (.light 13 (.light 14 (.light 15 .leaf)))) .stop)))))))))))) follows (by kernel_rfl) (by kernel_rfl) ?_
   simp +decide only[go_sem,nT,nA,nS,nM,nB,reduceIte,reduceCtorEq,h0,hf,h4,h8,h9,h10,hlt',hlb']
theorem zMC (l:List Ot) (o:Ot) (hl:l.length≤1000000) (hs:SetO l) (hsm:∀x∈l,SmallO x) (ho:SmallO o):HFn Tryz.prog 107 [.sl (ots l),otH o] (.v (.bool (hasO l o))):=by
 have h:=zPQ l o hl hs hsm ho
 refine zB (fn:=Tryz.f107) 14 [4] (by kernel_rfl) rfl (by kernel_rfl) (HW.run 400 (by kernel_rfl) ?_)
 simp +decide only[go_sem,nT,nA,nS,nM,nB,reduceIte,reduceCtorEq]
 refine zD (h) rfl rfl ?_
 simp +decide only[go_sem,nT,nA,nS,nM,nB,reduceIte,reduceCtorEq]
theorem zPR (b:List Ot) (o:Ot) (hl:b.length≤1000000) (hs:SetO b) (hsm:∀x∈b,SmallO x) (ho:SmallO o):HFn Tryz.prog 106 [otH o,.fp [[.sl (ots b)]] 0 0] (.v (.bool (hasO b o))):=by
 have h:=zMC b o hl hs hsm ho
 refine zB (fn:=Tryz.f106) 7 [3] (by kernel_rfl) rfl (by kernel_rfl) (HW.run 400 (by kernel_rfl) ?_)
 simp +decide only[go_sem,nT,nA,nS,nM,nB,reduceIte,reduceCtorEq]
 refine zD (h) rfl rfl ?_
 simp +decide only[go_sem,nT,nA,nS,nM,nB,reduceIte,reduceCtorEq]
end Go.Proofs.YtoknohandclcbaaGreat
namespace Go.Proofs.YtoknohandclcbaaGreat
set_option maxRecDepth 8000
def zB2 (g:List Int) (l:List (List Int)):Bool:=l.all fun row=>zBL row g
def tryG (f:List Int→List Int→Option (List Int)) (row:List Int):List Int→Option (List Int)
 | []=>none
 | n::rest=>match f rest (row++[n]) with | some r=>some r | none=>tryG f row rest
def tryF (l:List (List Int)):Nat→List Int→List Int→Option (List Int)
 | 0,_,row=>if zB2 row l=true then some row else none
 | m+1,all,row=>tryG (tryF l m) row all
def zEH (l:List (List Int)) (all:List Int):Nat→Nat→List Int×Bool
 | 0,_=>([],false)
 | k+1,m=>match tryF l m all [] with | some r=>(r,true) | none=>zEH l all k (m+1)
def insI (n:Int):List Int→List Int
 | []=>[n]
 | x::l=>if n<x then n::x::l else if n=x then x::l else x::insI n l
def allN (l:List (List Int)):List Int:=l.flatten.foldl (fun a n=>insI n a) []
def zBe (l:List (List Int)):List Int×Bool:=if l.any (·.isEmpty)=true then ([],false) else zEH l (allN l) ((allN l).length+1) 0
def zHP (l:List Int):Prop:=l.Pairwise (·< ·)
theorem zI9 {n y:Int}:∀{l:List Int},y∈insI n l↔y∈l∨y=n
 | []=>by simp[insI]
 | x::l=>by
  unfold insI
  split
  ·simp;grind
  ·split
   ·rename_i h;subst h;simp;intro h;exact .inl h
   ·simp only[List.mem_cons,zI9 (l:=l)];grind
theorem zKJ {n:Int}:∀{l:List Int},zHP l→zHP (insI n l)
 | [],_=>by simp[insI,zHP]
 | x::l,h=>by
  obtain ⟨h1,h2⟩:=List.pairwise_cons.1 h
  unfold insI
  split
  ·rename_i hn
   refine List.pairwise_cons.2 ⟨fun y hy=>?_,h⟩
   rcases List.mem_cons.1 hy with rfl | hy
   ·exact hn
   ·have:=h1 y hy;omega
  ·split
   ·exact h
   ·refine List.pairwise_cons.2 ⟨fun y hy=>?_,zKJ h2⟩
    rcases zI9.1 hy with hy | rfl
    ·exact h1 y hy
    ·omega
theorem zHf:∀(l a:List Int),zHP a→zHP (l.foldl (fun a n=>insI n a) a)
 | [],_,h=>h
 | x::l,a,h=>zHf l _ (zKJ h)
theorem zKS {y:Int}:∀(l a:List Int),y∈l.foldl (fun a n=>insI n a) a↔y∈a∨y∈l
 | [],a=>by simp
 | x::l,a=>by
  rw[List.foldl_cons,zKS l,zI9]
  simp only[List.mem_cons];grind
theorem zU5 (l:List (List Int)):zHP (allN l):=zHf _ _ List.Pairwise.nil
theorem zOL {y:Int} {l:List (List Int)}:y∈allN l↔∃r∈l,y∈r:=by
 unfold allN
 rw[zKS];simp[List.mem_flatten]
theorem zRi:∀{a b:List Int},zHP a→zHP b→(∀y,y∈a↔y∈b)→a=b
 | [],[],_,_,_=>rfl
 | [],y::b,_,_,h=>by have:=(h y).2 (by simp);simp at this
 | x::a,[],_,_,h=>by have:=(h x).1 (by simp);simp at this
 | x::a,y::b,ha,hb,h=>by
  obtain ⟨a1,a2⟩:=List.pairwise_cons.1 ha
  obtain ⟨b1,b2⟩:=List.pairwise_cons.1 hb
  have hxy:x=y:=by
   rcases List.mem_cons.1 ((h x).1 (by simp)) with e | hx
   ·exact e
   ·rcases List.mem_cons.1 ((h y).2 (by simp)) with e | hy
    ·exact e.symm
    ·have:=a1 y hy;have:=b1 x hx;omega
  subst hxy
  rw[zRi a2 b2 fun z=>?_]
  constructor
  ·intro hz
   rcases List.mem_cons.1 ((h z).1 (by simp[hz])) with e | hz2
   ·subst e;exact absurd (a1 z hz) (by omega)
   ·exact hz2
  ·intro hz
   rcases List.mem_cons.1 ((h z).2 (by simp[hz])) with e | hz2
   ·subst e;exact absurd (b1 z hz) (by omega)
   ·exact hz2
theorem zNW (l:List (List Int)):∀(all row:List Int),zB2 (row++all) l=true→tryF l all.length all row=some (row++all)
 | [],row,h=>by
  rw[List.append_nil] at h⊢
  show (if zB2 row l=true then some row else none)=_
  rw[if_pos h]
 | n::all,row,h=>by
  show tryG (tryF l all.length) row (n::all)=_
  rw[tryG,zNW l all (row++[n]) (by rw[List.append_assoc];exact h)]
  simp
theorem zWY {row g:List Int} (hn:row≠[]) (h:∀y∈row,y∈g):zBL row g=true:=by
 cases row with
 | nil=>exact absurd rfl hn
 | cons x r =>
  unfold zBL
  rw[List.any_eq_true]
  exact ⟨x,by simp,by unfold hasB;rw[decide_eq_true_iff];exact h x (by simp)⟩
theorem zWh {l:List (List Int)} (h:¬l.any (·.isEmpty)=true):zB2 (allN l) l=true:=by
 unfold zB2
 rw[List.all_eq_true]
 intro row hr
 refine zWY (fun e=>h ?_) fun y hy=>zOL.2 ⟨row,hr,hy⟩
 rw[List.any_eq_true];exact ⟨row,hr,by rw[e];rfl⟩
end Go.Proofs.YtoknohandclcbaaGreat
namespace Go.Proofs.YtoknohandclcbaaGreat
open Go.RowKit
set_option maxRecDepth 8000
set_option maxHeartbeats 4000000 in
theorem zLg (l:List Int) (n:Int) (hl:l.length≤1000000):HFn Tryz.prog 125 [.sl (ints l),.v (.int .i64 n)] (.v (.int .i64 (idxF (fun x=>decide (x=n)) l))):=by
 refine zB (fn:=Tryz.f125) 19 [4] (by kernel_rfl) rfl (by kernel_rfl) (HW.run 400 (by kernel_rfl) ?_)
 simp +decide only[go_sem,nT,nA,nS,nM,nB,reduceIte,reduceCtorEq]
 refine HW.loopG (fun k T H=>∃i:Nat,k=l.length-i∧i≤l.length∧(∀(j:Nat) y,j<i→l[j]?=some y→¬y=n)∧T 0=.sl (ints l)∧T 1=.v (.int .i64 n)∧T 7=.v (.int .i64 l.length)∧T 8=.v (.int .i64 i)∧H=[]) l.length ⟨_,_,Ghost.refl,0,rfl,by omega,by simp,rfl,rfl,rfl,rfl,rfl⟩ ?_
 rintro k T H ⟨i,rfl,hil,hp,h0,h1,h7,h8,rfl⟩
 refine HW.run 200 (by kernel_rfl) ?_
 by_cases hlt:i<l.length
 ·have hlt' : ((i:Int)<(l.length:Int))=True:=by simp only[eq_iff_iff,iff_true];omega
  have hx:l[i]?=some l[i]:=List.getElem?_eq_getElem hlt
  generalize l[i]=x at hx
  rcases tfE' (n=x) with ⟨d,c⟩ | ⟨d,c⟩
  ·rw[zEJ hx (fun j y hj hy=>by simpa using hp j y hj hy) (by simp[d])]
   simp +decide only[go_sem,nT,nA,nS,nM,nB,reduceIte,reduceCtorEq,h0,h1,h7,h8,hlt',hx,c]
  ·simp +decide only[go_sem,nT,nA,nS,nM,nB,reduceIte,reduceCtorEq,h0,h1,h7,h8,hlt',hx,c]
   refine ⟨_,_,Ghost.refl,l.length-(i+1),by omega,i+1,rfl,by omega,?_,?_,?_,?_,?_,?_⟩
   ·intro j y hj hy
    rcases Nat.lt_or_ge j i with hji | hji
    ·exact hp j y hji hy
    ·obtain rfl:j=i:=by omega
     rw[hx] at hy;cases hy
     omega
   all_goals first | (simp +decide only[go_sem,nB,reduceIte,h0,h1,h7];done) | (simp +decide only[go_sem,nB,reduceIte];rw[w64 (by omega) (by omega)];rfl) | rfl
 ·have hlt' : ((i:Int)<(l.length:Int))=False:=by simp only[eq_iff_iff,iff_false];omega
  rw[zCm fun j y hy=>by simpa using hp j y (by have:=(List.getElem?_eq_some_iff.1 hy).1;omega) hy]
  simp +decide only[go_sem,nT,nA,nS,nM,nB,reduceIte,reduceCtorEq,h0,h1,h7,h8,hlt']
theorem zGu (l:List Int) (n:Int) (hl:l.length≤1000000):HFn Tryz.prog 91 [.sl (ints l),.v (.int .i64 n)] (.v (.bool (hasB l n))):=by
 have hi:=zLg l n hl
 have he:hasB l n=l.any fun x=>decide (x=n):=by
  unfold hasB
  rw[Bool.eq_iff_iff,decide_eq_true_iff,List.any_eq_true]
  simp
 rw[he,←zGS]
 generalize idxF (fun x=>decide (x=n)) l=m at hi
 refine zB (fn:=Tryz.f91) 9 [4] (by kernel_rfl) rfl (by kernel_rfl) (HW.run 400 (by kernel_rfl) ?_)
 simp +decide only[go_sem,nT,nA,nS,nM,nB,reduceIte,reduceCtorEq]
 refine zD (hi) rfl rfl ?_
 rcases tfE' (0≤m) with ⟨d,c⟩ | ⟨d,c⟩
 ·simp +decide only[go_sem,nT,nA,nS,nM,nB,reduceIte,reduceCtorEq,c]
 ·simp +decide only[go_sem,nT,nA,nS,nM,nB,reduceIte,reduceCtorEq,c]
theorem zSr (b:List Int) (n:Int) (hb:b.length≤1000000):HFn Tryz.prog 90 [.v (.int .i64 n),.fp [[.sl (ints b)]] 0 0] (.v (.bool (hasB b n))):=by
 refine zB (fn:=Tryz.f90) 7 [3] (by kernel_rfl) rfl (by kernel_rfl) (HW.run 400 (by kernel_rfl) ?_)
 simp +decide only[go_sem,nT,nA,nS,nM,nB,reduceIte,reduceCtorEq]
 refine zD (zGu b n hb) rfl rfl ?_
 simp +decide only[go_sem,nT,nA,nS,nM,nB,reduceIte,reduceCtorEq]
theorem zNo (a b:List Int) (ha:a.length≤1000000) (hb:b.length≤1000000):HFn Tryz.prog 58 [.sl (ints a),.sl (ints b)] (.v (.bool (zBL a b))):=by
 refine zB (fn:=Tryz.f58) 8 [4] (by kernel_rfl) rfl (by kernel_rfl) (HW.run 400 (by kernel_rfl) ?_)
 simp +decide only[go_sem,nT,nA,nS,nM,nB,reduceIte,reduceCtorEq]
 refine zO 3 (conI a 90 [.fp [[.sl (ints b)]] 0 0] (hasB b) ha (fun x _=>rfl) rfl (fun i x _ _=>zSr b x hb)) (by simp only[go_sem];rfl) rfl ?_
 simp +decide only[go_sem,nT,nA,nS,nM,nB,reduceIte,reduceCtorEq]
 rfl
theorem zWj (g row:List Int) (hg:g.length≤1000000) (hr:row.length≤1000000):HFn Tryz.prog 57 [.sl (ints row),.fp [[.sl (ints g)]] 0 0] (.v (.bool (!zBL row g))):=by
 refine zB (fn:=Tryz.f57) 8 [3] (by kernel_rfl) rfl (by kernel_rfl) (HW.run 400 (by kernel_rfl) ?_)
 simp +decide only[go_sem,nT,nA,nS,nM,nB,reduceIte,reduceCtorEq]
 refine zD (zNo row g hr hg) rfl rfl ?_
 simp +decide only[go_sem,nT,nA,nS,nM,nB,reduceIte,reduceCtorEq]
theorem zZa (g:List Int) (l:List (List Int)) (hg:g.length≤1000000) (hl:l.length≤1000000) (hr:∀r∈l,r.length≤1000000):HFn Tryz.prog 33 [.sl (ints g),.sl (rws l)] (.v (.bool (zB2 g l))):=by
 have he:zB2 g l = !(l.any fun row=>!zBL row g):=by
  unfold zB2
  rw[List.all_eq_not_any_not]
 rw[he]
 refine zB (fn:=Tryz.f33) 9 [4] (by kernel_rfl) rfl (by kernel_rfl) (HW.run 400 (by kernel_rfl) ?_)
 simp +decide only[go_sem,nT,nA,nS,nM,nB,reduceIte,reduceCtorEq]
 refine zO 3 (conR l 57 [.fp [[.sl (ints g)]] 0 0] (fun row=>!zBL row g) hl (fun x _=>rfl) rfl (fun i x hx _=>zWj g x hg (hr x (List.mem_of_getElem? hx)))) (by simp only[go_sem];rfl) rfl ?_
 simp +decide only[go_sem,nT,nA,nS,nM,nB,reduceIte,reduceCtorEq]
theorem zZ9 (g row:List Int) (hg:g.length≤1000000) (hr:row.length≤1000000):HFn Tryz.prog 180 [.sl (ints row),.fp [[.sl (ints g)]] 0 0] (.v (.bool (!zBL row g))):=by
 refine zB (fn:=Tryz.f180) 8 [3] (by kernel_rfl) rfl (by kernel_rfl) (HW.run 400 (by kernel_rfl) ?_)
 simp +decide only[go_sem,nT,nA,nS,nM,nB,reduceIte,reduceCtorEq]
 refine zD (zNo row g hr hg) rfl rfl ?_
 simp +decide only[go_sem,nT,nA,nS,nM,nB,reduceIte,reduceCtorEq]
theorem zNV (g:List Int) (l:List (List Int)) (hg:g.length≤1000000) (hl:l.length≤1000000) (hr:∀r∈l,r.length≤1000000):HFn Tryz.prog 88 [.sl (rws l),.fn 180 [.fp [[.sl (ints g)]] 0 0]] (.v (.int .i64 (idxF (fun row=>!zBL row g) l))) :=
 idxR l 180 [.fp [[.sl (ints g)]] 0 0] (fun row=>!zBL row g) hl (fun x _=>rfl) (fun i x hx _=>zZ9 g x hg (hr x (List.mem_of_getElem? hx)))
theorem zHS (g:List Int) (l:List (List Int)):decide (idxF (fun row=>!zBL row g) l<0)=zB2 g l:=by
 have h:=zGS (pred:=fun row=>!zBL row g) (l:=l)
 have he:zB2 g l = !(l.any fun row=>!zBL row g):=by
  unfold zB2
  rw[List.all_eq_not_any_not]
 rw[he,←h]
 rw[Bool.eq_iff_iff]
 simp
end Go.Proofs.YtoknohandclcbaaGreat
namespace Go.Proofs.YtoknohandclcbaaGreat
open Go.RowKit
set_option maxRecDepth 8000
def DieS (N L B:Nat) (Z:Nat→Prop) (G:List (Option OG)) (FP:Nat→List Nat) (w:World) (V:HV) (e:Exit) (a' : Act) (w' : World):Prop :=
 ∃v T' H' Z' G' FP' ds',e=.panic [{ v:=v,recovered:=false }]∧RV Z' G' w' V v []∧St N B Z' G' FP' ds' T' H' a' w'∧GLt L G G'∧Evo Z FP w Z' FP' w'
def HD (P:Program) (N L:Nat) (c:Code) (V:HV) (T:Nat→HV) (H:Heap):Prop :=
 ∀ro n B Z G FP ds a w,Bo ro B FP w→L≤G.length→St N B Z G FP ds T H a w→c.wpIn (Wd ro) n P (DieS N L B Z G FP w V) a w
def HDo (P:Program) (N L:Nat) (o:Oper) (V:HV) (T:Nat→HV) (H:Heap):Prop :=
 ∀ro n B Z G FP ds a w,Bo ro B FP w→L≤G.length→St N B Z G FP ds T H a w→∀(next:Act→World→Prop) (Q:Exit→Act→World→Prop),(∀e a' w',DieS N L B Z G FP w V e a' w'→Q e a' w')→o.wpIn (Wd ro) n P a w next Q
def zQk (P:Program) (f:FuncId) (args:List HV) (V:HV):Prop :=
 (∀vals w,(callFunc f vals).run P w=.ok (.enter f vals) w)∧∀Z FP w vals,HInv Z [] FP [] w→RL Z [] w args vals []→Calls P f vals.toArray w (fun e w'=>∃v Z' FP',e=.panicked [{ v:=v,recovered:=false }]∧HInv Z' [] FP' [] w'∧RV Z' [] w' V v []∧Evo Z FP w Z' FP' w')
section
variable {P:Program} {N L:Nat} {V:HV} {T:Nat→HV} {H:Heap}
theorem DieS.evo {B:Nat} {Z Z1:Nat→Prop} {G G1:List (Option OG)} {FP FP1:Nat→List Nat} {w w1:World} {e:Exit} {a' : Act} {w' : World} (h:DieS N L B Z1 G1 FP1 w1 V e a' w') (hG:GLt L G G1) (hE:Evo Z FP w Z1 FP1 w1):DieS N L B Z G FP w V e a' w':=by
 obtain ⟨v,T',H',Z',G',FP',ds',h1,h2,h3,h4,h5⟩:=h
 exact ⟨v,T',H',Z',G',FP',ds',h1,h2,h3,hG.trans h4,hE.trans h5⟩
theorem HD.seq1 {x y:Code} (h:HD P N L x V T H):HD P N L (.seq x y) V T H:=by
 intro ro n B Z G FP ds a w hB hL hs
 refine wpIn_seq (wpIn_mono (h ro n B Z G FP ds a w hB hL hs) ?_)
 intro e a' w' hd
 have hd':=hd
 obtain ⟨v,T',H',Z',G',FP',ds',rfl,_⟩:=hd
 exact hd'
theorem HD.seq2 {x y:Code} {I:(Nat→HV)→Heap→Prop} (h:HW P N L x (zGH I) T H) (k:∀T H,I T H→HD P N L y V T H):HD P N L (.seq x y) V T H:=by
 intro ro n B Z G FP ds a w hB hL hs
 refine wpIn_seq (wpIn_mono (h ro n B Z G FP ds a w hB hL hs) ?_)
 rintro e a' w' ⟨T',H',Z',G',FP',ds',h1,h2,h3,h4⟩
 cases e with
 | normal=>exact wpIn_mono (k T' H' h1 ro n B Z' G' FP' ds' a' w' (hB.evo h4) h3.len h2) fun e a'' w'' hd=>hd.evo h3 h4
 | _=>exact False.elim h1
theorem HD.ghost {c:Code} {T' : Nat→HV} {H' : Heap} (g:Ghost N L T H T' H') (h:HD P N L c V T' H'):HD P N L c V T H:=by
 intro ro n B Z G FP ds a w hB hL hs
 obtain ⟨Z1,G1,FP1,h1,h2,h3⟩:=g B Z G FP ds a w hL hs
 exact wpIn_mono (h ro n B Z1 G1 FP1 ds a w (hB.evo h3) h2.len h1) fun e a' w' hd=>hd.evo h2 h3
theorem HD.cond {c:Operand} {x y:Code} {t:Bool} (hx:zBJ N c=true) (hc:hev T c=.v (.bool t)) (h1:t=true→HD P N L x V T H) (h2:t=false→HD P N L y V T H):HD P N L (.cond c x y) V T H:=by
 intro ro n B Z G FP ds a w hB hL hs
 have he:=hs.cond hx hc
 cases t with
 | true=>exact wpIn_cond he (h1 rfl ro n B Z G FP ds a w hB hL hs)
 | false=>exact wpIn_cond he (h2 rfl ro n B Z G FP ds a w hB hL hs)
theorem HD.block {l:Nat} {c:Code} (h:HD P N L c V T H):HD P N L (.block l c) V T H:=by
 intro ro n B Z G FP ds a w hB hL hs
 refine wpIn_block (wpIn_mono (h ro n B Z G FP ds a w hB hL hs) ?_)
 intro e a' w' hd
 have hd':=hd
 obtain ⟨v,T',H',Z',G',FP',ds',rfl,_⟩:=hd
 exact hd'
theorem HD.loop {c:Code} (I:Nat→(Nat→HV)→Heap→Prop) (k:Nat) (h0:I k T H)
  (round:∀k T H,I k T H→HD P N L c V T H∨HW P N L c (zGH fun T' H'=>∃k',k' < k∧I k' T' H') T H):HD P N L (.loop c) V T H:=by
 intro ro n B Z G FP ds a w hB hL hs
 let J:Act→World→Prop:=fun a' w'=>∃k T' H' Z' G' FP' ds',I k T' H'∧St N B Z' G' FP' ds' T' H' a' w'∧GLt L G G'∧Evo Z FP w Z' FP' w'
 let kk:Act→World→Nat→Prop:=fun a' w' k=>∃T' H' Z' G' FP' ds',I k T' H'∧St N B Z' G' FP' ds' T' H' a' w'∧GLt L G G'∧Evo Z FP w Z' FP' w'
 open Classical in
 let μ:Act→World→Nat:=fun a' w'=>if h:∃k,kk a' w' k then Classical.choose (zR h) else 0
 have hμ:∀a' w' k,kk a' w' k→kk a' w' (μ a' w')∧μ a' w'≤k:=by
  intro a' w' k hk
  have h:∃k,kk a' w' k:=⟨k,hk⟩
  have hs:=Classical.choose_spec (zR h)
  have e:μ a' w'=Classical.choose (zR h):=by
   simp only[μ];rw[dif_pos h]
  rw[e]
  exact ⟨hs.1,hs.2 k hk⟩
 refine wpIn_loop (I:=fun a' w'=>∃k,kk a' w' k) (μ:=μ) ⟨k,T,H,Z,G,FP,ds,h0,hs,GLt.refl hL,Evo.refl _ _ _⟩ ?_
 rintro a1 w1 ⟨k1,hk1⟩
 obtain ⟨⟨T1,H1,Z1,G1,FP1,ds1,i1,i2,i3,i4⟩,_⟩:=hμ a1 w1 k1 hk1
 rcases round _ T1 H1 i1 with hd | hw
 ·refine wpIn_mono (hd ro n B Z1 G1 FP1 ds1 a1 w1 (hB.evo i4) i3.len i2) ?_
  intro e a' w' hd
  have hd':=hd.evo i3 i4
  obtain ⟨v,T',H',Z',G',FP',ds',rfl,_⟩:=hd
  exact hd'
 ·refine wpIn_mono (hw ro n B Z1 G1 FP1 ds1 a1 w1 (hB.evo i4) i3.len i2) ?_
  rintro e a' w' ⟨T',H',Z',G',FP',ds',h1,h2,h3,h4⟩
  cases e with
  | normal =>
   obtain ⟨k',hk',hi'⟩:=h1
   have hkk:kk a' w' k':=⟨T',H',Z',G',FP',ds',hi',h2,i3.trans h3,i4.trans h4⟩
   exact ⟨⟨k',hkk⟩,Nat.lt_of_le_of_lt (hμ a' w' k' hkk).2 hk'⟩
  | _=>exact False.elim h1
theorem Oper.wpIn_mono2 {F:Fence} {n:Nat} {o:Oper} {a:Act} {w:World} {K K' : Act→World→Prop} {Q Q' : Exit→Act→World→Prop} (h:∀a w,K a w→K' a w) (hq:∀e a w,e≠.normal→Q e a w→Q' e a w)
  (hh:o.wpIn F n P a w K Q):o.wpIn F n P a w K' Q':=by
 unfold Oper.wpIn at *
 refine ⟨hh.1,?_⟩
 have hh:=hh.2
 have ho:LetsOut Q→LetsOut Q':=fun ⟨a,w,hq0⟩=>⟨a,w,hq _ _ _ (by simp) hq0⟩
 generalize (o.semAt F.round a.eval).run P w=r at *
 cases r with
 | ok x w' =>
  cases x <;> simp only[Oper.uponIn] at hh⊢<;>
   first
    | exact h _ _ hh
    | exact ⟨hh.1,CallsIn.mono hh.2 (fun e w'' he=>by cases e <;> first | exact h _ _ he | exact hq _ _ _ (by simp) he | exact ho he)⟩
    | exact ⟨hh.1,RowsIn.mono hh.2 (fun _ _ he=>h _ _ he)⟩
    | exact ⟨hh.1,RoundIn.mono hh.2 (fun e w'' he=>by cases e <;> first | exact h _ _ he | exact hq _ _ _ (by simp) he | exact ho he)⟩
 | halt x w'=>cases x <;> simp only[Oper.uponIn] at hh⊢<;> first | exact hq _ _ _ (by simp) hh | exact hh
theorem zDY {F:Fence} {n:Nat} {ops:Array Oper} {Q Φ:Exit→Act→World→Prop} {o:Oper} (hq:∀e a w,e≠.normal→Φ e a w→Q e a w) (hn:∀a w,Φ .normal a w→wpListIn F n P ops Q [o] a w):∀(pre:List Oper) (a:Act) (w:World),wpListIn F n P ops Φ pre a w→wpListIn F n P ops Q (pre++[o]) a w
 | [],a,w,h=>hn a w h
 | p::pre,a,w,h=>by
  simp only[List.cons_append]
  unfold wpListIn at h⊢
  split
  ·rename_i hw
   rw[if_pos hw] at h
   exact Oper.wpIn_mono2 (fun a w h=>zDY hq hn pre a w h) hq h
  ·rename_i hw
   rw[if_neg hw] at h
   exact ⟨h.1,zDY hq hn pre _ w h.2⟩
theorem HD.region {id:Nat} {pre:List Oper} {o:Oper} {I:(Nat→HV)→Heap→Prop} (n:Nat) (hok:((pre++[o]).all fun o=>zG N o && zAD o)=true) (hg:o.guard=none) (h:ex P N L (zGH I) n [.ops (pre++[o]) pre] T H) (k:∀T H,I T H→HDo P N L o V T H):HD P N L (.region id (pre++[o]).toArray false) V T H:=by
 intro ro m B Z G FP ds a w hB hL hs
 have hpre:(pre.all fun o=>zG N o && zAD o)=true:=by
  rw[List.all_eq_true] at hok⊢
  exact fun x hx=>hok x (List.mem_append.2 (.inl hx))
 have:=zCP n [.ops (pre++[o]) pre] T H h (by simp only[List.all_cons,List.all_nil,zAn,hok,hpre,Bool.and_self]) ro m B Z G FP w Z G FP ds a w hB hs (GLt.refl hL) (Evo.refl _ _ _)
 simp only[M] at this
 refine wpIn_region_list ?_
 simp only[]
 refine zDY (Φ:=Fin (zGH I) N L B Z G FP w) ?_ ?_ pre a w (by simpa using this)
 ·intro e a' w' he hq
  cases e with
  | normal=>exact absurd rfl he
  | _ =>
   obtain ⟨T',H',Z',G',FP',ds',h1,_⟩:=hq
   exact False.elim h1
 ·intro a' w' hq
  obtain ⟨T',H',Z',G',FP',ds',h1,h2,h3,h4⟩:=hq
  refine wpListIn_plain hg fun K' hK'=>?_
  exact k T' H' h1 ro m B Z' G' FP' ds' a' w' (hB.evo h4) h3.len h2 K' _ fun e a'' w'' hd=>hd.evo h3 h4
theorem HDo.call {o:Oper} {f:Operand} {args:Array Operand} {tys:Array TypeId} {fid:Nat} {args' : List HV}
  (ho:o.op=.call { callee:=.value f,args:=args,argTypes:=tys }) (hok:zG N o=true) (hf:hev T f=.fn fid []) (hlt:fid<4294967296) (ha:args.toList.map (hev T)=args') (hnm:nmL 0 args'=true) (hV:nm 0 V=true)
  (hc:zQk P fid args' V):HDo P N L o V T H:=by
 intro ro n B Z G FP ds a w hB hL hs next Q hn
 refine ⟨fun _ _=>trivial,?_⟩
 rw[zAY _ _ _ (by rw[ho];intro c;simp)]
 have hfv:=hs.hev f (zF hok (by simp[ho,Op.operands,Call.operands]))
 rw[hf] at hfv
 simp only[RV] at hfv
 obtain ⟨cs,hfe,hcl⟩:=hfv
 have hcs:cs.toList=[]:=by simpa [RL] using hcl
 have hargs:args.toList.all (zBJ N)=true:=by
  rw[List.all_eq_true]
  intro x hx
  exact zF hok (by simp[ho,Op.operands,Call.operands];exact .inr (by simpa using hx))
 have hal:=zB4 hs args.toList hargs
 rw[ha] at hal
 have hal0:RL Z [] w args' (args.toList.map a.eval) []:=by
  have:=zAp args' 0 G _ [] hnm hal
  simpa using this
 have hfF:fnF fid=fid:=zGY hlt
 have hrun:(execOp a.eval o).run P w=.ok (.enter (fnF fid) (fnA fid undef (args.toList.map a.eval) cs.toList).toArray) w:=zLl ho hfe (by rw[hfF];exact hc.1)
 rw[hrun,Oper.uponIn_enter,hfF,zFJ hlt,hcs,List.append_nil]
 refine ⟨fun h=>by cases ro <;> simp[Wd,Fence.wide] at h,zCT (Calls.mono (hc.2 Z (fun _=>[]) w _ (HInv.empty hs.inv.zlt hs.inv.glob) hal0) ?_)⟩
 rintro e w' ⟨v,Z',FP',rfl,hi',hr,hE⟩
 have hk:∀b,b<w.heap.size→w'.heap[b]?=w.heap[b]?:=fun b hb=>hE.keep b hb (by simp)
 have hznew:∀b,Z' b→Z b∨w.heap.size≤b:=fun b hb=>by
  rcases hE.znew b hb with h | h | ⟨id,h⟩
  ·exact .inl h
  ·exact .inr h
  ·simp at h
 have hE2:Evo Z FP w Z' FP w':=⟨hE.os,hE.tape,hE.output,hE.size,fun b hb _=>hk b hb,hE.zle,fun b hb=>(hznew b hb).elim .inl fun h=>.inr (.inl h),fun id b hb=>.inr ⟨id,hb⟩⟩
 have hi2:HInv Z' G FP H w':=by
  refine (hs.inv.keep hE.size (fun b hb=>hk b (by
   rcases hb with hb | ⟨id,hb⟩
   ·exact hs.inv.zlt b hb
   ·exact hs.inv.flt id b hb))).zmore hE.zle hi'.zlt (fun id b hb hz=>?_)
  rcases hznew b hz with h | h
  ·exact hs.inv.zfp id b hb h
  ·have:=hs.inv.flt id b hb;omega
 refine hn _ _ _ ⟨v,T,H,Z',G,FP,ds,rfl,?_,hs.evo hi2 (GLe.refl _) hE2,GLt.refl hL,hE2⟩
 exact RV.nil_keep (fun _ _=>rfl) (fun _ h=>h) (zBD G) hr
theorem HDo.panic {o:Oper} {x:Operand} {t:TypeId} {y:HV} (ho:o.op=.panic x) (hok:zG N o=true) (hx:hev T x=.ic t y):HDo P N L o (.ic t y) T H:=by
 intro ro n B Z G FP ds a w hB hL hs next Q hn
 refine ⟨fun _ _=>trivial,?_⟩
 rw[zAY _ _ _ (by rw[ho];intro c;simp)]
 have hv:=hs.hev x (zF hok (by simp[ho,Op.operands]))
 rw[hx] at hv
 have hv':=hv
 simp only[RV] at hv
 obtain ⟨_,z,hz,_⟩:=hv
 have hrun:(execOp a.eval o).run P w=.halt (.panic (.iface t z)) w:=by
  unfold execOp
  rw[ho]
  show (Sem.run P (Next.value <$> Instr.panic (a.eval x)) w)=_
  rw[hz];rfl
 rw[hrun,Oper.uponIn_panic]
 exact hn _ _ _ ⟨_,T,H,Z,G,FP,ds,rfl,hz▸hv',hs,GLt.refl hL,Evo.refl _ _ _⟩
theorem zEG {ro:Option Nat} {n:Nat} {fn:Func} {tmps:Array Value} {R:Ending→World→Prop} {chain:List PanicEntry}:∀(ds:List Nat) (w:World),ds.Nodup→(∀d∈ds,w.heap[d]?=some (.deferred (some [])))→
  (∀w',w'.os=w.os→w'.tape=w.tape→w'.output=w.output→w'.heap.size=w.heap.size→(∀b,b∉ds→w'.heap[b]?=w.heap[b]?)→R (.panicked chain) w')→
  LeavesInM (Wd ro) n P fn tmps R (zFV ds) (.panicking chain) w
 | [],w,_,_,h=>by
  simp only[zFV,List.map_nil,LeavesInM,LeavesIn]
  exact h w rfl rfl rfl rfl (fun _ _=>rfl)
 | d::ds,w,hnd,hd,h=>by
  have hdd:=hd d (by simp)
  obtain ⟨hn1,hn2⟩:=List.nodup_cons.1 hnd
  have hlt:d<w.heap.size:=(Array.getElem?_eq_some_iff.1 hdd).1
  simp only[zFV,List.map_cons,LeavesInM]
  refine ⟨by simp,.inl ⟨d,{ w with heap:=w.heap.setIfInBounds d (.deferred none) },rfl,?_,?_⟩⟩
  ·have:=run_takeDeferred (P:=P) hdd
   rw[this]
   rfl
  ·refine zEG ds _ hn2 (fun e he=>?_) ?_
   ·have:d≠e:=fun e'=>hn1 (e'▸he)
    simp[Array.getElem?_setIfInBounds_ne this,hd e (by simp[he])]
   ·intro w' ho ht hout hsz hk
    refine h w' ho ht hout (by rw[hsz];simp) (fun b hb=>?_)
    rw[hk b (fun hc=>hb (by simp[hc]))]
    have:d≠b:=fun e=>hb (by simp[e])
    simp[Array.getElem?_setIfInBounds_ne this]
theorem zHx {f:FuncId} {fn:Func} {c:Code} {args:List HV} (N:Nat) (hf:P.funcs[f]?=some fn) (hb:fn.body=some c) (hok:((!(fn.name == "runtime.NumGoroutine")) && (N == fn.ntmps) && Nat.ble args.length fn.ntmps)=true) (hV:nm 0 V=true)
  (h:HD P N 0 c V (T0 args) []):zQk P f args V:=by
 simp only[Bool.and_eq_true,beq_iff_eq,Bool.not_eq_true'] at hok
 obtain ⟨⟨hname,hNN⟩,hN0⟩:=hok
 subst hNN
 have hN:args.length≤fn.ntmps:=Nat.le_of_ble_eq_true hN0
 have hne:¬fn.name = "runtime.NumGoroutine" :=by simpa using hname
 refine ⟨fun vals w=>by simp[callFunc,hf,hne,hb],fun Z FP w vals hi ha=>?_⟩
 refine callsIn_wide.1 (callsIn_of_wp_marks (F:=Fence.wide) (n:=0) hf hb trivial ?_)
 have hlen:=zS _ _ _ ha
 have hsz:(vals.toArray++Array.replicate (fn.ntmps-vals.toArray.size) undef).size=fn.ntmps:=by simp;omega
 have hst:St fn.ntmps w.heap.size Z [] FP [] (T0 args) [] { tmps:=vals.toArray++Array.replicate (fn.ntmps-vals.toArray.size) undef,defers:=[] } w :=
  ⟨hi,hsz,zGq fn.ntmps ha,rfl,by simp,by simp⟩
 refine wpIn_mono (h none 0 w.heap.size Z [] FP [] _ w ⟨Nat.le_refl _,by simp⟩ (by simp) hst) ?_
 rintro e a' w' ⟨v,T',H',Z',G',FP',ds',rfl,hr,hs',hG',hE'⟩
 show LeavesInM Fence.wide 0 P fn a'.tmps _ a'.defers (.panicking [{ v:=v,recovered:=false }]) w'
 rw[hs'.defers]
 refine zEG (ro:=none) ds' w' hs'.dsn (fun d hd=>(hs'.dsat d hd).2.1) ?_
 intro w2 ho ht hout hsz2 hk
 have hkeep:∀b,(Z' b∨∃id,b∈FP' id)→w2.heap[b]?=w'.heap[b]?:=by
  intro b hb
  refine hk b fun hc=>?_
  obtain ⟨_,_,h3,h4⟩:=hs'.dsat b hc
  rcases hb with hb | ⟨id,hb⟩
  ·exact h3 hb
  ·exact h4 id hb
 have hi2:HInv Z' G' FP' H' w2:=hs'.inv.keep (by omega) hkeep
 have hE2:Evo Z FP w Z' FP' w2:=by
  refine ⟨ho.trans hE'.os,ht.trans hE'.tape,hout.trans hE'.output,by rw[hsz2];exact hE'.size,fun b hb hf=>?_,hE'.zle,hE'.znew,hE'.fnew⟩
  rw[hk b (fun hc=>by have:=(hs'.dsat b hc).1;omega)]
  exact hE'.keep b hb hf
 have hr0:RV Z' [] w2 V v []:=by
  have:=zBK V 0 G' v [] hV (RV.nil_keep (fun b hb=>hkeep b (.inl hb)) (fun _ h=>h) (GLe.refl _) hr)
  simpa using this
 exact ⟨v,Z',fun _=>[],rfl,HInv.empty hi2.zlt hi2.glob,hr0,hE2.os,hE2.tape,hE2.output,hE2.size,hE2.keep,hE2.zle,hE2.znew,fun id b hb=>by simp at hb⟩
end
end Go.Proofs.YtoknohandclcbaaGreat
namespace Go.Proofs.YtoknohandclcbaaGreat
open Go.RowKit
set_option maxRecDepth 8000
def zS3 (pre:List Oper) (o:Oper):Bool:=((pre++[o]).all fun x=>x.guard.isNone) && (List.range pre.length).all fun k=>zAd (befs (pre++[o]) []) k pre.length
theorem zJp {l:Array Bool} {i:Nat} {d:Bool} (h:i<l.size):(l.push false).getD i d=l.getD i d:=by
 rw[Array.getD_eq_getD_getElem?,Array.getD_eq_getD_getElem?,Array.getElem?_push_lt h,Array.getElem?_eq_getElem h]
theorem zGD {l:Array Bool} {i:Nat} (h:(l.push false).getD i false=true):l.getD i false=true:=by
 rcases Nat.lt_trichotomy i l.size with hi | hi | hi
 ·rwa [zJp hi] at h
 ·subst hi
  rw[Array.getD_eq_getD_getElem?] at h
  simp at h
 ·rw[Array.getD_eq_getD_getElem?,Array.getElem?_eq_none (by simp;omega)] at h
  cases h
theorem zNb {l:Array Bool} {i:Nat} (h:i<l.size):(l.push false).setIfInBounds i true=(l.setIfInBounds i true).push false:=by
 obtain ⟨l⟩:=l
 simp only[List.push_toArray,List.setIfInBounds_toArray]
 congr 1
 exact List.set_append_left _ _ (by simpa using h)
theorem zXx {F:Fence} {n N m:Nat} {P:Program} {pre:List Oper} {o:Oper} {Q Φ:Exit→Act→World→Prop} (hA:AnyOk N m (pre++[o])) (hg:∀x∈pre++[o],x.guard=none) (hm:∀k,k<pre.length→zAd (befs (pre++[o]) []) k pre.length=true)
  (hq:∀e a w,e≠.normal→Φ e a w→Q e a w) (hn:∀a w,Φ .normal a w→∀K,wpOpIn F n P (pre++[o]).toArray Q pre.length K a w) :
  ∀(fuel:Nat) (listed:Array Bool) (a:Act) (w:World),listed.size=pre.length→zCv (pre++[o]) (listed.push false)→wpAnyIn F n P .any pre.toArray Φ fuel listed a w→wpAnyIn F n P .any (pre++[o]).toArray Q (fuel+1) (listed.push false) a w:=by
 have some_of:∀{i:Nat} {x:Oper},(pre++[o])[i]?=some x→i≠pre.length→pre[i]?=some x∧i<pre.length:=by
  intro i x hx hi
  have hlt:=(List.getElem?_eq_some_iff.1 hx).1
  simp only[List.length_append,List.length_singleton] at hlt
  have:i<pre.length:=by omega
  rw[List.getElem?_append_left this] at hx
  exact ⟨hx,this⟩
 have hA1:∀{listed:Array Bool} {i:Nat},listed.size=pre.length→i≠pre.length→i∈Region.ready .any (pre++[o]).toArray (listed.push false)→i<pre.length∧i∈Region.ready .any pre.toArray listed:=by
  intro listed i hsz hi hr
  obtain ⟨h1,x,hx,ha⟩:=mem_ready.1 hr
  rw[List.getElem?_toArray] at hx
  obtain ⟨hx,hlt⟩:=some_of hx hi
  rw[zJp (by omega)] at h1
  exact ⟨hlt,mem_ready.2 ⟨h1,x,by rw[List.getElem?_toArray];exact hx,fun e he hb=>zGD (ha e he hb)⟩⟩
 have hA2:∀{listed:Array Bool},listed.size=pre.length→zCv (pre++[o]) (listed.push false)→pre.length∈Region.ready .any (pre++[o]).toArray (listed.push false)→Region.ready .any pre.toArray listed=[]:=by
  intro listed hsz hc hr
  rw[List.eq_nil_iff_forall_not_mem]
  intro j hj
  obtain ⟨h1,x,hx,_⟩:=mem_ready.1 hj
  rw[List.getElem?_toArray] at hx
  have hlt:=(List.getElem?_eq_some_iff.1 hx).1
  have:=zGD (zAE hA hc hr (hm j hlt))
  have h2:=zAR h1
  rw[Array.getD_eq_getD_getElem?,h2] at this
  cases this
 have hA3:∀{listed:Array Bool},listed.size=pre.length→Region.ready .any (pre++[o]).toArray (listed.push false)≠[]:=by
  intro listed hsz h0
  obtain ⟨k,⟨h1,h2⟩,h3⟩:=zR (p:=fun k=>k<(pre++[o]).length∧(listed.push false).getD k false=false) ⟨pre.length,by simp,by
   rw[←hsz,Array.getD_eq_getD_getElem?];simp⟩
  have:=zBH hA (listed:=listed.push false) (by simp[hsz]) h1 h2 (fun j hj=>by
   cases hx:(listed.push false).getD j false with
   | true=>rfl
   | false=>have:=h3 j ⟨by omega,hx⟩;omega)
  rw[h0] at this;simp at this
 intro fuel
 induction fuel with
 | zero =>
  intro listed a w hsz hc h
  refine ⟨fun h0=>absurd h0 (hA3 hsz),fun i hi=>?_⟩
  by_cases e:i=pre.length
  ·subst e;exact hn a w h.2 _
  ·have:=(hA1 hsz e hi).2
   rw[h.1] at this;simp at this
 | succ fuel ih =>
  intro listed a w hsz hc h
  refine ⟨fun h0=>absurd h0 (hA3 hsz),fun i hi=>?_⟩
  by_cases e:i=pre.length
  ·subst e;exact hn a w (h.1 (hA2 hsz hc hi)) _
  ·obtain ⟨hlt,hr⟩:=hA1 hsz e hi
   have hop:=h.2 i hr
   have hx:pre[i]?=some pre[i]:=List.getElem?_eq_getElem hlt
   have hx2:(pre++[o])[i]?=some pre[i]:=by rw[List.getElem?_append_left hlt];exact hx
   have hgi:=hg _ (List.mem_of_getElem? hx2)
   unfold wpOpIn at hop⊢
   rw[List.getElem?_toArray,hx] at hop
   rw[List.getElem?_toArray,hx2]
   dsimp only at hop⊢
   have hw:∀y,Region.wanted pre[i] y=true:=fun y=>by simp only[Region.wanted,hgi]
   rw[hw,if_pos rfl] at hop
   rw[hw,if_pos rfl]
   refine Oper.wpIn_mono2 (fun a' w' hk=>?_) hq hop
   rw[zNb (by omega)]
   refine ih _ a' w' (by simpa using hsz) ?_ hk
   rw[←zNb (by omega)]
   exact zB8 hc fun x hxx e he hb=>by
    obtain ⟨_,y,hy,ha⟩:=mem_ready.1 hi
    rw[List.getElem?_toArray] at hy
    rw[hxx] at hy;cases hy
    exact ha e (by simpa using he) hb
section
variable {P:Program} {N L:Nat} {V:HV} {T:Nat→HV} {H:Heap}
theorem HD.tree {id:Nat} {pre:List Oper} {o:Oper} (I:(Nat→HV)→Heap→Prop) (p:Plan) (hm:P.follows .mixedOrders=true) (hB:anyB N pre.length pre=true) (hp:p.chk pre (befs pre []) [] [] []=true) (hB2:anyB N (pre++[o]).length (pre++[o])=true) (hl:zS3 pre o=true)
  (h:exT P pre (GQ N L I) p [] T H) (k:∀T H,I T H→HDo P N L o V T H):HD P N L (.region id (pre++[o]).toArray true) V T H:=by
 intro ro mm B Z G FP ds a w hB' hL hst
 have hA:=zEW hB
 have hA2:=zEW hB2
 unfold zS3 at hl
 rw[Bool.and_eq_true] at hl
 obtain ⟨hl1,hl2⟩:=hl
 have hg:∀x∈pre++[o],x.guard=none:=fun x hx=>by
  have:=List.all_eq_true.1 hl1 x hx
  simpa using this
 have hmu:∀k,k<pre.length→zAd (befs (pre++[o]) []) k pre.length=true:=fun k hk=>List.all_eq_true.1 hl2 k (List.mem_range.2 hk)
 have hEv:Evo Z FP w Z FP { w with drawn:=w.drawn+1 }:=⟨rfl,rfl,rfl,Nat.le_refl _,fun _ _ _=>rfl,fun _ h=>h,fun _ h=>.inl h,fun id b hb=>.inr ⟨id,hb⟩⟩
 have hi:HInv Z G FP H { w with drawn:=w.drawn+1 }:=hst.inv.keep (Nat.le_refl _) (fun _ _=>rfl)
 have hs':=hst.evo hi (GLe.refl _) hEv
 have hrep:∀k,(Array.replicate pre.length false).getD k false=false:=fun k=>by
  simp only[Array.getD_eq_getD_getElem?]
  by_cases hlt:k<pre.length
  ·rw[Array.getElem?_eq_getElem (by simpa using hlt)]
   simp
  ·rw[Array.getElem?_eq_none (by simpa using hlt)];rfl
 have e:∀g,tvS pre (fun k=>(Array.replicate pre.length false).getD k false) g T=T:=fun g=>by
  funext t
  unfold tvS
  rw[zBc]
  intro j _
  exact hrep _
 have e2:∀g,tvS pre (dm [] []) g T=T:=fun g=>by
  funext t
  unfold tvS
  rw[zBc]
  intro j _
  rfl
 let Φ:Exit→Act→World→Prop:=fun e a' w'=>e=.normal∧∃T H Z' G' FP',I T H∧St N B Z' G' FP' ds T H a' w'∧GLt L G G'∧Evo Z FP w Z' FP' w'
 have hany:wpAnyIn (Wd ro) mm P .any pre.toArray Φ pre.length (Array.replicate pre.length false) a { w with drawn:=w.drawn+1 }:=by
  refine zOK (K:=GQ N L I) (T0:=T) (B:=B) (L:=L) (Z0:=Z) (G0:=G) (FP0:=FP) (ds:=ds) (w0:=w) hA (fun Z' FP' w' hE=>hB'.evo hE) ?_ _ _ p [] [] [] (fun _=>.any) T H Z G FP _ _ (by simp) ?_ ?_ ?_ ?_ (GLt.refl hL) hEv
  ·rintro T1 H1 Z1 G1 FP1 a1 w1 ⟨T2,H2,g,hI⟩ hs1 hG1 hE1
   obtain ⟨Z3,G3,FP3,h1,h2,h3⟩:=g B Z1 G1 FP1 ds a1 w1 hG1.len hs1
   exact ⟨rfl,T2,H2,Z3,G3,FP3,hI,h1,hG1.trans h2,hE1.trans h3⟩
  ·have:∀k:Nat,left (Array.replicate k false)=k:=by intro k;simp[left]
   rw[this];exact Nat.le_refl _
  ·intro j o hj hl
   rw[hrep] at hl;cases hl
  ·exact ⟨hp,h,(e2 _).symm,fun i k hi=>(by simp[dm] at hi),fun i hi=>(by simp[dm] at hi),fun i hi=>(by rw[hrep] at hi;cases hi),fun i hi=>(by simp at hi),fun i hi=>(by simp at hi)⟩
  ·rw[e];exact hs'
 refine wpIn_region_any hm ?_
 have hsz:(pre++[o]).toArray.size=pre.length+1:=by simp
 rw[hsz]
 have hrp:Array.replicate (pre.length+1) false=(Array.replicate pre.length false).push false:=by rw[Array.replicate_succ]
 rw[hrp]
 refine zXx (Φ:=Φ) hA2 hg hmu (fun e a w he hq=>absurd hq.1 he) ?_ _ _ a _ (by simp) ?_ hany
 ·rintro a' w' ⟨_,T2,H2,Z2,G2,FP2,hI,hs2,hG2,hE2⟩ K
  unfold wpOpIn
  rw[List.getElem?_toArray,List.getElem?_append_right (Nat.le_refl _),Nat.sub_self]
  dsimp only[List.getElem?_cons_zero]
  have hw:∀y,Region.wanted o y=true:=fun y=>by simp only[Region.wanted,hg o (by simp)]
  rw[hw,if_pos rfl]
  exact k T2 H2 hI ro mm B Z2 G2 FP2 ds a' w' (hB'.evo hE2) hG2.len hs2 K _ fun e a'' w'' hd=>hd.evo hG2 hE2
 ·intro j x hj hl
  have:=zGD hl
  rw[hrep] at this;cases this
end
def zDp:List Oper→Option (List Oper×Oper)
 | []=>none
 | [x]=>some ([],x)
 | x::y::l=>(zDp (y::l)).map fun p=>(x::p.1,p.2)
theorem zE2 {x:Oper}:zDp [x]=some ([],x):=rfl
theorem zCX {x y:Oper} {l:List Oper}:zDp (x::y::l)=(zDp (y::l)).map fun p=>(x::p.1,p.2):=rfl
theorem zFg:∀{l pre:List Oper} {o:Oper},zDp l=some (pre,o)→l=pre++[o]
 | [],_,_,h=>by cases h
 | [x],pre,o,h=>by
  rw[zE2] at h
  cases h;rfl
 | x::y::l,pre,o,h=>by
  rw[zCX] at h
  obtain ⟨⟨p,z⟩,h1,h2⟩:=Option.map_eq_some_iff.1 h
  cases h2
  rw[zFg h1];rfl
theorem zHV {ops:Array Oper} {pre:List Oper} {o:Oper} (h:zDp ops.toList=some (pre,o)):ops=(pre++[o]).toArray:=by
 rw[←zFg h]
theorem zD2:∀{l:List Oper},l≠[]→∃pre o,zDp l=some (pre,o)
 | [],h=>absurd rfl h
 | [x],_=>⟨_,_,rfl⟩
 | x::y::l,_=>by
  obtain ⟨p,o,h⟩:=zD2 (l:=y::l) (by simp)
  exact ⟨x::p,o,by rw[zCX,h];rfl⟩
section
variable {P:Program} {N L:Nat} {V:HV} {T T' : Nat→HV} {H H' : Heap}
theorem HDo.ghost {o:Oper} (g:Ghost N L T H T' H') (h:HDo P N L o V T' H'):HDo P N L o V T H:=by
 intro ro n B Z G FP ds a w hB hL hs next Q hn
 obtain ⟨Z1,G1,FP1,h1,h2,h3⟩:=g B Z G FP ds a w hL hs
 exact h ro n B Z1 G1 FP1 ds a w (hB.evo h3) h2.len h1 next Q fun e a' w' hd=>hn e a' w' (hd.evo h2 h3)
theorem HD.regionA {id:Nat} {ops:Array Oper} {I:(Nat→HV)→Heap→Prop} (n:Nat) (hne:ops.toList≠[])
  (h:∀pre o,zDp ops.toList=some (pre,o)→((pre++[o]).all fun o=>zG N o && zAD o)=true∧o.guard=none∧ex P N L (zGH I) n [.ops (pre++[o]) pre] T H∧∀T H,I T H→HDo P N L o V T H):HD P N L (.region id ops false) V T H:=by
 obtain ⟨pre,o,hs⟩:=zD2 hne
 obtain ⟨h1,h2,h3,h4⟩:=h pre o hs
 rw[zHV hs]
 exact HD.region n h1 h2 h3 h4
theorem HD.treeA {id:Nat} {ops:Array Oper} (I:(Nat→HV)→Heap→Prop) (p:Plan) (hm:P.follows .mixedOrders=true) (hne:ops.toList≠[])
  (h:∀pre o,zDp ops.toList=some (pre,o)→(anyB N pre.length pre=true∧p.chk pre (befs pre []) [] [] []=true∧anyB N (pre++[o]).length (pre++[o])=true∧zS3 pre o=true)∧
   exT P pre (GQ N L I) p [] T H∧∀T H,I T H→HDo P N L o V T H):HD P N L (.region id ops true) V T H:=by
 obtain ⟨pre,o,hs⟩:=zD2 hne
 obtain ⟨⟨h1,h2,h3,h4⟩,h5,h6⟩:=h pre o hs
 rw[zHV hs]
 exact HD.tree I p hm h1 h2 h3 h4 h5 h6
end
end Go.Proofs.YtoknohandclcbaaGreat
namespace Go.Proofs.YtoknohandclcbaaGreat
open Go.RowKit
set_option maxRecDepth 8000
structure TryOk (l:List (List Int)) (m:Nat) (all row:List Int):Prop where
 all:all.length≤100000
 row:row.length+m≤100000
 len:l.length≤100000
 each:∀r∈l,r.length≤100000
abbrev tryA (l:List (List Int)) (m:Nat) (all row:List Int):List HV:=[.sl (ints all),.v (.int .i64 m),.sl (ints row),.sl (rws l)]
abbrev zYL (row:List Int):HObj:=⟨22,1,[[.sl (ints row)]]⟩
set_option maxHeartbeats 8000000 in
theorem zVB (l:List (List Int)) (all row:List Int) (ok:TryOk l 0 all row) (h:tryF l 0 all row=none):HFn Tryz.prog 145 (tryA l 0 all row) (.tu []):=by
 have hi:=zNV row l (by have:=ok.row;omega) (by have:=ok.len;omega) (fun r hr=>by have:=ok.each r hr;omega)
 have hg:=zHS row l
 have hh:zB2 row l=false:=by
  unfold tryF at h
  cases hb:zB2 row l with
  | false=>rfl
  | true=>rw[if_pos hb] at h;cases h
 rw[hh] at hg
 generalize idxF (fun row'=>!zBL row' row) l=q at hi hg
 have c0:(q<0)=False:=by simpa using hg
 refine zB (fn:=Tryz.f145) 48 [] (by kernel_rfl) rfl (by kernel_rfl) (HW.run 400 (by kernel_rfl) ?_)
 simp +decide only[go_sem,nT,nA,nS,nM,nB,reduceIte,reduceCtorEq]
 refine zO 3 hi (by simp only[go_sem];rfl) rfl ?_
 simp +decide only[go_sem,nT,nA,nS,nM,nB,reduceIte,reduceCtorEq,c0]
set_option maxHeartbeats 8000000 in
theorem zVA (l:List (List Int)) (m:Nat) (all row:List Int) (ok:TryOk l (m+1) all row) (h:tryF l (m+1) all row=none)
  (ih:∀all row,TryOk l m all row→tryF l m all row=none→HFn Tryz.prog 145 (tryA l m all row) (.tu [])):HFn Tryz.prog 145 (tryA l ((m+1:Nat)) all row) (.tu []):=by
 have hal:=ok.all
 have hrl:=ok.row
 have hi:=zNV row l (by omega) (by have:=ok.len;omega) (fun r hr=>by have:=ok.each r hr;omega)
 generalize idxF (fun row'=>!zBL row' row) l=q at hi
 have c1:(((m+1:Nat):Int)=0)=False:=by simp only[eq_iff_iff,iff_false];omega
 have h' : tryG (tryF l m) row all=none:=h
 refine zB (fn:=Tryz.f145) 48 [] (by kernel_rfl) rfl (by kernel_rfl) (HW.run 400 (by kernel_rfl) ?_)
 simp +decide only[go_sem,nT,nA,nS,nM,nB,reduceIte,reduceCtorEq]
 refine zO 3 hi (by simp only[go_sem];rfl) rfl ?_
 rcases tfE' (q<0) with ⟨d0,c0⟩ | ⟨d0,c0⟩
 all_goals
  simp +decide only[go_sem,nT,nA,nS,nM,nB,reduceIte,reduceCtorEq,c0,c1]
  refine HW.loopG (fun k T H=>∃i:Nat,k=all.length-i∧i≤all.length∧tryG (tryF l m) row (all.drop i)=none∧T 0=.sl (ints all)∧T 1=.v (.int .i64 ((m+1:Nat):Int))∧T 3=.sl (rws l)∧T 6=.pt 0 1 0 0∧T 27=.sl (ints all)∧T 28=.v (.int .i64 all.length)∧T 29=.v (.int .i64 i)∧H=[some (zYL row)]) all.length ⟨_,_,Ghost.refl,0,rfl,by omega,h',rfl,rfl,rfl,rfl,rfl,rfl,rfl,rfl⟩ ?_
  rintro k T H ⟨i,rfl,hil,hp,h0,h1,h3,h6,h27,h28,h29,rfl⟩
  refine HW.run 200 (by kernel_rfl) ?_
  by_cases hlt:i<all.length
  ·have hlt' : ((i:Int)<(all.length:Int))=True:=by simp only[eq_iff_iff,iff_true];omega
   have hx:all[i]?=some all[i]:=List.getElem?_eq_getElem hlt
   have hdr:all.drop i=all[i]::all.drop (i+1):=List.drop_eq_getElem_cons hlt
   generalize all[i]=n at hx hdr
   rw[hdr,tryG] at hp
   cases ht:tryF l m (all.drop (i+1)) (row++[n]) with
   | some r=>rw[ht] at hp;cases hp
   | none =>
    rw[ht] at hp
    have hih:=ih (all.drop (i+1)) (row++[n]) ⟨by simp;omega,by simp;omega,ok.len,ok.each⟩ ht
    have w1:IntKind.i64.wrap ((i:Int)+1)=((i+1:Nat):Int):=w64 (by omega) (by omega)
    have w2:IntKind.i64.wrap (((m+1:Nat):Int)-1)=(m:Int):=by rw[w64 (by omega) (by omega)];omega
    have tk:List.take (all.length-(i+1)) (List.drop (i+1) all)=List.drop (i+1) all:=List.take_of_length_le (by simp)
    have hln:(row++[n]).length=row.length+1:=by simp
    simp +decide only[go_sem,nT,nA,nS,nM,nB,reduceIte,reduceCtorEq,h0,h1,h3,h6,h27,h28,h29,hlt',hx]
    refine HW.tree 1 (.light 0 (.light 1 (.light 2 (.light 3 (.light 4 (.light 5 (.light 6 (.light 8 (.light 11 (.heavy 7 [0,1,2,3,4,5,8,11] (.heavy 9 [0,1,2,3,4,5,6,11] (.heavy 10 [0,1,2,3,4,5,11] (.heavy 12 [] .leaf .stop) .stop) .stop) (.heavy 9 [0,1,2,3,4,5,6,11] (.heavy 7 [0,1,2,3,4,5,8,11] (.heavy 10 [0,1,2,3,4,5,11] (.heavy 12 [] .leaf .stop) .stop) .stop) .stop))))))))))) follows (by kernel_rfl) (by kernel_rfl) ?_
    simp +decide only[go_sem,nT,nA,nS,nM,nB,reduceIte,reduceCtorEq,h0,h1,h3,h6,h27,h28,h29,hlt',hx,w1,w2]
    repeat (with_reducible refine And.intro ?_ ?_;·(with_reducible and_intros) <;> omega)
    refine ⟨?_,?_⟩
    all_goals
     refine zD (zAh row (by omega)) rfl rfl ?_
     simp +decide only[go_sem,nT,nA,nS,nM,nB,reduceIte,reduceCtorEq,h0,h1,h3,h6,h27,h28,h29,hlt',hx,w1,w2]
     repeat (with_reducible refine And.intro ?_ ?_;·(with_reducible and_intros) <;> omega)
     refine zO 3 hih ?_ rfl ?_
     ·simp only[go_sem,tk,hln,Nat.zero_add,if_true]
      done
     simp +decide only[go_sem,nT,nA,nS,nM,nB,reduceIte,reduceCtorEq,h0,h1,h3,h6,h27,h28,h29,hlt',hx,w1,w2]
     refine ⟨_,_,Ghost.trunc [0,1,3,6,27,28,29] 1 (by omega) ?_ ?_,all.length-(i+1),by omega,i+1,rfl,by omega,hp,?_,?_,?_,?_,?_,?_,?_,?_⟩
     all_goals first | (simp +decide only[go_sem,nB,reduceIte,h0,h1,h3,h6,h27,h28];done) | rfl
  ·have hlt' : ((i:Int)<(all.length:Int))=False:=by simp only[eq_iff_iff,iff_false];omega
   simp +decide only[go_sem,nT,nA,nS,nM,nB,reduceIte,reduceCtorEq,h0,h1,h3,h6,h27,h28,h29,hlt']
end Go.Proofs.YtoknohandclcbaaGreat
namespace Go.Proofs.YtoknohandclcbaaGreat
open Go.RowKit
set_option maxRecDepth 8000
theorem zZQ {I:KS}:zGH I .normal=I:=rfl
attribute [go_sem] zZQ
abbrev tryB (l:List (List Int)) (m:Nat) (all row:List Int) (T:Nat→HV) (H:Heap):Prop:=T 0=.sl (ints all)∧T 1=.v (.int .i64 m)∧T 3=.sl (rws l)∧T 6=.pt 0 1 0 0∧H=[some (zYL row)]
set_option maxHeartbeats 8000000 in
theorem zVD (l:List (List Int)) (all row r:List Int) (ok:TryOk l 0 all row) (h:tryF l 0 all row=some r):zQk Tryz.prog 145 (tryA l 0 all row) (.ic 179 (.sl (ints r))):=by
 have hi:=zNV row l (by have:=ok.row;omega) (by have:=ok.len;omega) (fun r hr=>by have:=ok.each r hr;omega)
 have hg:=zHS row l
 have hrl:=ok.row
 have hh:zB2 row l=true∧row=r:=by
  unfold tryF at h
  cases hb:zB2 row l with
  | false=>rw[if_neg (by simp[hb])] at h;cases h
  | true=>rw[if_pos hb] at h;cases h;exact ⟨rfl,rfl⟩
 obtain ⟨hh,rfl⟩:=hh
 rw[hh] at hg
 generalize idxF (fun row'=>!zBL row' row) l=q at hi hg
 have c0:(q<0)=True:=by simpa using hg
 refine zHx (fn:=Tryz.f145) 48 rfl rfl (by kernel_rfl) rfl ?_
 refine HD.seq2 (I:=tryB l 0 all row) (HW.run 60 (by kernel_rfl) ?_) ?_
 ·simp +decide only[go_sem,nT,nA,nS,nM,nB,reduceIte,reduceCtorEq]
  exact ⟨rfl,rfl,rfl,rfl,rfl⟩
 rintro T H ⟨h0,h1,h3,h6,rfl⟩
 refine HD.seq2 (I:=fun T H=>tryB l 0 all row T H∧T 8=.v (.int .i64 q)) (HW.run 60 (by kernel_rfl) ?_) ?_
 ·simp +decide only[go_sem,nT,nA,nS,nM,nB,reduceIte,reduceCtorEq,h0,h1,h3,h6]
  refine zO 3 hi (by simp only[go_sem];rfl) rfl ?_
  simp +decide only[go_sem,nT,nA,nS,nM,nB,reduceIte,reduceCtorEq,h0,h1,h3,h6]
  refine ⟨?_,?_,?_,?_,rfl⟩
  all_goals simp +decide only[go_sem,nB,reduceIte,h0,h1,h3,h6]
 rintro T H ⟨⟨h0,h1,h3,h6,rfl⟩,h8⟩
 refine HD.seq1 (HD.block ?_)
 refine HD.seq2 (I:=fun T H=>tryB l 0 all row T H∧T 14=.v (.bool true)) (HW.run 60 (by kernel_rfl) ?_) ?_
 ·simp +decide only[go_sem,nT,nA,nS,nM,nB,reduceIte,reduceCtorEq,h0,h1,h3,h6,h8,c0]
  refine ⟨?_,?_,?_,?_,rfl⟩
  all_goals simp +decide only[go_sem,nB,reduceIte,h0,h1,h3,h6]
 rintro T H ⟨⟨h0,h1,h3,h6,rfl⟩,h14⟩
 refine HD.cond (t:=true) (by decide) h14 (fun _=>?_) (fun h=>by cases h)
 refine HD.regionA (I:=fun T H=>T 23=.ic 179 (.sl (ints row))) 60 (by simp) ?_
 intro pre o hs
 simp only[zE2,zCX,Option.map_some,Option.some.injEq,Prod.mk.injEq] at hs
 obtain ⟨rfl,rfl⟩:=hs
 refine ⟨by kernel_rfl,rfl,?_,?_⟩
 ·simp +decide only[go_sem,nT,nA,nS,nM,nB,reduceIte,reduceCtorEq,h0,h1,h3,h6]
  have hc:HFn Tryz.prog 154 [.sl (ints row)] (.sl (ints row)):=HFn.shut (R':=.sl (ints row)) (zAh row (by omega)) (by simp only[fzo,zAU])
  refine zD (hc) rfl rfl ?_
  simp +decide only[go_sem,nT,nA,nS,nM,nB,reduceIte,reduceCtorEq,h0,h1,h3,h6]
 ·intro T H h23
  exact HDo.panic rfl (by kernel_rfl) h23
abbrev tryL (l:List (List Int)) (m:Nat) (all row r:List Int) (k:Nat) (T:Nat→HV) (H:Heap):Prop:=∃i:Nat,k=all.length-i∧i≤all.length∧tryG (tryF l m) row (all.drop i)=some r∧tryB l (m+1) all row T H∧T 27=.sl (ints all)∧T 28=.v (.int .i64 all.length)∧T 29=.v (.int .i64 i)
set_option maxHeartbeats 8000000 in
theorem zVC (l:List (List Int)) (m:Nat) (all row r:List Int) (ok:TryOk l (m+1) all row) (h:tryF l (m+1) all row=some r)
  (ih0:∀all row,TryOk l m all row→tryF l m all row=none→HFn Tryz.prog 145 (tryA l m all row) (.tu []))
  (ih:∀all row r,TryOk l m all row→tryF l m all row=some r→zQk Tryz.prog 145 (tryA l m all row) (.ic 179 (.sl (ints r)))) :
  zQk Tryz.prog 145 (tryA l ((m+1:Nat)) all row) (.ic 179 (.sl (ints r))):=by
 have hal:=ok.all
 have hrl:=ok.row
 have hi:=zNV row l (by omega) (by have:=ok.len;omega) (fun r hr=>by have:=ok.each r hr;omega)
 generalize idxF (fun row'=>!zBL row' row) l=q at hi
 have c1:(((m+1:Nat):Int)=0)=False:=by simp only[eq_iff_iff,iff_false];omega
 have h' : tryG (tryF l m) row all=some r:=h
 refine zHx (fn:=Tryz.f145) 48 rfl rfl (by kernel_rfl) rfl ?_
 refine HD.seq2 (I:=tryB l (m+1) all row) (HW.run 60 (by kernel_rfl) ?_) ?_
 ·simp +decide only[go_sem,nT,nA,nS,nM,nB,reduceIte,reduceCtorEq]
  exact ⟨rfl,rfl,rfl,rfl,rfl⟩
 rintro T H ⟨h0,h1,h3,h6,rfl⟩
 refine HD.seq2 (I:=fun T H=>tryB l (m+1) all row T H∧T 8=.v (.int .i64 q)) (HW.run 60 (by kernel_rfl) ?_) ?_
 ·simp +decide only[go_sem,nT,nA,nS,nM,nB,reduceIte,reduceCtorEq,h0,h1,h3,h6]
  refine zO 3 hi (by simp only[go_sem];rfl) rfl ?_
  simp +decide only[go_sem,nT,nA,nS,nM,nB,reduceIte,reduceCtorEq,h0,h1,h3,h6]
  and_intros
  all_goals first | rfl | (simp +decide only[go_sem,nB,reduceIte,h0,h1,h3,h6];done)
 rintro T H ⟨⟨h0,h1,h3,h6,rfl⟩,h8⟩
 refine HD.seq2 (I:=tryB l (m+1) all row) (HW.run 60 (by kernel_rfl) ?_) ?_
 ·rcases tfE' (q<0) with ⟨d0,c0⟩ | ⟨d0,c0⟩
  all_goals
   simp +decide only[go_sem,nT,nA,nS,nM,nB,reduceIte,reduceCtorEq,h0,h1,h3,h6,h8,c0,c1]
   and_intros
   all_goals first | rfl | (simp +decide only[go_sem,nB,reduceIte,h0,h1,h3,h6];done)
 rintro T H ⟨h0,h1,h3,h6,rfl⟩
 refine HD.seq2 (I:=fun T H=>tryB l (m+1) all row T H∧T 27=.sl (ints all)∧T 28=.v (.int .i64 all.length)∧T 29=.v (.int .i64 (0:Nat))) (HW.run 60 (by kernel_rfl) ?_) ?_
 ·simp +decide only[go_sem,nT,nA,nS,nM,nB,reduceIte,reduceCtorEq,h0,h1,h3,h6]
  and_intros
  all_goals first | rfl | (simp +decide only[go_sem,nB,reduceIte,h0,h1,h3,h6];done)
 rintro T H ⟨⟨h0,h1,h3,h6,rfl⟩,h27,h28,h29⟩
 refine HD.block (HD.loop (tryL l m all row r) all.length ⟨0,rfl,by omega,h',⟨h0,h1,h3,h6,rfl⟩,h27,h28,h29⟩ ?_)
 rintro k T H ⟨i,rfl,hil,hp,⟨h0,h1,h3,h6,rfl⟩,h27,h28,h29⟩
 by_cases hlt:i<all.length
 ·have hlt' : ((i:Int)<(all.length:Int))=True:=by simp only[eq_iff_iff,iff_true];omega
  have hx:all[i]?=some all[i]:=List.getElem?_eq_getElem hlt
  have hdr:all.drop i=all[i]::all.drop (i+1):=List.drop_eq_getElem_cons hlt
  generalize all[i]=n at hx hdr
  rw[hdr,tryG] at hp
  have w1:IntKind.i64.wrap ((i:Int)+1)=((i+1:Nat):Int):=w64 (by omega) (by omega)
  have w2:IntKind.i64.wrap (((m+1:Nat):Int)-1)=(m:Int):=by rw[w64 (by omega) (by omega)];omega
  have tk:List.take (all.length-(i+1)) (List.drop (i+1) all)=List.drop (i+1) all:=List.take_of_length_le (by simp)
  have hln:(row++[n]).length=row.length+1:=by simp
  have hok:TryOk l m (all.drop (i+1)) (row++[n]):=⟨by simp;omega,by simp;omega,ok.len,ok.each⟩
  cases ht:tryF l m (all.drop (i+1)) (row++[n]) with
  | none =>
   rw[ht] at hp
   have hih:=ih0 (all.drop (i+1)) (row++[n]) hok ht
   refine .inr (HW.weaken (Q':=zGH (GQ 48 0 fun T' H'=>∃k',k' < all.length-i∧tryL l m all row r k' T' H')) (HW.run 200 (by kernel_rfl) ?_) ?_)
   ·simp +decide only[go_sem,nT,nA,nS,nM,nB,reduceIte,reduceCtorEq,h0,h1,h3,h6,h27,h28,h29,hlt',hx]
    refine HW.tree 1 (.light 0 (.light 1 (.light 2 (.light 3 (.light 4 (.light 5 (.light 6 (.light 8 (.light 11 (.heavy 7 [0,1,2,3,4,5,8,11] (.heavy 9 [0,1,2,3,4,5,6,11] (.heavy 10 [0,1,2,3,4,5,11] (.heavy 12 [] .leaf .stop) .stop) .stop) (.heavy 9 [0,1,2,3,4,5,6,11] (.heavy 7 [0,1,2,3,4,5,8,11] (.heavy 10 [0,1,2,3,4,5,11] (.heavy 12 [] .leaf .stop) .stop) .stop) .stop))))))))))) follows (by kernel_rfl) (by kernel_rfl) ?_
    simp +decide only[go_sem,nT,nA,nS,nM,nB,reduceIte,reduceCtorEq,h0,h1,h3,h6,h27,h28,h29,hlt',hx,w1,w2]
    repeat (with_reducible refine And.intro ?_ ?_;·(with_reducible and_intros) <;> omega)
    refine ⟨?_,?_⟩
    all_goals
     refine zD (zAh row (by omega)) rfl rfl ?_
     simp +decide only[go_sem,nT,nA,nS,nM,nB,reduceIte,reduceCtorEq,h0,h1,h3,h6,h27,h28,h29,hlt',hx,w1,w2]
     repeat (with_reducible refine And.intro ?_ ?_;·(with_reducible and_intros) <;> omega)
     refine zO 3 hih ?_ rfl ?_
     ·simp only[go_sem,tk,hln,Nat.zero_add,if_true]
     simp +decide only[go_sem,nT,nA,nS,nM,nB,reduceIte,reduceCtorEq,h0,h1,h3,h6,h27,h28,h29,hlt',hx,w1,w2]
     refine ⟨_,_,Ghost.trunc [0,1,3,6,27,28,29] 1 (by omega) ?_ ?_,all.length-(i+1),by omega,i+1,rfl,by omega,hp,⟨?_,?_,?_,?_,?_⟩,?_,?_,?_⟩
     all_goals first | (simp +decide only[go_sem,nB,reduceIte,h0,h1,h3,h6,h27,h28];done) | rfl
   ·intro e T' H' hq
    cases e with
    | normal =>
     obtain ⟨T2,H2,g,hi⟩:=hq
     exact ⟨T2,H2,g,hi⟩
    | _=>exact hq.elim
  | some r' =>
   rw[ht] at hp
   cases hp
   have hih:=ih (all.drop (i+1)) (row++[n]) r hok ht
   refine .inl ?_
   refine HD.seq2 (I:=fun T H=>tryB l (m+1) all row T H∧T 27=.sl (ints all)∧T 29=.v (.int .i64 i)∧T 30=.v (.bool true)) (HW.run 60 (by kernel_rfl) ?_) ?_
   ·simp +decide only[go_sem,nT,nA,nS,nM,nB,reduceIte,reduceCtorEq,h0,h1,h3,h6,h27,h28,h29,hlt']
    and_intros
    all_goals first | rfl | (simp +decide only[go_sem,nB,reduceIte,h0,h1,h3,h6,h27,h29];done)
   rintro T H ⟨⟨h0,h1,h3,h6,rfl⟩,h27,h29,h30⟩
   refine HD.seq2 (I:=fun T H=>tryB l (m+1) all row T H∧T 27=.sl (ints all)∧T 29=.v (.int .i64 i)) (HW.run 60 (by kernel_rfl) ?_) ?_
   ·simp +decide only[go_sem,nT,nA,nS,nM,nB,reduceIte,reduceCtorEq,h0,h1,h3,h6,h27,h29,h30]
    and_intros
    all_goals first | rfl | assumption
   rintro T H ⟨⟨h0,h1,h3,h6,rfl⟩,h27,h29⟩
   refine HD.seq1 (HD.block ?_)
   refine HD.seq2 (I:=fun T H=>tryB l (m+1) all row T H∧T 9=.v (.int .i64 i)∧T 10=.v (.int .i64 n)) (HW.run 60 (by kernel_rfl) ?_) ?_
   ·simp +decide only[go_sem,nT,nA,nS,nM,nB,reduceIte,reduceCtorEq,h0,h1,h3,h6,h27,h29,hx]
    and_intros
    all_goals first | rfl | assumption | (simp +decide only[go_sem,nB,reduceIte,h0,h1,h3,h6,h27,h29];done) | omega
   rintro T H ⟨⟨h0,h1,h3,h6,rfl⟩,h9,h10⟩
   refine HD.treeA (fun T H=>T 37=.sl (ints (all.drop (i+1)))∧T 39=.v (.int .i64 m)∧T 44=.sl (ints (row++[n]))∧T 45=.sl (rws l)) (.light 0 (.light 1 (.light 2 (.light 3 (.light 4 (.light 5 (.light 6 (.light 8 (.light 11 (.heavy 7 [0,1,2,3,4,5,8,11] (.heavy 9 [0,1,2,3,4,5,6,11] (.heavy 10 [0,1,2,3,4,5,11] .leaf .stop) .stop) (.heavy 9 [0,1,2,3,4,5,6,11] (.heavy 7 [0,1,2,3,4,5,8,11] (.heavy 10 [0,1,2,3,4,5,11] .leaf .stop) .stop) .stop))))))))))) follows (by simp) ?_;intro pre o hs;simp only[zE2,zCX,Option.map_some,Option.some.injEq,Prod.mk.injEq] at hs;obtain ⟨rfl,rfl⟩:=hs;refine ⟨⟨by kernel_rfl,by kernel_rfl,by kernel_rfl,by kernel_rfl⟩,?_,?_⟩
   ·simp +decide only[go_sem,nT,nA,nS,nM,nB,reduceIte,reduceCtorEq,h0,h1,h3,h6,h9,h10,w1,w2]
    repeat (with_reducible refine And.intro ?_ ?_;·(with_reducible and_intros) <;> omega)
    refine ⟨?_,?_⟩
    all_goals
     refine zD (zAh row (by omega)) rfl rfl ?_
     simp +decide only[go_sem,nT,nA,nS,nM,nB,reduceIte,reduceCtorEq,h0,h1,h3,h6,h9,h10,w1,w2]
     repeat (with_reducible refine And.intro ?_ ?_;·(with_reducible and_intros) <;> omega)
     first
      | refine ⟨_,_,Ghost.freezeHd 44 1 (row.length+1) rfl rfl (by simp only[zAB,hln]),?_,?_,?_,?_⟩
      | refine ⟨_,_,Ghost.freezeHd 44 2 (row.length+1) rfl rfl (by simp only[zAB,hln]),?_,?_,?_,?_⟩
     all_goals first | (simp +decide only[go_sem,nB,reduceIte,tk];done) | rfl
   ·rintro T H ⟨h37,h39,h44,h45⟩
    refine HDo.call rfl (by kernel_rfl) rfl (by decide) ?_ ?_ rfl hih
    ·show [T 37,T 39,T 44,T 45]=_
     rw[h37,h39,h44,h45]
    ·rfl
 ·rw[List.drop_of_length_le (by omega)] at hp
  cases hp
theorem zHT (l:List (List Int)):∀(m:Nat) (all row:List Int),TryOk l m all row→(tryF l m all row=none→HFn Tryz.prog 145 (tryA l m all row) (.tu []))∧(∀r,tryF l m all row=some r→zQk Tryz.prog 145 (tryA l m all row) (.ic 179 (.sl (ints r))))
 | 0,all,row,ok=>⟨zVB l all row ok,fun r=>zVD l all row r ok⟩
 | m+1,all,row,ok=>⟨fun h=>zVA l m all row ok h fun all row ok=>(zHT l m all row ok).1,fun r h=>zVC l m all row r ok h (fun all row ok=>(zHT l m all row ok).1) fun all row r ok=>(zHT l m all row ok).2 r⟩
end Go.Proofs.YtoknohandclcbaaGreat
namespace Go.Proofs.YtoknohandclcbaaGreat
open Go.RowKit
set_option maxRecDepth 8000
abbrev zC1 (x:HV):HObj:=⟨22,1,[[x]]⟩
theorem zUU (p:Addr) (w:World):CallsD Tryz.prog 144 #[.pointer (some p)] .returning w fun e u' w'=>e=.returned (.tuple #[])∧u'=.returning∧w'=w:=by
 refine callsD_of_wpS Tryz.func144 rfl fun c₀ cs hu=>?_
 apply wpS_seq
 apply wpS_region
 simp[wpOpsS,go_sem,recoverD,hu,Tryz.ntmps144,Exit.thenS]
 refine wpS_of_wp ?_
 go_wp2
 cases c₀
 simp_all [bodyPostS,results,Tryz.results144,go_sem]
 done
section
variable {P:Program} {N L:Nat} {Q:Exit→KS} {T:Nat→HV} {H:Heap}
theorem zUm {o:Oper} {x:Operand} {xT t:TypeId} {y:HV} {K:KT} (ho:o.op=.typeAssert x xT t true) (hok:zG N o=true) (hx:hev T x=.ic t y)
  (hrun:∀z w,(Instr.typeAssert (.iface t z) xT t true).run P w=.ok (.tuple #[z,.bool true]) w) (h:K (.tu [y,.v (.bool true)]) H):HQ P N o T H K:=fun B Z G FP ds a w hs=>by
 have h1:=hs.hev x (zF hok (by simp[ho,Op.operands]))
 rw[hx] at h1
 simp only[RV] at h1
 obtain ⟨_,z,hz,hy⟩:=h1
 refine ⟨.tuple #[z,.bool true],.tu [y,.v (.bool true)],?_,h,?_⟩
 ·unfold execOp
  rw[ho]
  show (Sem.run P (Next.value <$> Instr.typeAssert (a.eval x) xT t true) w)=_
  rw[hz]
  have:=hrun z w
  simp only[map_eq_pure_bind,Sem.run_bind,this,Result.andThen_ok,Sem.run_pure]
 ·simp only[RV,RL]
  exact ⟨_,rfl,z,[.bool true],[],[],rfl,rfl,hy,_,[],[],[],rfl,rfl,⟨rfl,rfl⟩,rfl,rfl⟩
theorem HW.regionF {id:Nat} {ops:Array Oper} {o:Oper} {rest:List Oper} {K:KS} (n:Nat) (he:ops.toList=o::rest) (hok:((o::rest).all fun o=>zG N o && zAD o)=true) (hg:o.guard=none) (ho:HO P N L o T H K)
  (k:∀T' H',K T' H'→ex P N L Q n [.ops (o::rest) rest] T' H'):HW P N L (.region id ops false) Q T H:=by
 intro ro m B Z G FP ds a w hB hL hs
 have e:ops=(o::rest).toArray:=by rw[←he]
 subst e
 refine wpIn_region_list ?_
 refine wpListIn_plain hg fun K' hK'=>?_
 refine ho ro m B Z G FP ds a w hB hL hs K' _ ?_
 rintro a' w' ⟨T',H',Z',G',FP',hK,hs',hG',hE'⟩
 refine hK' _ _ ?_
 have hrest:(rest.all fun o=>zG N o && zAD o)=true:=by
  rw[List.all_eq_true] at hok⊢
  exact fun x hx=>hok x (by simp[hx])
 have:=zCP n [.ops (o::rest) rest] T' H' (k T' H' hK) (by simp only[List.all_cons,List.all_nil,zAn,hrest,Bool.and_true] at hok⊢;simp[hok]) ro m B Z G FP w Z' G' FP' ds a' w' (hB.evo hE') hs' hG' hE'
 simp only[M] at this
 exact this
theorem zE0 {F:Fence} {n:Nat} {ops:Array Oper} {Q Φ:Exit→Act→World→Prop} {rest:List Oper} (hq:∀e a w,e≠.normal→Φ e a w→Q e a w) (hn:∀a w,Φ .normal a w→wpListIn F n P ops Q rest a w):∀(pre:List Oper) (a:Act) (w:World),wpListIn F n P ops Φ pre a w→wpListIn F n P ops Q (pre++rest) a w
 | [],a,w,h=>hn a w h
 | p::pre,a,w,h=>by
  simp only[List.cons_append]
  unfold wpListIn at h⊢
  split
  ·rename_i hw
   rw[if_pos hw] at h
   exact Oper.wpIn_mono2 (fun a w h=>zE0 hq hn pre a w h) hq h
  ·rename_i hw
   rw[if_neg hw] at h
   exact ⟨h.1,zE0 hq hn pre _ w h.2⟩
def cutL:Nat→List Oper→Option (List Oper×Oper×List Oper)
 | _,[]=>none
 | 0,x::l=>some ([],x,l)
 | k+1,x::l=>(cutL k l).map fun p=>(x::p.1,p.2.1,p.2.2)
theorem zKm {x:Oper} {l:List Oper}:cutL 0 (x::l)=some ([],x,l):=rfl
theorem zGb {k:Nat} {x:Oper} {l:List Oper}:cutL (k+1) (x::l)=(cutL k l).map fun p=>(x::p.1,p.2.1,p.2.2):=rfl
theorem zKn:∀(k:Nat) {l pre rest:List Oper} {o:Oper},cutL k l=some (pre,o,rest)→l=pre++o::rest
 | 0,[],_,_,_,h=>by cases h
 | k+1,[],_,_,_,h=>by cases h
 | 0,x::l,pre,rest,o,h=>by
  rw[zKm] at h
  cases h;rfl
 | k+1,x::l,pre,rest,o,h=>by
  rw[zGb] at h
  obtain ⟨⟨p,z,q⟩,h1,h2⟩:=Option.map_eq_some_iff.1 h
  cases h2
  rw[zKn k h1];rfl
theorem zKo:∀{k:Nat} {l:List Oper},k<l.length→∃pre o rest,cutL k l=some (pre,o,rest)
 | k,[],h=>by simp at h
 | 0,x::l,_=>⟨_,_,_,rfl⟩
 | k+1,x::l,h=>by
  obtain ⟨p,o,q,h⟩:=zKo (k:=k) (l:=l) (by simpa using h)
  exact ⟨x::p,o,q,by rw[zGb,h];rfl⟩
theorem HW.regionM {id:Nat} {ops:Array Oper} {I K:KS} (k n:Nat) (hk:k<ops.toList.length) (hok:(ops.toList.all fun o=>zG N o && zAD o)=true)
  (h:∀pre o rest,cutL k ops.toList=some (pre,o,rest)→o.guard=none∧ex P N L (zGH I) n [.ops (pre++o::rest) pre] T H∧(∀T H,I T H→HO P N L o T H K)∧∀T' H',K T' H'→ex P N L Q n [.ops (pre++o::rest) rest] T' H'):HW P N L (.region id ops false) Q T H:=by
 obtain ⟨pre,o,rest,hs⟩:=zKo hk
 obtain ⟨hg,hp,ho,hr⟩:=h pre o rest hs
 have he:=zKn k hs
 intro ro m B Z G FP ds a w hB hL hst
 have e:ops=(pre++o::rest).toArray:=by rw[←he]
 subst e
 have hok' : ((pre++o::rest).all fun o=>zG N o && zAD o)=true:=hok
 have hsub:∀l:List Oper,(∀x∈l,x∈pre++o::rest)→(l.all fun o=>zG N o && zAD o)=true:=fun l hl=>by
  rw[List.all_eq_true] at hok'⊢
  exact fun x hx=>hok' x (hl x hx)
 refine wpIn_region_list ?_
 have h1:=zCP n [.ops (pre++o::rest) pre] T H hp (by simp only[List.all_cons,List.all_nil,zAn,hok',hsub pre (fun x hx=>by simp[hx]),Bool.and_self]) ro m B Z G FP w Z G FP ds a w hB hst (GLt.refl hL) (Evo.refl _ _ _)
 simp only[M] at h1
 refine zE0 (Φ:=Fin (zGH I) N L B Z G FP w) ?_ ?_ pre a w (by simpa using h1)
 ·intro e a' w' he hq
  cases e with
  | normal=>exact absurd rfl he
  | _ =>
   obtain ⟨T',H',Z',G',FP',ds',h1,_⟩:=hq
   exact False.elim h1
 ·intro a' w' hq
  obtain ⟨T',H',Z',G',FP',ds',h1,h2,h3,h4⟩:=hq
  refine wpListIn_plain hg fun K' hK'=>?_
  refine ho T' H' h1 ro m B Z' G' FP' ds' a' w' (hB.evo h4) h3.len h2 K' _ ?_
  rintro a2 w2 ⟨T2,H2,Z2,G2,FP2,hK2,hs2,hG2,hE2⟩
  refine hK' _ _ ?_
  have h5:=zCP n [.ops (pre++o::rest) rest] T2 H2 (hr T2 H2 hK2) (by simp only[List.all_cons,List.all_nil,zAn,hok',hsub rest (fun x hx=>by simp[hx]),Bool.and_self]) ro m B Z G FP w Z2 G2 FP2 ds' a2 w2 (hB.evo (h4.trans hE2)) hs2 (h3.trans hG2) (h4.trans hE2)
  simp only[M] at h5
  exact h5
theorem zQj {o:Oper} {t u:TypeId} {e e' : TypeId} {s x:Operand} {K:KT} (ho:o.op=.call { callee:=.builtin .append,args:=#[s,x],argTypes:=#[t,u] }) (ht:P.underlying t=some (.slice e)) (hu:P.underlying u=some (.slice e')) (hok:zG N o=true) (h:zGW P H t (hev T s) (hev T x) K):HR P N o T H K:=by
 have hoo:zG N { o with op:=.call { callee:=.builtin .append,args:=#[s,x],argTypes:=#[t,t] } }=true:=by
  have:=hok
  simp only[zG,ho,Op.operands,Call.operands] at this⊢
  exact this
 have hR:=zLS (o:={ o with op:=.call { callee:=.builtin .append,args:=#[s,x],argTypes:=#[t,t] } }) rfl hoo h
 intro B Z G FP ds a w hs
 obtain ⟨r,v,w',x',H',Z',G',FP',h1,rest⟩:=hR B Z G FP ds a w hs
 refine ⟨r,v,w',x',H',Z',G',FP',?_,rest⟩
 rw[←h1]
 simp only[execOp,ho,resolve,invoke,builtin,Sem.run_bind,Sem.run_pure,Result.andThen_ok,List.map_toArray,List.map_cons,List.map_nil]
 have:(Builtin.append_ #[t,u] o.type #[a.eval s,a.eval x]).run P w=(Builtin.append_ #[t,t] o.type #[a.eval s,a.eval x]).run P w:=by
  unfold Builtin.append_
  generalize a.eval s=y
  cases y with
  | slice base n c=>simp[Sem.run_bind,run_underlying ht,run_underlying hu]
  | _=>simp[Sem.run_bind,run_underlying ht]
 rw[this]
end
theorem zGK {P:Program}:∀(ds:List Nat) (w:World) (fr:Frame) (cs:List Frame),fr.mode=.returning→fr.defers=zFV ds→ds.Nodup→(∀d∈ds,w.heap[d]?=some (.deferred (some [])))→
  ∃w',Steps P (lone fr cs w) (lone { fr with defers:=[] } cs w')∧w'.os=w.os∧w'.tape=w.tape∧w'.output=w.output∧w'.heap.size=w.heap.size∧∀b,b∉ds→w'.heap[b]?=w.heap[b]?
 | [],w,fr,cs,hm,hd,_,_=>by
  have:({ fr with defers:=[] }:Frame)=fr:=by
   have:fr.defers=[]:=hd
   rw[←this]
  rw[this]
  exact ⟨w,Steps.refl P _,rfl,rfl,rfl,rfl,fun _ _=>rfl⟩
 | d::ds,w,fr,cs,hm,hd,hnd,hat=>by
  have hdd:=hat d (by simp)
  obtain ⟨hn1,hn2⟩:=List.nodup_cons.1 hnd
  have hd' : fr.defers=⟨.collected d,#[]⟩::zFV ds:=hd
  have h1:=step_collected (P:=P) (cs:=cs) (w:=w) (w':={ w with heap:=w.heap.setIfInBounds d (.deferred none) }) (calls:=[]) (by rw[hm];simp) hd' rfl (by
   have:=run_takeDeferred (P:=P) hdd
   rw[this]
   rfl)
  obtain ⟨w',h2,h3,h4,h5,h6,h7⟩:=zGK ds { w with heap:=w.heap.setIfInBounds d (.deferred none) } { fr with defers:=[]++zFV ds } cs hm rfl hn2 (fun e he=>by
   have:d≠e:=fun e'=>hn1 (e'▸he)
   simp[Array.getElem?_setIfInBounds_ne this,hat e (by simp[he])])
  refine ⟨w',.head h1 h2,h3,h4,h5,by rw[h6];simp,fun b hb=>?_⟩
  rw[h7 b (fun hc=>hb (by simp[hc]))]
  have:d≠b:=fun e=>hb (by simp[e])
  simp[Array.getElem?_setIfInBounds_ne this]
theorem zGh {P:Program} {f:FuncId} {fn:Func} {c:Code} {args:Array Value} {u:FrameMode} {w:World} {R:Ending→FrameMode→World→Prop}
  (hf:P.funcs[f]?=some fn) (hb:fn.body=some c) (hres:fn.results = #[])
  (h:∀(c₀:Frame) (cs:List Frame),c₀.mode=u→
   c.wpS P (fun e a' cs' w'=>e=.normal∧∃ds,a'.defers=zFV ds∧ds.Nodup∧(∀d∈ds,w'.heap[d]?=some (.deferred (some [])))∧∃u',cs' = { c₀ with mode:=u' }::cs∧
    ∀w2,w2.os=w'.os→w2.tape=w'.tape→w2.output=w'.output→w2.heap.size=w'.heap.size→(∀b,b∉ds→w2.heap[b]?=w'.heap[b]?)→R (.returned (.tuple #[])) u' w2) { tmps:=args++Array.replicate (fn.ntmps-args.size) undef,defers:=[] } (c₀::cs) w) :
  CallsD P f args u w R:=by
 intro c₀ cs hu
 let b:Frame:={ (default:Frame) with fn:=f,kind:=.deferred }
 have henter:Frame.enter P f args .deferred =
   b.at { tmps:=args++Array.replicate (fn.ntmps-args.size) undef,defers:=[] } [.code c]:=by
  simp[Frame.enter,Frame.at,hf,hb,b]
 obtain ⟨e,a',cs',w',hq,harr⟩:=h c₀ cs hu b [] rfl rfl
 rw[←henter] at harr
 obtain ⟨rfl,ds,hd,hnd,hat,u',rfl,hR⟩:=hq
 obtain ⟨w2,h2,h3,h4,h5,h6,h7⟩:=zGK (P:=P) ds w' { b.at a' [] with mode:=.returning } ({ c₀ with mode:=u' }::cs) rfl hd hnd hat
 exact ⟨.returned (.tuple #[]),u',w2,_,hR w2 h3 h4 h5 h6 h7,Steps.trans harr (.head step_end h2),rfl,rfl,rfl,fn,hf,by simp[results,hres]⟩
theorem zTI (z:Value) (w:World):(Instr.typeAssert (.iface 179 z) 20 179 true).run Tryz.prog w=.ok (.tuple #[z,.bool true]) w:=by kernel_rfl
abbrev zKu (r:List Int):Heap:=[some (zC1 (.hd 1 0 r.length)),some ⟨3,1,ints r⟩]
theorem zXp {x v:Value}:(#[x]++(Array.replicate 12 undef).setIfInBounds 3 v).getD 4 undef=v:=by
 rw[Array.getD_eq_getD_getElem?,Array.getElem?_append_right (by simp)]
 simp
theorem zUT {x v:Value} {i:Nat} (h4:¬i=4):(#[x]++(Array.replicate 12 undef).setIfInBounds 3 v).getD i undef=([x].toArray++Array.replicate (13 - [x].toArray.size) undef).getD i undef:=by
 simp only[Array.getD_eq_getD_getElem?,Array.getElem?_append,List.size_toArray,List.length_singleton]
 by_cases h0:i<1
 ·rw[if_pos (by simpa using h0),if_pos h0]
 ·rw[if_neg (by simpa using h0),if_neg h0]
  rw[Array.getElem?_setIfInBounds_ne (by simp;omega)]
set_option maxHeartbeats 1000000 in
theorem zXq (p:Addr) (r:List Int) (v:Value) (w:World) {Z:Nat→Prop} {g:OG} {FP:Nat→List Nat} (hr:r.length≤200000)
  (hi:HInv Z [some g] FP [some (zC1 (.v (.slice none 0 0)))] w) (hp:RV Z [some g] w (.pt 0 1 0 0) (.pointer (some p)) []) (hv:RV Z [some g] w (.ic 179 (.sl (ints r))) v []) :
  CallsD Tryz.prog 144 #[.pointer (some p)] (.panicking [{ v:=v,recovered:=false }]) w fun e u' w' =>
   e=.returned (.tuple #[])∧u'=.panicking [{ v:=v,recovered:=true }]∧∃Z' G' FP',HInv Z' G' FP' (zKu r) w'∧GLt 1 [some g] G'∧Evo Z FP w Z' FP' w':=by
 refine zGh Tryz.func144 rfl Tryz.results144 fun c₀ cs hu=>?_
 apply wpS_seq
 apply wpS_region
 simp[wpOpsS,go_sem,recoverD,hu,Tryz.ntmps144,Exit.thenS]
 refine wpS_of_wp ((wpIn_wide (n:=0)).1 ?_)
 refine wpIn_mono ((?hw:HW Tryz.prog 13 1 _ (zGH fun T' H'=>H'=zKu r) (upd (T0 [.pt 0 1 0 0]) 4 (.ic 179 (.sl (ints r)))) [some (zC1 (.v (.slice none 0 0)))]) none 0 w.heap.size Z [some g] FP [] _ w ⟨Nat.le_refl _,by simp⟩ (by simp) ?_) ?_
 case hw =>
  refine HW.block (HW.seq (HW.run 60 (by kernel_rfl) ?_))
  simp +decide only[go_sem,nT,nA,nS,nM,nB,reduceIte,reduceCtorEq]
  refine HW.cond (t:=false) (by kernel_rfl) rfl (fun h=>by cases h) (fun _=>?_)
  refine HW.seq ?_
  refine HW.regionF 60 rfl (by kernel_rfl) rfl (zEY (K:=fun T' H'=>T'=upd (upd (upd (T0 [.pt 0 1 0 0]) 4 (.ic 179 (.sl (ints r)))) 6 (.v (.bool false))) 7 (.tu [.sl (ints r),.v (.bool true)])∧H'=[some (zC1 (.v (.slice none 0 0)))]) (by simp) (by simp) (z6 (zUm rfl (by kernel_rfl) rfl zTI ⟨rfl,rfl⟩))) ?_
  rintro T' H' ⟨rfl,rfl⟩
  simp +decide only[go_sem,nT,nA,nS,nM,nB,reduceIte,reduceCtorEq]
  refine HW.cond (t:=true) (by kernel_rfl) rfl (fun _=>?_) (fun h=>by cases h)
  refine HW.seq (HW.run 60 (by kernel_rfl) ?_)
  simp +decide only[go_sem,nT,nA,nS,nM,nB,reduceIte,reduceCtorEq]
  refine HW.regionM (I:=fun T H=>T 0=.pt 0 1 0 0∧T 10=.hd 1 0 0∧T 11=.sl (ints r)∧H=[some (zC1 (.v (.slice none 0 0))),some ⟨3,1,[]⟩]) (K:=fun T H=>T 0=.pt 0 1 0 0∧T 12=.hd 1 0 r.length∧H=[some (zC1 (.v (.slice none 0 0))),some ⟨3,1,ints r⟩]) 2 60 (by decide) (by kernel_rfl) ?_
  intro pre o rest hs
  simp only[zKm,zGb,Option.map_some,Option.some.injEq,Prod.mk.injEq] at hs
  obtain ⟨rfl,rfl,rfl⟩:=hs
  refine ⟨rfl,?_,?_,?_⟩
  ·simp +decide only[go_sem,nT,nA,nS,nM,nB,reduceIte,reduceCtorEq]
   and_intros
   all_goals rfl
  ·rintro T H ⟨h0,h10,h11,rfl⟩
   refine zEY (by simp) (by simp) (zQj rfl Tryz.underlying22 Tryz.underlying179 (by kernel_rfl) ?_)
   unfold zGW
   simp +decide only[go_sem,nT,nA,nS,nM,nB,reduceIte,reduceCtorEq,h0,h10,h11]
   exact ⟨(of_eq_true zFI:zV (ints r) 1),by omega,by omega⟩
  ·rintro T H ⟨h0,h12,rfl⟩
   simp +decide only[go_sem,nT,nA,nS,nM,nB,reduceIte,reduceCtorEq,h0,h12]
   exact rfl
 ·refine ⟨hi,by simp,fun i h13=>?_,rfl,by simp,by simp⟩
  have h0:=zGq (args:=[.pt 0 1 0 0]) (vals:=[.pointer (some p)]) (Z:=Z) (G:=[some g]) (w:=w) 13 ⟨_,_,[],[],rfl,rfl,hp,rfl,rfl⟩ i h13
  by_cases h4:i=4
  ·subst h4
   dsimp only
   rw[zXp]
   exact hv
  ·dsimp only
   rw[zUT h4]
   unfold upd
   rw[if_neg h4]
   exact h0
 ·rintro e a' w' ⟨T',H',Z',G',FP',ds',hq,hs',hG',hE'⟩
  cases e with
  | normal =>
   obtain rfl:H'=_:=hq
   refine ⟨rfl,ds',hs'.defers,hs'.dsn,fun d hd=>(hs'.dsat d hd).2.1,_,rfl,fun w2 ho ht hout hsz hk=>⟨rfl,Z',G',FP',?_,hG',?_⟩⟩
   ·refine hs'.inv.keep (by omega) fun b hb=>hk b fun hc=>?_
    obtain ⟨_,_,h3,h4⟩:=hs'.dsat b hc
    rcases hb with hb | ⟨id,hb⟩
    ·exact h3 hb
    ·exact h4 id hb
   ·refine ⟨ho.trans hE'.os,ht.trans hE'.tape,hout.trans hE'.output,by rw[hsz];exact hE'.size,fun b hb hf=>?_,hE'.zle,hE'.znew,hE'.fnew⟩
    rw[hk b (fun hc=>by have:=(hs'.dsat b hc).1;omega)]
    exact hE'.keep b hb hf
  | _=>exact hq.elim
end Go.Proofs.YtoknohandclcbaaGreat
