/- Parts of the proof: Ob, Oc, Od, Oe, Of, Ok, Ol, Op. -/
import Derived.Test.YtmapdjdnnhlpiaaGreatDoorZr14
import Derived.Sort.Walk0
import Derived.Test.YtmapdjdnnhlpiaaGreatDoorZr07
import Derived.Test.YtmapdjdnnhlpiaaGreatDoorZr13
set_option linter.unusedSectionVars false
set_option linter.unusedVariables false
set_option linter.unusedSimpArgs false
namespace Go.Proofs.YtmapdjdnnhlpiaaGreatDoor
open Go.RowKit
set_option maxRecDepth 8000
set_option maxHeartbeats 16000000 in
theorem refLineOne (l:List LT) (i:Nat) (x:LT) (hx:l[i]?=some x) (hl:l.length≤1000000) (k1:x.rg.length≤1000000) (k2:x.loc.length≤1000000) (k3:x.lab.length≤1000000) :
  HFn Tryz.prog 33 [.sl (lns l),.v (.int .i64 i)] (.v (.int .i64 (lineE (l.take i) x (l.drop (i+1))))):=by
 have hi:i<l.length:=(List.getElem?_eq_some_iff.1 hx).1
 have hlt:((i:Int)<(l.length:Int))=True:=by simp only[eq_iff_iff,iff_true];omega
 have hle:((i:Int)≤(l.length:Int))=True:=by simp only[eq_iff_iff,iff_true];omega
 have hle1:(((i+1:Nat):Int)≤(l.length:Int))=True:=by simp only[eq_iff_iff,iff_true];omega
 have hi1:IntKind.i64.wrap ((i:Int)+1)=((i+1:Nat):Int):=by rw[w64 (by omega) (by omega)];rfl
 have hA:=refLabels (l.take i) x.lab (by rw[List.length_take];omega)
 have hB:=refLabels (l.drop (i+1)) x.lab (by rw[List.length_drop];omega)
 have hRt:=refRight x.op x.rg x.loc x.lab x.n k1 k2 k3
 have hJ:=refJump x
 have htkd:List.take (l.length-(i+1)) (List.drop (i+1) l)=List.drop (i+1) l:=List.take_of_length_le (by rw[List.length_drop];omega)
 have hr0:rightB x.op x.rg x.loc x.lab x.n=x.right:=rfl
 rw[hr0] at hRt
 generalize hE:lineE (l.take i) x (l.drop (i+1))=E
 unfold lineE at hE
 refine HCalls_body (fn:=Tryz.f33) 91 [4] (by kernel_rfl) rfl (by kernel_rfl) (HW.run 400 (by kernel_rfl) ?_)
 simp (config:={ decide:=true }) only[go_sem,Int.reduceToNat,Nat.reduceAdd,Nat.reduceSub,Nat.reduceMul,Nat.reduceBEq,reduceIte,reduceCtorEq,hx,hlt,lnrow]
 repeat (with_reducible refine And.intro ?_ ?_;·(with_reducible and_intros) <;> omega)
 refine callX_fn 3 (hRt) (by simp only[go_sem]) rfl ?_
 cases hr:x.right with
 | false =>
  rw[if_pos hr] at hE
  simp (config:={ decide:=true }) only[go_sem,Int.reduceToNat,Nat.reduceAdd,Nat.reduceSub,Nat.reduceMul,Nat.reduceBEq,reduceIte,reduceCtorEq]
  rw[hE]
 | true =>
  rw[if_neg (by simp[hr])] at hE
  simp (config:={ decide:=true }) only[go_sem,Int.reduceToNat,Nat.reduceAdd,Nat.reduceSub,Nat.reduceMul,Nat.reduceBEq,reduceIte,reduceCtorEq]
  refine HW.treeI (fun T H=>T 0=.sl (lns l)∧T 1=.v (.int .i64 i)∧T 5=.pt 0 1 0 0∧T 27=.v (.bool (decide (x.op=11) && decide ((0:Int)<(labN x.lab (l.take i):Int))))∧H=[some ⟨50,5,[lnrow x]⟩]) (.light 0 (.light 1 (.light 2 (.light 3 (.light 4 (.light 5 (.light 7 (.light 8 (.heavy 6 [7,8] (.heavy 9 [] (.light 10 (.light 11 .leaf)) .stop) .stop))))))))) follows (by kernel_rfl) (by kernel_rfl) ?_ ?_
  ·by_cases o11:x.op=11
   ·simp (config:={ decide:=true }) only[go_sem,Int.reduceToNat,Nat.reduceAdd,Nat.reduceSub,Nat.reduceMul,Nat.reduceBEq,reduceIte,reduceCtorEq,o11,hle,Nat.sub_zero]
    refine callX_fn 3 (hA) (by simp only[go_sem]) rfl ?_
    simp (config:={ decide:=true }) only[go_sem,Int.reduceToNat,Nat.reduceAdd,Nat.reduceSub,Nat.reduceMul,Nat.reduceBEq,reduceIte,reduceCtorEq,o11,hle,decide_true,Bool.true_and]
    all_goals refine GQ.done ⟨?_,?_,?_,?_,rfl⟩
    all_goals simp (config:={ decide:=true }) only[go_sem,Nat.reduceBEq,reduceIte]
   ·simp (config:={ decide:=true }) only[go_sem,Int.reduceToNat,Nat.reduceAdd,Nat.reduceSub,Nat.reduceMul,Nat.reduceBEq,reduceIte,reduceCtorEq,o11,hle,decide_false,Bool.false_and]
    all_goals refine GQ.done ⟨?_,?_,?_,?_,rfl⟩
    all_goals simp (config:={ decide:=true }) only[go_sem,Nat.reduceBEq,reduceIte]
  rintro T H ⟨h0,h1,h5,h27,rfl⟩
  by_cases c1:x.op=11∧0<labN x.lab (l.take i)
  ·rw[if_pos c1] at hE
   have e27:(decide (x.op=11) && decide ((0:Int)<(labN x.lab (l.take i):Int)))=true:=by
    rw[Bool.and_eq_true,decide_eq_true_eq,decide_eq_true_eq];exact ⟨c1.1,by omega⟩
   rw[e27] at h27
   simp (config:={ decide:=true }) only[go_sem,Int.reduceToNat,Nat.reduceAdd,Nat.reduceSub,Nat.reduceMul,Nat.reduceBEq,reduceIte,reduceCtorEq,h27]
   rw[hE]
  rw[if_neg c1] at hE
  have e27:(decide (x.op=11) && decide ((0:Int)<(labN x.lab (l.take i):Int)))=false:=by
   rw[Bool.eq_false_iff,Ne,Bool.and_eq_true,decide_eq_true_eq,decide_eq_true_eq];exact fun h=>c1 ⟨h.1,by omega⟩
  rw[e27] at h27
  have hf6:(i=0→fenB (l.take i)=false):=fun h=>by subst h;rfl
  have last:∀(j:Nat) y,i=j+1→l[j]?=some y→fenB (l.take i)=decide (y.op=6):=fun j y hj hy=>by
   subst hj
   have htk:l.take (j+1)=l.take j++[y]:=by rw[List.take_add_one,hy];rfl
   rw[htk,fenB_snoc]
  by_cases c2:x.op=6∧fenB (l.take i)=true
  ·rw[if_pos c2] at hE
   obtain ⟨j,hj⟩:∃j,i=j+1:=⟨i-1,by rcases Nat.eq_zero_or_pos i with h | h;exact absurd c2.2 (by rw[hf6 h];decide);omega⟩
   have hy:l[j]?=some l[j]:=List.getElem?_eq_getElem (by omega)
   have y6:=(last j _ hj hy).symm.trans c2.2
   generalize l[j]=y at hy y6
   have y6:y.op=6:=by simpa using y6
   have hp:((0:Int)<(i:Int))=True:=by simp only[eq_iff_iff,iff_true];omega
   have hj1:IntKind.i64.wrap ((i:Int)-1)=(j:Int):=by rw[w64 (by omega) (by omega)];omega
   simp (config:={ decide:=true }) only[go_sem,Int.reduceToNat,Nat.reduceAdd,Nat.reduceSub,Nat.reduceMul,Nat.reduceBEq,reduceIte,reduceCtorEq,h0,h1,h5,h27,lnrow,c2.1,hp,hj1,hy,y6]
   refine ⟨by omega,?_⟩
   rw[hE]
  rw[if_neg c2] at hE
  by_cases o6:x.op=6
  ·have hfb:fenB (l.take i)=false:=by cases h:fenB (l.take i) with | true=>exact absurd ⟨o6,h⟩ c2 | false=>rfl
   rcases Nat.eq_zero_or_pos i with hz | hpos
   ·have hp:((0:Int)<(i:Int))=False:=by simp only[eq_iff_iff,iff_false];omega
    simp (config:={ decide:=true }) only[go_sem,Int.reduceToNat,Nat.reduceAdd,Nat.reduceSub,Nat.reduceMul,Nat.reduceBEq,reduceIte,reduceCtorEq,h0,h1,h5,h27,lnrow,eq_true o6,hp]
    refine HW.treeI (fun T H=>T 0=.sl (lns l)∧T 1=.v (.int .i64 i)∧T 5=.pt 0 1 0 0∧T 55=.v (.bool (jumB x.op && decide ((labN x.lab (l.drop (i+1)):Int)=0)))∧H=[some ⟨50,5,[lnrow x]⟩]) (.light 0 (.heavy 1 [] (.light 2 (.light 3 (.light 4 (.light 5 (.light 6 (.light 7 (.light 8 (.heavy 9 [] (.light 10 (.light 11 .leaf)) .stop)))))))) .stop)) follows (by kernel_rfl) (by kernel_rfl) ?_ ?_
    ·cases hjb:jumB x.op with
     | true =>
      rw[hjb] at hJ
      simp (config:={ decide:=true }) only[go_sem,Int.reduceToNat,Nat.reduceAdd,Nat.reduceSub,Nat.reduceMul,Nat.reduceBEq,reduceIte,reduceCtorEq,h0,h1,h5,lnrow]
      refine callX_fn 3 (hJ) (by simp only[go_sem]) rfl ?_
      simp (config:={ decide:=true }) only[go_sem,Int.reduceToNat,Nat.reduceAdd,Nat.reduceSub,Nat.reduceMul,Nat.reduceBEq,reduceIte,reduceCtorEq,h0,h1,h5,hi1,hle1,htkd]
      refine callX_fn 3 (hB) (by simp only[go_sem]) rfl ?_
      simp (config:={ decide:=true }) only[go_sem,Int.reduceToNat,Nat.reduceAdd,Nat.reduceSub,Nat.reduceMul,Nat.reduceBEq,reduceIte,reduceCtorEq,h0,h1,h5]
      all_goals refine GQ.done ⟨?_,?_,?_,?_,rfl⟩
      all_goals simp (config:={ decide:=true }) only[go_sem,Nat.reduceBEq,reduceIte,h0,h1,h5,Bool.true_and]
     | false =>
      rw[hjb] at hJ
      simp (config:={ decide:=true }) only[go_sem,Int.reduceToNat,Nat.reduceAdd,Nat.reduceSub,Nat.reduceMul,Nat.reduceBEq,reduceIte,reduceCtorEq,h0,h1,h5,lnrow]
      refine callX_fn 3 (hJ) (by simp only[go_sem]) rfl ?_
      simp (config:={ decide:=true }) only[go_sem,Int.reduceToNat,Nat.reduceAdd,Nat.reduceSub,Nat.reduceMul,Nat.reduceBEq,reduceIte,reduceCtorEq,h0,h1,h5]
      all_goals refine GQ.done ⟨?_,?_,?_,?_,rfl⟩
      all_goals simp (config:={ decide:=true }) only[go_sem,Nat.reduceBEq,reduceIte,h0,h1,h5,Bool.false_and]
    clear h0 h1 h5 h27 T
    rintro T H ⟨h0,h1,h5,h55,rfl⟩
    by_cases c3:8≤x.op∧x.op≤10∧labN x.lab (l.drop (i+1))=0
    ·rw[if_pos c3] at hE
     rw[show (jumB x.op && decide ((labN x.lab (l.drop (i+1)):Int)=0))=true from by simp[jumB,c3.1,c3.2.1,c3.2.2]] at h55
     simp (config:={ decide:=true }) only[go_sem,Int.reduceToNat,Nat.reduceAdd,Nat.reduceSub,Nat.reduceMul,Nat.reduceBEq,reduceIte,reduceCtorEq,h55]
     rw[hE]
    rw[if_neg c3] at hE
    rw[show (jumB x.op && decide ((labN x.lab (l.drop (i+1)):Int)=0))=false from by
     rw[Bool.eq_false_iff];intro hh;simp[jumB] at hh;exact c3 ⟨hh.1.1,hh.1.2,by omega⟩] at h55
    simp (config:={ decide:=true }) only[go_sem,Int.reduceToNat,Nat.reduceAdd,Nat.reduceSub,Nat.reduceMul,Nat.reduceBEq,reduceIte,reduceCtorEq,h0,h1,h5,h55]
    refine HW.loopG (fun k T H=>∃j:Nat,k=i-j∧j≤i∧T 0=.sl (lns l)∧T 1=.v (.int .i64 i)∧T 5=.pt 0 1 0 0∧T 6=.v (.int .i64 (insN (l.take j)))∧T 7=.v (.int .i64 (mrkN (l.take j)))∧T 8=.v (.int .i64 j)∧H=[some ⟨50,5,[lnrow x]⟩]) i ⟨_,_,Ghost.refl,0,rfl,by omega,by simp (config:={ decide:=true }) only[go_sem,Nat.reduceBEq,reduceIte,h0],by simp (config:={ decide:=true }) only[go_sem,Nat.reduceBEq,reduceIte,h1],by simp (config:={ decide:=true }) only[go_sem,Nat.reduceBEq,reduceIte,h5],rfl,rfl,rfl,rfl⟩ ?_
    clear h0 h1 h5 h55 T
    rintro k T H ⟨j,rfl,hji,h0,h1,h5,h6,h7,h8,rfl⟩
    refine HW.run 200 (by kernel_rfl) ?_
    by_cases hjl:j<i
    ·have hjl' : ((j:Int)<(i:Int))=True:=by simp only[eq_iff_iff,iff_true];omega
     have hy:l[j]?=some l[j]:=List.getElem?_eq_getElem (by omega)
     have htk:l.take (j+1)=l.take j++[l[j]]:=by rw[List.take_add_one,hy];rfl
     generalize l[j]=y at hy htk
     have hjll:((j:Int)<(l.length:Int))=True:=by simp only[eq_iff_iff,iff_true];omega
     have i1:=insN_snoc (l.take j) y
     have m1:=mrkN_snoc (l.take j) y
     have i2:=insN_le (l.take j)
     have m2:=mrkN_le (l.take j)
     rw[←htk] at i1 m1
     rw[List.length_take] at i2 m2
     have wi:IntKind.i64.wrap ((insN (l.take j):Int)+1)=((insN (l.take j)+1:Nat):Int):=by rw[w64 (by omega) (by omega)];rfl
     have wm:IntKind.i64.wrap ((mrkN (l.take j):Int)+1)=((mrkN (l.take j)+1:Nat):Int):=by rw[w64 (by omega) (by omega)];rfl
     have hI:=refInstr y
     have key:∀b,insB2 y.op=b→(b=true↔(y.op≠6∧y.op≠11)):=fun b hb=>by subst hb;simp[insB2]
     simp (config:={ decide:=true }) only[go_sem,Int.reduceToNat,Nat.reduceAdd,Nat.reduceSub,Nat.reduceMul,Nat.reduceBEq,reduceIte,reduceCtorEq,h0,h1,h5,h6,h7,h8,hjl',hjll,hy,lnrow]
     repeat (with_reducible refine And.intro ?_ ?_;·(with_reducible and_intros) <;> omega)
     cases hb:insB2 y.op with
     | true =>
      have hk:=(key _ hb).1 rfl
      rw[hb] at hI
      rw[if_pos hk] at i1
      rw[if_neg hk.2] at m1
      refine callX_fn 3 (hI) (by simp only[go_sem]) rfl ?_
      simp (config:={ decide:=true }) only[go_sem,Int.reduceToNat,Nat.reduceAdd,Nat.reduceSub,Nat.reduceMul,Nat.reduceBEq,reduceIte,reduceCtorEq,h0,h1,h5,h6,h7,h8,hjl',hjll,hy,lnrow,wi,hk.2]
      repeat (with_reducible refine And.intro ?_ ?_;·(with_reducible and_intros) <;> omega)
      refine ⟨_,_,Ghost.refl,i-(j+1),by omega,j+1,rfl,by omega,?_,?_,?_,?_,?_,?_,rfl⟩
      all_goals first | (simp (config:={ decide:=true }) only[go_sem,Nat.reduceBEq,reduceIte,h0,h1,h5];done) | (simp (config:={ decide:=true }) only[go_sem,Nat.reduceBEq,reduceIte,h7,i1,m1];done) | (simp (config:={ decide:=true }) only[go_sem,Nat.reduceBEq,reduceIte,h7,i1,m1,Nat.add_zero];done) | (simp (config:={ decide:=true }) only[go_sem,Nat.reduceBEq,reduceIte];rw[w64 (by omega) (by omega)];rfl)
     | false =>
      rw[hb] at hI
      have hnk:¬(y.op≠6∧y.op≠11):=fun h=>by have:=(key _ hb).2 h;cases this
      rw[if_neg hnk] at i1
      refine callX_fn 3 (hI) (by simp only[go_sem]) rfl ?_
      by_cases o11:y.op=11
      ·rw[if_pos o11] at m1
       simp (config:={ decide:=true }) only[go_sem,Int.reduceToNat,Nat.reduceAdd,Nat.reduceSub,Nat.reduceMul,Nat.reduceBEq,reduceIte,reduceCtorEq,h0,h1,h5,h6,h7,h8,hjl',hjll,hy,lnrow,wm,o11]
       repeat (with_reducible refine And.intro ?_ ?_;·(with_reducible and_intros) <;> omega)
       refine ⟨_,_,Ghost.refl,i-(j+1),by omega,j+1,rfl,by omega,?_,?_,?_,?_,?_,?_,rfl⟩
       all_goals first | (simp (config:={ decide:=true }) only[go_sem,Nat.reduceBEq,reduceIte,h0,h1,h5];done) | (simp (config:={ decide:=true }) only[go_sem,Nat.reduceBEq,reduceIte,h6,i1,m1,Nat.add_zero];done) | (simp (config:={ decide:=true }) only[go_sem,Nat.reduceBEq,reduceIte];rw[w64 (by omega) (by omega)];rfl)
      ·rw[if_neg o11] at m1
       simp (config:={ decide:=true }) only[go_sem,Int.reduceToNat,Nat.reduceAdd,Nat.reduceSub,Nat.reduceMul,Nat.reduceBEq,reduceIte,reduceCtorEq,h0,h1,h5,h6,h7,h8,hjl',hjll,hy,lnrow,o11]
       repeat (with_reducible refine And.intro ?_ ?_;·(with_reducible and_intros) <;> omega)
       refine ⟨_,_,Ghost.refl,i-(j+1),by omega,j+1,rfl,by omega,?_,?_,?_,?_,?_,?_,rfl⟩
       all_goals first | (simp (config:={ decide:=true }) only[go_sem,Nat.reduceBEq,reduceIte,h0,h1,h5];done) | (simp (config:={ decide:=true }) only[go_sem,Nat.reduceBEq,reduceIte,h6,h7,i1,m1,Nat.add_zero];done) | (simp (config:={ decide:=true }) only[go_sem,Nat.reduceBEq,reduceIte];rw[w64 (by omega) (by omega)];rfl)
    ·have hjl' : ((j:Int)<(i:Int))=False:=by simp only[eq_iff_iff,iff_false];omega
     obtain rfl:j=i:=by omega
     have hI:=refInstr x
     simp (config:={ decide:=true }) only[go_sem,Int.reduceToNat,Nat.reduceAdd,Nat.reduceSub,Nat.reduceMul,Nat.reduceBEq,reduceIte,reduceCtorEq,h0,h1,h5,h6,h7,h8,hjl',lnrow]
     by_cases q11:x.op=11
     ·have hb:insB2 x.op=false:=by simp[insB2,q11]
      rw[hb] at hI
      refine callX_fn 3 (hI) (by simp only[go_sem]) rfl ?_
      by_cases q8:8≤mrkN (l.take j)
      ·have q8' : ((8:Int)≤(mrkN (l.take j):Int))=True:=by simp only[eq_iff_iff,iff_true];omega
       rw[if_pos (.inr ⟨q11,q8⟩)] at hE
       simp (config:={ decide:=true }) only[go_sem,Int.reduceToNat,Nat.reduceAdd,Nat.reduceSub,Nat.reduceMul,Nat.reduceBEq,reduceIte,reduceCtorEq,h0,h1,h5,h6,h7,h8,lnrow,q11,q8']
       rw[hE]
      ·have q8' : ((8:Int)≤(mrkN (l.take j):Int))=False:=by simp only[eq_iff_iff,iff_false];omega
       rw[if_neg (by rintro (h | h);exact h.2.1 q11;exact q8 h.2)] at hE
       simp (config:={ decide:=true }) only[go_sem,Int.reduceToNat,Nat.reduceAdd,Nat.reduceSub,Nat.reduceMul,Nat.reduceBEq,reduceIte,reduceCtorEq,h0,h1,h5,h6,h7,h8,lnrow,q11,q8']
       rw[hE]
     ·by_cases q6:x.op=6
      ·have hb:insB2 x.op=false:=by simp[insB2,q6]
       rw[hb] at hI
       refine callX_fn 3 (hI) (by simp only[go_sem]) rfl ?_
       rw[if_neg (by rintro (h | h);exact h.1 q6;exact q11 h.1)] at hE
       simp (config:={ decide:=true }) only[go_sem,Int.reduceToNat,Nat.reduceAdd,Nat.reduceSub,Nat.reduceMul,Nat.reduceBEq,reduceIte,reduceCtorEq,h0,h1,h5,h6,h7,h8,lnrow,q11]
       rw[hE]
      ·have hb:insB2 x.op=true:=by simp[insB2,q6,q11]
       rw[hb] at hI
       refine callX_fn 3 (hI) (by simp only[go_sem]) rfl ?_
       by_cases q8:8≤insN (l.take j)
       ·have q8' : ((8:Int)≤(insN (l.take j):Int))=True:=by simp only[eq_iff_iff,iff_true];omega
        rw[if_pos (.inl ⟨q6,q11,q8⟩)] at hE
        simp (config:={ decide:=true }) only[go_sem,Int.reduceToNat,Nat.reduceAdd,Nat.reduceSub,Nat.reduceMul,Nat.reduceBEq,reduceIte,reduceCtorEq,h0,h1,h5,h6,h7,h8,lnrow,q11,q8']
        rw[hE]
       ·have q8' : ((8:Int)≤(insN (l.take j):Int))=False:=by simp only[eq_iff_iff,iff_false];omega
        rw[if_neg (by rintro (h | h);exact q8 h.2.2;exact q11 h.1)] at hE
        simp (config:={ decide:=true }) only[go_sem,Int.reduceToNat,Nat.reduceAdd,Nat.reduceSub,Nat.reduceMul,Nat.reduceBEq,reduceIte,reduceCtorEq,h0,h1,h5,h6,h7,h8,lnrow,q11,q8']
        rw[hE]
   ·obtain ⟨m,hm⟩:∃m,i=m+1:=⟨i-1,by omega⟩
    have hy0:l[m]?=some l[m]:=List.getElem?_eq_getElem (by omega)
    have y6:=(last m _ hm hy0).symm.trans hfb
    generalize l[m]=y0 at hy0 y6
    have y6:¬y0.op=6:=by simpa using y6
    have hp:((0:Int)<(i:Int))=True:=by simp only[eq_iff_iff,iff_true];omega
    have hj1:IntKind.i64.wrap ((i:Int)-1)=(m:Int):=by rw[w64 (by omega) (by omega)];omega
    simp (config:={ decide:=true }) only[go_sem,Int.reduceToNat,Nat.reduceAdd,Nat.reduceSub,Nat.reduceMul,Nat.reduceBEq,reduceIte,reduceCtorEq,h0,h1,h5,h27,lnrow,eq_true o6,hp,hj1,hy0,y6]
    refine ⟨by omega,?_⟩
    refine HW.treeI (fun T H=>T 0=.sl (lns l)∧T 1=.v (.int .i64 i)∧T 5=.pt 0 1 0 0∧T 55=.v (.bool (jumB x.op && decide ((labN x.lab (l.drop (i+1)):Int)=0)))∧H=[some ⟨50,5,[lnrow x]⟩]) (.light 0 (.heavy 1 [] (.light 2 (.light 3 (.light 4 (.light 5 (.light 6 (.light 7 (.light 8 (.heavy 9 [] (.light 10 (.light 11 .leaf)) .stop)))))))) .stop)) follows (by kernel_rfl) (by kernel_rfl) ?_ ?_
    ·cases hjb:jumB x.op with
     | true =>
      rw[hjb] at hJ
      simp (config:={ decide:=true }) only[go_sem,Int.reduceToNat,Nat.reduceAdd,Nat.reduceSub,Nat.reduceMul,Nat.reduceBEq,reduceIte,reduceCtorEq,h0,h1,h5,lnrow]
      refine callX_fn 3 (hJ) (by simp only[go_sem]) rfl ?_
      simp (config:={ decide:=true }) only[go_sem,Int.reduceToNat,Nat.reduceAdd,Nat.reduceSub,Nat.reduceMul,Nat.reduceBEq,reduceIte,reduceCtorEq,h0,h1,h5,hi1,hle1,htkd]
      refine callX_fn 3 (hB) (by simp only[go_sem]) rfl ?_
      simp (config:={ decide:=true }) only[go_sem,Int.reduceToNat,Nat.reduceAdd,Nat.reduceSub,Nat.reduceMul,Nat.reduceBEq,reduceIte,reduceCtorEq,h0,h1,h5]
      all_goals refine GQ.done ⟨?_,?_,?_,?_,rfl⟩
      all_goals simp (config:={ decide:=true }) only[go_sem,Nat.reduceBEq,reduceIte,h0,h1,h5,Bool.true_and]
     | false =>
      rw[hjb] at hJ
      simp (config:={ decide:=true }) only[go_sem,Int.reduceToNat,Nat.reduceAdd,Nat.reduceSub,Nat.reduceMul,Nat.reduceBEq,reduceIte,reduceCtorEq,h0,h1,h5,lnrow]
      refine callX_fn 3 (hJ) (by simp only[go_sem]) rfl ?_
      simp (config:={ decide:=true }) only[go_sem,Int.reduceToNat,Nat.reduceAdd,Nat.reduceSub,Nat.reduceMul,Nat.reduceBEq,reduceIte,reduceCtorEq,h0,h1,h5]
      all_goals refine GQ.done ⟨?_,?_,?_,?_,rfl⟩
      all_goals simp (config:={ decide:=true }) only[go_sem,Nat.reduceBEq,reduceIte,h0,h1,h5,Bool.false_and]
    clear h0 h1 h5 h27 T
    rintro T H ⟨h0,h1,h5,h55,rfl⟩
    by_cases c3:8≤x.op∧x.op≤10∧labN x.lab (l.drop (i+1))=0
    ·rw[if_pos c3] at hE
     rw[show (jumB x.op && decide ((labN x.lab (l.drop (i+1)):Int)=0))=true from by simp[jumB,c3.1,c3.2.1,c3.2.2]] at h55
     simp (config:={ decide:=true }) only[go_sem,Int.reduceToNat,Nat.reduceAdd,Nat.reduceSub,Nat.reduceMul,Nat.reduceBEq,reduceIte,reduceCtorEq,h55]
     rw[hE]
    rw[if_neg c3] at hE
    rw[show (jumB x.op && decide ((labN x.lab (l.drop (i+1)):Int)=0))=false from by
     rw[Bool.eq_false_iff];intro hh;simp[jumB] at hh;exact c3 ⟨hh.1.1,hh.1.2,by omega⟩] at h55
    simp (config:={ decide:=true }) only[go_sem,Int.reduceToNat,Nat.reduceAdd,Nat.reduceSub,Nat.reduceMul,Nat.reduceBEq,reduceIte,reduceCtorEq,h0,h1,h5,h55]
    refine HW.loopG (fun k T H=>∃j:Nat,k=i-j∧j≤i∧T 0=.sl (lns l)∧T 1=.v (.int .i64 i)∧T 5=.pt 0 1 0 0∧T 6=.v (.int .i64 (insN (l.take j)))∧T 7=.v (.int .i64 (mrkN (l.take j)))∧T 8=.v (.int .i64 j)∧H=[some ⟨50,5,[lnrow x]⟩]) i ⟨_,_,Ghost.refl,0,rfl,by omega,by simp (config:={ decide:=true }) only[go_sem,Nat.reduceBEq,reduceIte,h0],by simp (config:={ decide:=true }) only[go_sem,Nat.reduceBEq,reduceIte,h1],by simp (config:={ decide:=true }) only[go_sem,Nat.reduceBEq,reduceIte,h5],rfl,rfl,rfl,rfl⟩ ?_
    clear h0 h1 h5 h55 T
    rintro k T H ⟨j,rfl,hji,h0,h1,h5,h6,h7,h8,rfl⟩
    refine HW.run 200 (by kernel_rfl) ?_
    by_cases hjl:j<i
    ·have hjl' : ((j:Int)<(i:Int))=True:=by simp only[eq_iff_iff,iff_true];omega
     have hy:l[j]?=some l[j]:=List.getElem?_eq_getElem (by omega)
     have htk:l.take (j+1)=l.take j++[l[j]]:=by rw[List.take_add_one,hy];rfl
     generalize l[j]=y at hy htk
     have hjll:((j:Int)<(l.length:Int))=True:=by simp only[eq_iff_iff,iff_true];omega
     have i1:=insN_snoc (l.take j) y
     have m1:=mrkN_snoc (l.take j) y
     have i2:=insN_le (l.take j)
     have m2:=mrkN_le (l.take j)
     rw[←htk] at i1 m1
     rw[List.length_take] at i2 m2
     have wi:IntKind.i64.wrap ((insN (l.take j):Int)+1)=((insN (l.take j)+1:Nat):Int):=by rw[w64 (by omega) (by omega)];rfl
     have wm:IntKind.i64.wrap ((mrkN (l.take j):Int)+1)=((mrkN (l.take j)+1:Nat):Int):=by rw[w64 (by omega) (by omega)];rfl
     have hI:=refInstr y
     have key:∀b,insB2 y.op=b→(b=true↔(y.op≠6∧y.op≠11)):=fun b hb=>by subst hb;simp[insB2]
     simp (config:={ decide:=true }) only[go_sem,Int.reduceToNat,Nat.reduceAdd,Nat.reduceSub,Nat.reduceMul,Nat.reduceBEq,reduceIte,reduceCtorEq,h0,h1,h5,h6,h7,h8,hjl',hjll,hy,lnrow]
     repeat (with_reducible refine And.intro ?_ ?_;·(with_reducible and_intros) <;> omega)
     cases hb:insB2 y.op with
     | true =>
      have hk:=(key _ hb).1 rfl
      rw[hb] at hI
      rw[if_pos hk] at i1
      rw[if_neg hk.2] at m1
      refine callX_fn 3 (hI) (by simp only[go_sem]) rfl ?_
      simp (config:={ decide:=true }) only[go_sem,Int.reduceToNat,Nat.reduceAdd,Nat.reduceSub,Nat.reduceMul,Nat.reduceBEq,reduceIte,reduceCtorEq,h0,h1,h5,h6,h7,h8,hjl',hjll,hy,lnrow,wi,hk.2]
      repeat (with_reducible refine And.intro ?_ ?_;·(with_reducible and_intros) <;> omega)
      refine ⟨_,_,Ghost.refl,i-(j+1),by omega,j+1,rfl,by omega,?_,?_,?_,?_,?_,?_,rfl⟩
      all_goals first | (simp (config:={ decide:=true }) only[go_sem,Nat.reduceBEq,reduceIte,h0,h1,h5];done) | (simp (config:={ decide:=true }) only[go_sem,Nat.reduceBEq,reduceIte,h7,i1,m1];done) | (simp (config:={ decide:=true }) only[go_sem,Nat.reduceBEq,reduceIte,h7,i1,m1,Nat.add_zero];done) | (simp (config:={ decide:=true }) only[go_sem,Nat.reduceBEq,reduceIte];rw[w64 (by omega) (by omega)];rfl)
     | false =>
      rw[hb] at hI
      have hnk:¬(y.op≠6∧y.op≠11):=fun h=>by have:=(key _ hb).2 h;cases this
      rw[if_neg hnk] at i1
      refine callX_fn 3 (hI) (by simp only[go_sem]) rfl ?_
      by_cases o11:y.op=11
      ·rw[if_pos o11] at m1
       simp (config:={ decide:=true }) only[go_sem,Int.reduceToNat,Nat.reduceAdd,Nat.reduceSub,Nat.reduceMul,Nat.reduceBEq,reduceIte,reduceCtorEq,h0,h1,h5,h6,h7,h8,hjl',hjll,hy,lnrow,wm,o11]
       repeat (with_reducible refine And.intro ?_ ?_;·(with_reducible and_intros) <;> omega)
       refine ⟨_,_,Ghost.refl,i-(j+1),by omega,j+1,rfl,by omega,?_,?_,?_,?_,?_,?_,rfl⟩
       all_goals first | (simp (config:={ decide:=true }) only[go_sem,Nat.reduceBEq,reduceIte,h0,h1,h5];done) | (simp (config:={ decide:=true }) only[go_sem,Nat.reduceBEq,reduceIte,h6,i1,m1,Nat.add_zero];done) | (simp (config:={ decide:=true }) only[go_sem,Nat.reduceBEq,reduceIte];rw[w64 (by omega) (by omega)];rfl)
      ·rw[if_neg o11] at m1
       simp (config:={ decide:=true }) only[go_sem,Int.reduceToNat,Nat.reduceAdd,Nat.reduceSub,Nat.reduceMul,Nat.reduceBEq,reduceIte,reduceCtorEq,h0,h1,h5,h6,h7,h8,hjl',hjll,hy,lnrow,o11]
       repeat (with_reducible refine And.intro ?_ ?_;·(with_reducible and_intros) <;> omega)
       refine ⟨_,_,Ghost.refl,i-(j+1),by omega,j+1,rfl,by omega,?_,?_,?_,?_,?_,?_,rfl⟩
       all_goals first | (simp (config:={ decide:=true }) only[go_sem,Nat.reduceBEq,reduceIte,h0,h1,h5];done) | (simp (config:={ decide:=true }) only[go_sem,Nat.reduceBEq,reduceIte,h6,h7,i1,m1,Nat.add_zero];done) | (simp (config:={ decide:=true }) only[go_sem,Nat.reduceBEq,reduceIte];rw[w64 (by omega) (by omega)];rfl)
    ·have hjl' : ((j:Int)<(i:Int))=False:=by simp only[eq_iff_iff,iff_false];omega
     obtain rfl:j=i:=by omega
     have hI:=refInstr x
     simp (config:={ decide:=true }) only[go_sem,Int.reduceToNat,Nat.reduceAdd,Nat.reduceSub,Nat.reduceMul,Nat.reduceBEq,reduceIte,reduceCtorEq,h0,h1,h5,h6,h7,h8,hjl',lnrow]
     by_cases q11:x.op=11
     ·have hb:insB2 x.op=false:=by simp[insB2,q11]
      rw[hb] at hI
      refine callX_fn 3 (hI) (by simp only[go_sem]) rfl ?_
      by_cases q8:8≤mrkN (l.take j)
      ·have q8' : ((8:Int)≤(mrkN (l.take j):Int))=True:=by simp only[eq_iff_iff,iff_true];omega
       rw[if_pos (.inr ⟨q11,q8⟩)] at hE
       simp (config:={ decide:=true }) only[go_sem,Int.reduceToNat,Nat.reduceAdd,Nat.reduceSub,Nat.reduceMul,Nat.reduceBEq,reduceIte,reduceCtorEq,h0,h1,h5,h6,h7,h8,lnrow,q11,q8']
       rw[hE]
      ·have q8' : ((8:Int)≤(mrkN (l.take j):Int))=False:=by simp only[eq_iff_iff,iff_false];omega
       rw[if_neg (by rintro (h | h);exact h.2.1 q11;exact q8 h.2)] at hE
       simp (config:={ decide:=true }) only[go_sem,Int.reduceToNat,Nat.reduceAdd,Nat.reduceSub,Nat.reduceMul,Nat.reduceBEq,reduceIte,reduceCtorEq,h0,h1,h5,h6,h7,h8,lnrow,q11,q8']
       rw[hE]
     ·by_cases q6:x.op=6
      ·have hb:insB2 x.op=false:=by simp[insB2,q6]
       rw[hb] at hI
       refine callX_fn 3 (hI) (by simp only[go_sem]) rfl ?_
       rw[if_neg (by rintro (h | h);exact h.1 q6;exact q11 h.1)] at hE
       simp (config:={ decide:=true }) only[go_sem,Int.reduceToNat,Nat.reduceAdd,Nat.reduceSub,Nat.reduceMul,Nat.reduceBEq,reduceIte,reduceCtorEq,h0,h1,h5,h6,h7,h8,lnrow,q11]
       rw[hE]
      ·have hb:insB2 x.op=true:=by simp[insB2,q6,q11]
       rw[hb] at hI
       refine callX_fn 3 (hI) (by simp only[go_sem]) rfl ?_
       by_cases q8:8≤insN (l.take j)
       ·have q8' : ((8:Int)≤(insN (l.take j):Int))=True:=by simp only[eq_iff_iff,iff_true];omega
        rw[if_pos (.inl ⟨q6,q11,q8⟩)] at hE
        simp (config:={ decide:=true }) only[go_sem,Int.reduceToNat,Nat.reduceAdd,Nat.reduceSub,Nat.reduceMul,Nat.reduceBEq,reduceIte,reduceCtorEq,h0,h1,h5,h6,h7,h8,lnrow,q11,q8']
        rw[hE]
       ·have q8' : ((8:Int)≤(insN (l.take j):Int))=False:=by simp only[eq_iff_iff,iff_false];omega
        rw[if_neg (by rintro (h | h);exact q8 h.2.2;exact q11 h.1)] at hE
        simp (config:={ decide:=true }) only[go_sem,Int.reduceToNat,Nat.reduceAdd,Nat.reduceSub,Nat.reduceMul,Nat.reduceBEq,reduceIte,reduceCtorEq,h0,h1,h5,h6,h7,h8,lnrow,q11,q8']
        rw[hE]
  ·simp (config:={ decide:=true }) only[go_sem,Int.reduceToNat,Nat.reduceAdd,Nat.reduceSub,Nat.reduceMul,Nat.reduceBEq,reduceIte,reduceCtorEq,h0,h1,h5,h27,lnrow,o6]
   refine HW.treeI (fun T H=>T 0=.sl (lns l)∧T 1=.v (.int .i64 i)∧T 5=.pt 0 1 0 0∧T 55=.v (.bool (jumB x.op && decide ((labN x.lab (l.drop (i+1)):Int)=0)))∧H=[some ⟨50,5,[lnrow x]⟩]) (.light 0 (.heavy 1 [] (.light 2 (.light 3 (.light 4 (.light 5 (.light 6 (.light 7 (.light 8 (.heavy 9 [] (.light 10 (.light 11 .leaf)) .stop)))))))) .stop)) follows (by kernel_rfl) (by kernel_rfl) ?_ ?_
   ·cases hjb:jumB x.op with
    | true =>
     rw[hjb] at hJ
     simp (config:={ decide:=true }) only[go_sem,Int.reduceToNat,Nat.reduceAdd,Nat.reduceSub,Nat.reduceMul,Nat.reduceBEq,reduceIte,reduceCtorEq,h0,h1,h5,lnrow]
     refine callX_fn 3 (hJ) (by simp only[go_sem]) rfl ?_
     simp (config:={ decide:=true }) only[go_sem,Int.reduceToNat,Nat.reduceAdd,Nat.reduceSub,Nat.reduceMul,Nat.reduceBEq,reduceIte,reduceCtorEq,h0,h1,h5,hi1,hle1,htkd]
     refine callX_fn 3 (hB) (by simp only[go_sem]) rfl ?_
     simp (config:={ decide:=true }) only[go_sem,Int.reduceToNat,Nat.reduceAdd,Nat.reduceSub,Nat.reduceMul,Nat.reduceBEq,reduceIte,reduceCtorEq,h0,h1,h5]
     all_goals refine GQ.done ⟨?_,?_,?_,?_,rfl⟩
     all_goals simp (config:={ decide:=true }) only[go_sem,Nat.reduceBEq,reduceIte,h0,h1,h5,Bool.true_and]
    | false =>
     rw[hjb] at hJ
     simp (config:={ decide:=true }) only[go_sem,Int.reduceToNat,Nat.reduceAdd,Nat.reduceSub,Nat.reduceMul,Nat.reduceBEq,reduceIte,reduceCtorEq,h0,h1,h5,lnrow]
     refine callX_fn 3 (hJ) (by simp only[go_sem]) rfl ?_
     simp (config:={ decide:=true }) only[go_sem,Int.reduceToNat,Nat.reduceAdd,Nat.reduceSub,Nat.reduceMul,Nat.reduceBEq,reduceIte,reduceCtorEq,h0,h1,h5]
     all_goals refine GQ.done ⟨?_,?_,?_,?_,rfl⟩
     all_goals simp (config:={ decide:=true }) only[go_sem,Nat.reduceBEq,reduceIte,h0,h1,h5,Bool.false_and]
   clear h0 h1 h5 h27 T
   rintro T H ⟨h0,h1,h5,h55,rfl⟩
   by_cases c3:8≤x.op∧x.op≤10∧labN x.lab (l.drop (i+1))=0
   ·rw[if_pos c3] at hE
    rw[show (jumB x.op && decide ((labN x.lab (l.drop (i+1)):Int)=0))=true from by simp[jumB,c3.1,c3.2.1,c3.2.2]] at h55
    simp (config:={ decide:=true }) only[go_sem,Int.reduceToNat,Nat.reduceAdd,Nat.reduceSub,Nat.reduceMul,Nat.reduceBEq,reduceIte,reduceCtorEq,h55]
    rw[hE]
   rw[if_neg c3] at hE
   rw[show (jumB x.op && decide ((labN x.lab (l.drop (i+1)):Int)=0))=false from by
    rw[Bool.eq_false_iff];intro hh;simp[jumB] at hh;exact c3 ⟨hh.1.1,hh.1.2,by omega⟩] at h55
   simp (config:={ decide:=true }) only[go_sem,Int.reduceToNat,Nat.reduceAdd,Nat.reduceSub,Nat.reduceMul,Nat.reduceBEq,reduceIte,reduceCtorEq,h0,h1,h5,h55]
   refine HW.loopG (fun k T H=>∃j:Nat,k=i-j∧j≤i∧T 0=.sl (lns l)∧T 1=.v (.int .i64 i)∧T 5=.pt 0 1 0 0∧T 6=.v (.int .i64 (insN (l.take j)))∧T 7=.v (.int .i64 (mrkN (l.take j)))∧T 8=.v (.int .i64 j)∧H=[some ⟨50,5,[lnrow x]⟩]) i ⟨_,_,Ghost.refl,0,rfl,by omega,by simp (config:={ decide:=true }) only[go_sem,Nat.reduceBEq,reduceIte,h0],by simp (config:={ decide:=true }) only[go_sem,Nat.reduceBEq,reduceIte,h1],by simp (config:={ decide:=true }) only[go_sem,Nat.reduceBEq,reduceIte,h5],rfl,rfl,rfl,rfl⟩ ?_
   clear h0 h1 h5 h55 T
   rintro k T H ⟨j,rfl,hji,h0,h1,h5,h6,h7,h8,rfl⟩
   refine HW.run 200 (by kernel_rfl) ?_
   by_cases hjl:j<i
   ·have hjl' : ((j:Int)<(i:Int))=True:=by simp only[eq_iff_iff,iff_true];omega
    have hy:l[j]?=some l[j]:=List.getElem?_eq_getElem (by omega)
    have htk:l.take (j+1)=l.take j++[l[j]]:=by rw[List.take_add_one,hy];rfl
    generalize l[j]=y at hy htk
    have hjll:((j:Int)<(l.length:Int))=True:=by simp only[eq_iff_iff,iff_true];omega
    have i1:=insN_snoc (l.take j) y
    have m1:=mrkN_snoc (l.take j) y
    have i2:=insN_le (l.take j)
    have m2:=mrkN_le (l.take j)
    rw[←htk] at i1 m1
    rw[List.length_take] at i2 m2
    have wi:IntKind.i64.wrap ((insN (l.take j):Int)+1)=((insN (l.take j)+1:Nat):Int):=by rw[w64 (by omega) (by omega)];rfl
    have wm:IntKind.i64.wrap ((mrkN (l.take j):Int)+1)=((mrkN (l.take j)+1:Nat):Int):=by rw[w64 (by omega) (by omega)];rfl
    have hI:=refInstr y
    have key:∀b,insB2 y.op=b→(b=true↔(y.op≠6∧y.op≠11)):=fun b hb=>by subst hb;simp[insB2]
    simp (config:={ decide:=true }) only[go_sem,Int.reduceToNat,Nat.reduceAdd,Nat.reduceSub,Nat.reduceMul,Nat.reduceBEq,reduceIte,reduceCtorEq,h0,h1,h5,h6,h7,h8,hjl',hjll,hy,lnrow]
    repeat (with_reducible refine And.intro ?_ ?_;·(with_reducible and_intros) <;> omega)
    cases hb:insB2 y.op with
    | true =>
     have hk:=(key _ hb).1 rfl
     rw[hb] at hI
     rw[if_pos hk] at i1
     rw[if_neg hk.2] at m1
     refine callX_fn 3 (hI) (by simp only[go_sem]) rfl ?_
     simp (config:={ decide:=true }) only[go_sem,Int.reduceToNat,Nat.reduceAdd,Nat.reduceSub,Nat.reduceMul,Nat.reduceBEq,reduceIte,reduceCtorEq,h0,h1,h5,h6,h7,h8,hjl',hjll,hy,lnrow,wi,hk.2]
     repeat (with_reducible refine And.intro ?_ ?_;·(with_reducible and_intros) <;> omega)
     refine ⟨_,_,Ghost.refl,i-(j+1),by omega,j+1,rfl,by omega,?_,?_,?_,?_,?_,?_,rfl⟩
     all_goals first | (simp (config:={ decide:=true }) only[go_sem,Nat.reduceBEq,reduceIte,h0,h1,h5];done) | (simp (config:={ decide:=true }) only[go_sem,Nat.reduceBEq,reduceIte,h7,i1,m1];done) | (simp (config:={ decide:=true }) only[go_sem,Nat.reduceBEq,reduceIte,h7,i1,m1,Nat.add_zero];done) | (simp (config:={ decide:=true }) only[go_sem,Nat.reduceBEq,reduceIte];rw[w64 (by omega) (by omega)];rfl)
    | false =>
     rw[hb] at hI
     have hnk:¬(y.op≠6∧y.op≠11):=fun h=>by have:=(key _ hb).2 h;cases this
     rw[if_neg hnk] at i1
     refine callX_fn 3 (hI) (by simp only[go_sem]) rfl ?_
     by_cases o11:y.op=11
     ·rw[if_pos o11] at m1
      simp (config:={ decide:=true }) only[go_sem,Int.reduceToNat,Nat.reduceAdd,Nat.reduceSub,Nat.reduceMul,Nat.reduceBEq,reduceIte,reduceCtorEq,h0,h1,h5,h6,h7,h8,hjl',hjll,hy,lnrow,wm,o11]
      repeat (with_reducible refine And.intro ?_ ?_;·(with_reducible and_intros) <;> omega)
      refine ⟨_,_,Ghost.refl,i-(j+1),by omega,j+1,rfl,by omega,?_,?_,?_,?_,?_,?_,rfl⟩
      all_goals first | (simp (config:={ decide:=true }) only[go_sem,Nat.reduceBEq,reduceIte,h0,h1,h5];done) | (simp (config:={ decide:=true }) only[go_sem,Nat.reduceBEq,reduceIte,h6,i1,m1,Nat.add_zero];done) | (simp (config:={ decide:=true }) only[go_sem,Nat.reduceBEq,reduceIte];rw[w64 (by omega) (by omega)];rfl)
     ·rw[if_neg o11] at m1
      simp (config:={ decide:=true }) only[go_sem,Int.reduceToNat,Nat.reduceAdd,Nat.reduceSub,Nat.reduceMul,Nat.reduceBEq,reduceIte,reduceCtorEq,h0,h1,h5,h6,h7,h8,hjl',hjll,hy,lnrow,o11]
      repeat (with_reducible refine And.intro ?_ ?_;·(with_reducible and_intros) <;> omega)
      refine ⟨_,_,Ghost.refl,i-(j+1),by omega,j+1,rfl,by omega,?_,?_,?_,?_,?_,?_,rfl⟩
      all_goals first | (simp (config:={ decide:=true }) only[go_sem,Nat.reduceBEq,reduceIte,h0,h1,h5];done) | (simp (config:={ decide:=true }) only[go_sem,Nat.reduceBEq,reduceIte,h6,h7,i1,m1,Nat.add_zero];done) | (simp (config:={ decide:=true }) only[go_sem,Nat.reduceBEq,reduceIte];rw[w64 (by omega) (by omega)];rfl)
   ·have hjl' : ((j:Int)<(i:Int))=False:=by simp only[eq_iff_iff,iff_false];omega
    obtain rfl:j=i:=by omega
    have hI:=refInstr x
    simp (config:={ decide:=true }) only[go_sem,Int.reduceToNat,Nat.reduceAdd,Nat.reduceSub,Nat.reduceMul,Nat.reduceBEq,reduceIte,reduceCtorEq,h0,h1,h5,h6,h7,h8,hjl',lnrow]
    by_cases q11:x.op=11
    ·have hb:insB2 x.op=false:=by simp[insB2,q11]
     rw[hb] at hI
     refine callX_fn 3 (hI) (by simp only[go_sem]) rfl ?_
     by_cases q8:8≤mrkN (l.take j)
     ·have q8' : ((8:Int)≤(mrkN (l.take j):Int))=True:=by simp only[eq_iff_iff,iff_true];omega
      rw[if_pos (.inr ⟨q11,q8⟩)] at hE
      simp (config:={ decide:=true }) only[go_sem,Int.reduceToNat,Nat.reduceAdd,Nat.reduceSub,Nat.reduceMul,Nat.reduceBEq,reduceIte,reduceCtorEq,h0,h1,h5,h6,h7,h8,lnrow,q11,q8']
      rw[hE]
     ·have q8' : ((8:Int)≤(mrkN (l.take j):Int))=False:=by simp only[eq_iff_iff,iff_false];omega
      rw[if_neg (by rintro (h | h);exact h.2.1 q11;exact q8 h.2)] at hE
      simp (config:={ decide:=true }) only[go_sem,Int.reduceToNat,Nat.reduceAdd,Nat.reduceSub,Nat.reduceMul,Nat.reduceBEq,reduceIte,reduceCtorEq,h0,h1,h5,h6,h7,h8,lnrow,q11,q8']
      rw[hE]
    ·by_cases q6:x.op=6
     ·have hb:insB2 x.op=false:=by simp[insB2,q6]
      rw[hb] at hI
      refine callX_fn 3 (hI) (by simp only[go_sem]) rfl ?_
      rw[if_neg (by rintro (h | h);exact h.1 q6;exact q11 h.1)] at hE
      simp (config:={ decide:=true }) only[go_sem,Int.reduceToNat,Nat.reduceAdd,Nat.reduceSub,Nat.reduceMul,Nat.reduceBEq,reduceIte,reduceCtorEq,h0,h1,h5,h6,h7,h8,lnrow,q11]
      rw[hE]
     ·have hb:insB2 x.op=true:=by simp[insB2,q6,q11]
      rw[hb] at hI
      refine callX_fn 3 (hI) (by simp only[go_sem]) rfl ?_
      by_cases q8:8≤insN (l.take j)
      ·have q8' : ((8:Int)≤(insN (l.take j):Int))=True:=by simp only[eq_iff_iff,iff_true];omega
       rw[if_pos (.inl ⟨q6,q11,q8⟩)] at hE
       simp (config:={ decide:=true }) only[go_sem,Int.reduceToNat,Nat.reduceAdd,Nat.reduceSub,Nat.reduceMul,Nat.reduceBEq,reduceIte,reduceCtorEq,h0,h1,h5,h6,h7,h8,lnrow,q11,q8']
       rw[hE]
      ·have q8' : ((8:Int)≤(insN (l.take j):Int))=False:=by simp only[eq_iff_iff,iff_false];omega
       rw[if_neg (by rintro (h | h);exact q8 h.2.2;exact q11 h.1)] at hE
       simp (config:={ decide:=true }) only[go_sem,Int.reduceToNat,Nat.reduceAdd,Nat.reduceSub,Nat.reduceMul,Nat.reduceBEq,reduceIte,reduceCtorEq,h0,h1,h5,h6,h7,h8,lnrow,q11,q8']
       rw[hE]
end Go.Proofs.YtmapdjdnnhlpiaaGreatDoor
namespace Go.Proofs.YtmapdjdnnhlpiaaGreatDoor
open Go.RowKit
set_option maxRecDepth 8000
theorem leS_nil {c:List UInt8} (h:nameB c=true):leS c []=false:=by
 cases c with
 | nil=>revert h;decide
 | cons a r=>simp[leS,Op.bytesLess]
set_option maxHeartbeats 8000000 in
theorem refHead4 (f:Fl) (hi:f.init.length≤1000000) (ht:f.thr.length≤1000000) (hnl:f.name.length≤1000000) (hcl:∀c∈f.init,c.1.length≤1000000):HFn Tryz.prog 32 [fileH f] (.v (.int .i64 (headE f))):=by
 generalize hE:headE f=E
 unfold headE at hE
 refine HCalls_body (fn:=Tryz.f32) 51 [2] (by kernel_rfl) rfl (by kernel_rfl) (HW.run 400 (by kernel_rfl) ?_)
 simp (config:={ decide:=true }) only[go_sem,Int.reduceToNat,Nat.reduceAdd,Nat.reduceSub,Nat.reduceMul,Nat.reduceBEq,reduceIte,reduceCtorEq]
 refine callX_fn 3 (refName f.name hnl) (by simp only[go_sem]) rfl ?_
 cases hn:nameB f.name with
 | false =>
  rw[if_pos hn] at hE
  simp (config:={ decide:=true }) only[go_sem,Int.reduceToNat,Nat.reduceAdd,Nat.reduceSub,Nat.reduceMul,Nat.reduceBEq,reduceIte,reduceCtorEq]
  rw[hE]
 | true =>
  rw[if_neg (by simp[hn])] at hE
  simp (config:={ decide:=true }) only[go_sem,Int.reduceToNat,Nat.reduceAdd,Nat.reduceSub,Nat.reduceMul,Nat.reduceBEq,reduceIte,reduceCtorEq]
  refine HW.loopG (fun k T H=>∃(i:Nat) (last:List UInt8),k=f.init.length-i∧i≤f.init.length∧iniE [] f.init=iniE last (f.init.drop i)∧(i=0→last=[])∧(∀j,i=j+1→∃n,f.init[j]?=some (last,n))∧T 1=.pt 0 1 0 0∧T 3=.v (.int .i64 i)∧H=[some (fileO f)]) f.init.length ⟨_,_,Ghost.refl,0,[],rfl,by omega,rfl,fun _=>rfl,fun j h=>by omega,rfl,rfl,rfl⟩ ?_
  rintro k T H ⟨i,last,rfl,hil,hI,hz,hs,h1,h3,rfl⟩
  refine HW.run 200 (by kernel_rfl) ?_
  by_cases hlt:i<f.init.length
  ·have hlt' : ((i:Int)<(f.init.length:Int))=True:=by simp only[eq_iff_iff,iff_true];omega
   have hx:f.init[i]?=some f.init[i]:=List.getElem?_eq_getElem hlt
   have hdr:f.init.drop i=f.init[i]::f.init.drop (i+1):=List.drop_eq_getElem_cons hlt
   have hcx:=hcl _ (List.getElem_mem hlt)
   rw[hdr,iniE] at hI
   generalize f.init[i]=c at hx hI hcx
   simp (config:={ decide:=true }) only[go_sem,Int.reduceToNat,Nat.reduceAdd,Nat.reduceSub,Nat.reduceMul,Nat.reduceBEq,reduceIte,reduceCtorEq,h1,h3,hlt',hx,crow]
   repeat (with_reducible refine And.intro ?_ ?_;·(with_reducible and_intros) <;> omega)
   refine callX_fn 3 (refName c.1 hcx) (by simp only[go_sem]) rfl ?_
   cases hc:nameB c.1 with
   | false =>
    rw[if_pos hc] at hI
    rw[if_pos (by rw[hI];decide),hI] at hE
    simp (config:={ decide:=true }) only[go_sem,Int.reduceToNat,Nat.reduceAdd,Nat.reduceSub,Nat.reduceMul,Nat.reduceBEq,reduceIte,reduceCtorEq]
    rw[hE]
   | true =>
    rw[if_neg (by simp[hc])] at hI
    simp (config:={ decide:=true }) only[go_sem,Int.reduceToNat,Nat.reduceAdd,Nat.reduceSub,Nat.reduceMul,Nat.reduceBEq,reduceIte,reduceCtorEq,h1,h3]
    have hnx:∀j,i+1=j+1→∃n,f.init[j]?=some (c.1,n):=fun j h=>⟨c.2,(show j=i by omega)▸hx⟩
    rcases Nat.eq_zero_or_pos i with h0 | hpos
    ·have hp:((0:Int)<(i:Int))=False:=by simp only[eq_iff_iff,iff_false];omega
     rw[hz h0,if_neg (by simp[leS_nil hc])] at hI
     refine HW.tree 1 (.light 0 (.light 1 (.light 2 (.light 3 (.light 4 (.light 5 (.light 6 (.light 7 (.light 8 (.light 9 (.light 10 (.light 11 (.light 12 (.light 13 (.light 14 (.light 15 (.light 16 (.light 17 .leaf)))))))))))))))))) follows (by kernel_rfl) (by kernel_rfl) ?_
     simp (config:={ decide:=true }) only[go_sem,Int.reduceToNat,Nat.reduceAdd,Nat.reduceSub,Nat.reduceMul,Nat.reduceBEq,reduceIte,reduceCtorEq,h1,h3,hp]
     refine ⟨_,_,Ghost.refl,f.init.length-(i+1),by omega,i+1,c.1,rfl,by omega,hI,fun h=>by omega,hnx,?_,?_,rfl⟩
     all_goals first | (simp (config:={ decide:=true }) only[go_sem,Nat.reduceBEq,reduceIte,h1];done) | (simp (config:={ decide:=true }) only[go_sem,Nat.reduceBEq,reduceIte];rw[w64 (by omega) (by omega)];rfl)
    ·obtain ⟨m,hm⟩:∃m,i=m+1:=⟨i-1,by omega⟩
     obtain ⟨n,hy⟩:=hs m hm
     have hp:((0:Int)<(i:Int))=True:=by simp only[eq_iff_iff,iff_true];omega
     have hj1:IntKind.i64.wrap ((i:Int)-1)=(m:Int):=by rw[w64 (by omega) (by omega)];omega
     have hml:((m:Int)<(f.init.length:Int))=True:=by simp only[eq_iff_iff,iff_true];omega
     cases hle:leS c.1 last with
     | true =>
      rw[if_pos hle] at hI
      rw[if_pos (by rw[hI];decide),hI] at hE
      refine HW.tree 1 (.light 0 (.light 1 (.light 2 (.light 3 (.light 4 (.light 5 (.light 6 (.light 7 (.light 8 (.light 9 (.light 10 (.light 11 (.light 12 (.light 13 (.light 14 (.light 15 (.light 16 (.light 17 .leaf)))))))))))))))))) follows (by kernel_rfl) (by kernel_rfl) ?_
      simp (config:={ decide:=true }) only[go_sem,Int.reduceToNat,Nat.reduceAdd,Nat.reduceSub,Nat.reduceMul,Nat.reduceBEq,reduceIte,reduceCtorEq,h1,h3,hp,hj1,hml,hlt',hx,hy,crow,hle]
      repeat (with_reducible refine And.intro ?_ ?_;·(with_reducible and_intros) <;> omega)
      all_goals first | (rw[hE];done) | skip
     | false =>
      rw[if_neg (by simp[hle])] at hI
      refine HW.tree 1 (.light 0 (.light 1 (.light 2 (.light 3 (.light 4 (.light 5 (.light 6 (.light 7 (.light 8 (.light 9 (.light 10 (.light 11 (.light 12 (.light 13 (.light 14 (.light 15 (.light 16 (.light 17 .leaf)))))))))))))))))) follows (by kernel_rfl) (by kernel_rfl) ?_
      simp (config:={ decide:=true }) only[go_sem,Int.reduceToNat,Nat.reduceAdd,Nat.reduceSub,Nat.reduceMul,Nat.reduceBEq,reduceIte,reduceCtorEq,h1,h3,hp,hj1,hml,hlt',hx,hy,crow,hle]
      repeat (with_reducible refine And.intro ?_ ?_;·(with_reducible and_intros) <;> omega)
      refine ⟨_,_,Ghost.refl,f.init.length-(i+1),by omega,i+1,c.1,rfl,by omega,hI,fun h=>by omega,hnx,?_,?_,rfl⟩
      all_goals first | (simp (config:={ decide:=true }) only[go_sem,Nat.reduceBEq,reduceIte,h1];done) | (simp (config:={ decide:=true }) only[go_sem,Nat.reduceBEq,reduceIte];rw[w64 (by omega) (by omega)];rfl)
  ·have hlt' : ((i:Int)<(f.init.length:Int))=False:=by simp only[eq_iff_iff,iff_false];omega
   rw[List.drop_of_length_le (by omega)] at hI
   have hI' : iniE [] f.init=0:=hI
   rw[if_neg (by simp[hI'])] at hE
   by_cases t1:f.thr.length<1
   ·have t1' : ((f.thr.length:Int)<1)=True:=by simp only[eq_iff_iff,iff_true];omega
    rw[if_pos (.inl t1)] at hE
    simp (config:={ decide:=true }) only[go_sem,Int.reduceToNat,Nat.reduceAdd,Nat.reduceSub,Nat.reduceMul,Nat.reduceBEq,reduceIte,reduceCtorEq,h1,h3,hlt',t1']
    rw[hE]
   ·have t1' : ((f.thr.length:Int)<1)=False:=by simp only[eq_iff_iff,iff_false];omega
    by_cases t2:3<f.thr.length
    ·have t2' : ((3:Int)<(f.thr.length:Int))=True:=by simp only[eq_iff_iff,iff_true];omega
     rw[if_pos (.inr t2)] at hE
     simp (config:={ decide:=true }) only[go_sem,Int.reduceToNat,Nat.reduceAdd,Nat.reduceSub,Nat.reduceMul,Nat.reduceBEq,reduceIte,reduceCtorEq,h1,h3,hlt',t1',t2']
     rw[hE]
    ·have t2' : ((3:Int)<(f.thr.length:Int))=False:=by simp only[eq_iff_iff,iff_false];omega
     rw[if_neg (by omega)] at hE
     simp (config:={ decide:=true }) only[go_sem,Int.reduceToNat,Nat.reduceAdd,Nat.reduceSub,Nat.reduceMul,Nat.reduceBEq,reduceIte,reduceCtorEq,h1,h3,hlt',t1',t2']
     rw[hE]
end Go.Proofs.YtmapdjdnnhlpiaaGreatDoor
namespace Go.Proofs.YtmapdjdnnhlpiaaGreatDoor
open Go.RowKit
set_option maxRecDepth 8000
def insS:List (List UInt8)→List UInt8→List (List UInt8)
 | [],s=>[s]
 | x::r,s=>if leS s x=true then (if s=x then x::r else s::x::r) else x::insS r s
def putS (l:List (List UInt8)) (s:List UInt8):List (List UInt8):=if s=[] then l else insS l s
set_option maxHeartbeats 8000000 in
theorem refPutS (l:List (List UInt8)) (s:List UInt8) (hl:l.length≤1000000):HFn Tryz.prog 51 [.sl (strs l),.v (str s)] (owStrs (putS l s)):=by
 generalize hR:putS l s=R
 unfold putS at hR
 refine HCalls_body (fn:=Tryz.f51) 50 [4] (by kernel_rfl) rfl (by kernel_rfl) (HW.run 400 (by kernel_rfl) ?_)
 simp (config:={ decide:=true }) only[go_sem,Int.reduceToNat,Nat.reduceAdd,Nat.reduceSub,Nat.reduceMul,Nat.reduceBEq,reduceIte,reduceCtorEq]
 refine HW.loopG (fun k T H=>∃(i:Nat) (out:List (List UInt8)) (done:Bool),k=l.length-i∧i≤l.length∧out.length≤2*i∧R=out++(if done=true then l.drop i else insS (l.drop i) s)∧T 0=.sl (strs l)∧T 1=.v (str s)∧T 5=.hd 0 0 out.length∧T 6=.v (.bool done)∧T 7=.v (.int .i64 i)∧H=[some ⟨9,1,strs out⟩]) l.length ⟨_,_,Ghost.nil 5 9 1 rfl,0,[],decide (s=[]),rfl,by omega,by simp,by rw[←hR];by_cases h:s=[] <;> simp[h],rfl,rfl,rfl,rfl,rfl,rfl⟩ ?_
 rintro k T H ⟨i,out,done,rfl,hi,hol,hI,h0,h1,h5,h6,h7,rfl⟩
 refine HW.run 200 (by kernel_rfl) ?_
 by_cases hlt:i<l.length
 ·have hlt' : ((i:Int)<(l.length:Int))=True:=by simp only[eq_iff_iff,iff_true];omega
  have hx:l[i]?=some l[i]:=List.getElem?_eq_getElem hlt
  have hdr:l.drop i=l[i]::l.drop (i+1):=List.drop_eq_getElem_cons hlt
  rw[hdr] at hI
  generalize l[i]=x at hx hI
  cases done with
  | true =>
   simp (config:={ decide:=true }) only[go_sem,Int.reduceToNat,Nat.reduceAdd,Nat.reduceSub,Nat.reduceMul,Nat.reduceBEq,reduceIte,reduceCtorEq,h0,h1,h5,h6,h7,hlt',hx]
   repeat (with_reducible refine And.intro ?_ ?_;·(with_reducible and_intros) <;> omega)
   refine ⟨_,_,Ghost.trunc [0,1,5,6,7] 1 (by omega) ?_ ?_,l.length-(i+1),by omega,i+1,out++[x],true,rfl,by omega,by simp;omega,by rw[hI];simp,?_,?_,?_,?_,?_,?_⟩
   all_goals first | (simp (config:={ decide:=true }) only[go_sem,Nat.reduceBEq,reduceIte,h0,h1,h6];done) | (simp (config:={ decide:=true }) only[go_sem,Nat.reduceBEq,reduceIte];rw[w64 (by omega) (by omega)];rfl) | (simp (config:={ decide:=true }) only[go_sem,Int.reduceToNat,Nat.reduceAdd,Nat.reduceSub,Nat.reduceMul,Nat.reduceBEq,reduceIte,reduceCtorEq,h0,List.length_append,List.length_cons,List.length_nil];done)
  | false =>
   cases hle:leS s x with
   | true =>
    by_cases hs:s=x
    ·simp (config:={ decide:=true }) only[go_sem,Int.reduceToNat,Nat.reduceAdd,Nat.reduceSub,Nat.reduceMul,Nat.reduceBEq,reduceIte,reduceCtorEq,h0,h1,h5,h6,h7,hlt',hx,hle,eq_true hs]
     repeat (with_reducible refine And.intro ?_ ?_;·(with_reducible and_intros) <;> omega)
     refine ⟨_,_,Ghost.trunc [0,1,5,6,7] 1 (by omega) ?_ ?_,l.length-(i+1),by omega,i+1,out++[x],true,rfl,by omega,by simp;omega,by rw[hI,if_neg (by decide),insS,if_pos hle,if_pos hs];simp,?_,?_,?_,?_,?_,?_⟩
     all_goals first | (simp (config:={ decide:=true }) only[go_sem,Nat.reduceBEq,reduceIte,h0,h1,h6];done) | (simp (config:={ decide:=true }) only[go_sem,Nat.reduceBEq,reduceIte];rw[w64 (by omega) (by omega)];rfl) | (simp (config:={ decide:=true }) only[go_sem,Int.reduceToNat,Nat.reduceAdd,Nat.reduceSub,Nat.reduceMul,Nat.reduceBEq,reduceIte,reduceCtorEq,h0,List.length_append,List.length_cons,List.length_nil];done)
    ·simp (config:={ decide:=true }) only[go_sem,Int.reduceToNat,Nat.reduceAdd,Nat.reduceSub,Nat.reduceMul,Nat.reduceBEq,reduceIte,reduceCtorEq,h0,h1,h5,h6,h7,hlt',hx,hle,hs]
     repeat (with_reducible refine And.intro ?_ ?_;·(with_reducible and_intros) <;> omega)
     refine ⟨_,_,Ghost.trunc [0,1,5,6,7] 1 (by omega) ?_ ?_,l.length-(i+1),by omega,i+1,out++[s]++[x],true,rfl,by omega,by simp;omega,by rw[hI];simp[insS,hle,hs],?_,?_,?_,?_,?_,?_⟩
     all_goals first | (simp (config:={ decide:=true }) only[go_sem,Nat.reduceBEq,reduceIte,h0,h1,h6];done) | (simp (config:={ decide:=true }) only[go_sem,Nat.reduceBEq,reduceIte];rw[w64 (by omega) (by omega)];rfl) | (simp (config:={ decide:=true }) only[go_sem,Int.reduceToNat,Nat.reduceAdd,Nat.reduceSub,Nat.reduceMul,Nat.reduceBEq,reduceIte,reduceCtorEq,h0,List.length_append,List.length_cons,List.length_nil];done)
   | false =>
    simp (config:={ decide:=true }) only[go_sem,Int.reduceToNat,Nat.reduceAdd,Nat.reduceSub,Nat.reduceMul,Nat.reduceBEq,reduceIte,reduceCtorEq,h0,h1,h5,h6,h7,hlt',hx,hle]
    repeat (with_reducible refine And.intro ?_ ?_;·(with_reducible and_intros) <;> omega)
    refine ⟨_,_,Ghost.trunc [0,1,5,6,7] 1 (by omega) ?_ ?_,l.length-(i+1),by omega,i+1,out++[x],false,rfl,by omega,by simp;omega,by rw[hI];simp[insS,hle],?_,?_,?_,?_,?_,?_⟩
    all_goals first | (simp (config:={ decide:=true }) only[go_sem,Nat.reduceBEq,reduceIte,h0,h1,h6];done) | (simp (config:={ decide:=true }) only[go_sem,Nat.reduceBEq,reduceIte];rw[w64 (by omega) (by omega)];rfl) | (simp (config:={ decide:=true }) only[go_sem,Int.reduceToNat,Nat.reduceAdd,Nat.reduceSub,Nat.reduceMul,Nat.reduceBEq,reduceIte,reduceCtorEq,h0,List.length_append,List.length_cons,List.length_nil];done)
 ·have hlt' : ((i:Int)<(l.length:Int))=False:=by simp only[eq_iff_iff,iff_false];omega
  rw[List.drop_of_length_le (by omega)] at hI
  cases done with
  | true =>
   simp at hI
   subst hI
   simp (config:={ decide:=true }) only[go_sem,Int.reduceToNat,Nat.reduceAdd,Nat.reduceSub,Nat.reduceMul,Nat.reduceBEq,reduceIte,reduceCtorEq,h0,h1,h5,h6,h7,hlt']
   try rfl
  | false =>
   have hI' : R=out++[s]:=by rw[hI];simp[insS]
   subst hI'
   simp (config:={ decide:=true }) only[go_sem,Int.reduceToNat,Nat.reduceAdd,Nat.reduceSub,Nat.reduceMul,Nat.reduceBEq,reduceIte,reduceCtorEq,h0,h1,h5,h6,h7,hlt']
   exact ⟨⟨by omega,by omega⟩,rfl⟩
end Go.Proofs.YtmapdjdnnhlpiaaGreatDoor
namespace Go.Proofs.YtmapdjdnnhlpiaaGreatDoor
set_option maxRecDepth 8000
theorem leS_iff {a b:List UInt8}:leS a b=true↔a<b∨a=b:=by
 unfold leS
 rw[bytesLess_eq]
 simp
theorem len_sub {α:Type} [DecidableEq α]:∀(a b:List α),a.Nodup→(∀x∈a,x∈b)→a.length≤b.length
 | [],_,_,_=>Nat.zero_le _
 | x::a,b,hn,h=>by
  rw[List.nodup_cons] at hn
  have hx:=h x (by simp)
  have h1:=len_sub a (b.erase x) hn.2 fun y hy=>by
   have hne:y≠x:=fun e=>hn.1 (e▸hy)
   exact (List.mem_erase_of_ne hne).2 (h y (by simp[hy]))
  rw[List.length_erase_of_mem hx] at h1
  have:=List.length_pos_of_mem hx
  simp only[List.length_cons];omega
def Rising (l:List (List UInt8)):Prop:=l.Pairwise fun a b=>a<b
theorem Rising.nodup {l:List (List UInt8)} (h:Rising l):l.Nodup:=h.imp fun {a b} hab e=>by subst e;exact List.lt_irrefl _ hab
theorem insS_mem (s y:List UInt8):∀l,y∈insS l s↔y∈l∨y=s
 | []=>by simp[insS]
 | x::r=>by
  unfold insS
  split
  ·split
   ·rename_i h;subst h;simp
    intro h;exact .inl h
   ·simp;grind
  ·have:=insS_mem s y r
   simp only[List.mem_cons,this];grind
theorem insS_rising (s:List UInt8):∀l,Rising l→Rising (insS l s)
 | [],_=>by simp[insS,Rising]
 | x::r,h=>by
  have h':=List.pairwise_cons.1 h
  unfold insS
  split
  ·rename_i hle
   split
   ·exact h
   ·rename_i hne
    have hlt:s<x:=(leS_iff.1 hle).resolve_right hne
    refine List.pairwise_cons.2 ⟨fun y hy=>?_,h⟩
    rcases List.mem_cons.1 hy with rfl | hy
    ·exact hlt
    ·exact List.lt_trans hlt (h'.1 y hy)
  ·rename_i hle
   have hlt:x<s:=by
    by_cases h1:s<x
    ·exact absurd (leS_iff.2 (.inl h1)) hle
    ·by_cases h2:x<s
     ·exact h2
     ·exact absurd (leS_iff.2 (.inr (List.le_antisymm (List.not_lt.1 h2) (List.not_lt.1 h1)))) hle
   refine List.pairwise_cons.2 ⟨fun y hy=>?_,insS_rising s r h'.2⟩
   rcases (insS_mem s y r).1 hy with hy | rfl
   ·exact h'.1 y hy
   ·exact hlt
def putsF (out:List (List UInt8)) (l:List (List UInt8)):List (List UInt8):=l.foldl putS out
theorem putS_rising {l:List (List UInt8)} (h:Rising l) (s:List UInt8):Rising (putS l s):=by
 unfold putS
 split
 ·exact h
 ·exact insS_rising s l h
theorem putS_mem (l:List (List UInt8)) (s y:List UInt8):y∈putS l s↔y∈l∨(s≠[]∧y=s):=by
 unfold putS
 split
 ·rename_i h;simp[h]
 ·rename_i h;rw[insS_mem];simp[h]
theorem putsF_rising:∀(l out:List (List UInt8)),Rising out→Rising (putsF out l)
 | [],_,h=>h
 | x::l,out,h=>putsF_rising l _ (putS_rising h x)
theorem putsF_mem (y:List UInt8):∀(l out:List (List UInt8)),y∈putsF out l↔y∈out∨(y≠[]∧y∈l)
 | [],out=>by simp[putsF]
 | x::l,out=>by
  show y∈putsF (putS out x) l↔_
  rw[putsF_mem y l,putS_mem]
  simp only[List.mem_cons]
  grind
theorem putsF_length (l m:List (List UInt8)) (h:∀y,y∈m↔(y≠[]∧y∈l)):(putsF [] l).length=(foldC [] m).length:=by
 have hr:=(putsF_rising l [] List.Pairwise.nil).nodup
 have hk:=foldC_nodup m ([]:List (List UInt8×Int)) (by simp)
 have e:((foldC [] m).map (·.1)).length=(foldC [] m).length:=List.length_map _
 rw[←e]
 refine Nat.le_antisymm (len_sub _ _ hr fun x hx=>?_) (len_sub _ _ hk fun x hx=>?_)
 ·have:=(putsF_mem x l []).1 hx
  rw[foldC_keys]
  exact .inr ((h x).2 (this.resolve_left (by simp)))
 ·have:=(foldC_keys x m []).1 hx
  exact (putsF_mem x l []).2 (.inr ((h x).1 (this.resolve_left (by simp))))
end Go.Proofs.YtmapdjdnnhlpiaaGreatDoor
namespace Go.Proofs.YtmapdjdnnhlpiaaGreatDoor
open Go.RowKit
set_option maxRecDepth 8000
theorem insS_len (s:List UInt8):∀l,(insS l s).length≤l.length+1
 | []=>by simp[insS]
 | x::r=>by
  have:=insS_len s r
  unfold insS
  split
  ·split <;> simp
  ·simp;omega
theorem putS_len (l:List (List UInt8)) (s:List UInt8):(putS l s).length≤l.length+1:=by
 unfold putS
 split
 ·omega
 ·exact insS_len s l
theorem putsF_snoc (out l:List (List UInt8)) (x:List UInt8):putsF out (l++[x])=putS (putsF out l) x:=by simp[putsF,List.foldl_append]
theorem putsF_len:∀(l out:List (List UInt8)),(putsF out l).length≤out.length+l.length
 | [],out=>by simp[putsF]
 | x::l,out=>by
  have h1:=putsF_len l (putS out x)
  have h2:=putS_len out x
  show (putsF (putS out x) l).length≤_
  simp only[List.length_cons];omega
theorem refPutSl (l:List (List UInt8)) (s:List UInt8) (hl:l.length≤1000000):HFn Tryz.prog 51 [.sl (strs l),.v (str s)] (.sl (strs (putS l s))):=HFn.shut (refPutS l s hl) (by simp only[fzo_owStrs])
def rawL (f:Fl):List (List UInt8):=f.init.map (·.1)++f.thr.flatMap (fun l=>l.map (·.loc))++condL f.cond
set_option maxHeartbeats 16000000 in
theorem refLocs (f:Fl) (hB:(rawL f).length≤400000) (ht:f.thr.length≤400000) (hc:f.cond.length≤400000):HFn Tryz.prog 34 [fileH f] (.sl (strs (putsF [] (rawL f)))):=by
 unfold rawL at hB⊢
 simp only[List.length_append,List.length_map] at hB
 refine HCalls_body (fn:=Tryz.f34) 76 [2] (by kernel_rfl) rfl (by kernel_rfl) (HW.run 400 (by kernel_rfl) ?_)
 simp (config:={ decide:=true }) only[go_sem,Int.reduceToNat,Nat.reduceAdd,Nat.reduceSub,Nat.reduceMul,Nat.reduceBEq,reduceIte,reduceCtorEq]
 refine HW.loopG (fun k T H=>∃(i:Nat),k=f.init.length-i∧i≤f.init.length∧T 1=.pt 0 1 0 0∧T 3=.sl (strs (putsF [] ((f.init.take i).map (·.1))))∧T 4=.v (.int .i64 i)∧H=[some (fileO f)]) f.init.length ⟨_,_,Ghost.tmp 3 (.sl []) Conv.nilSl,0,rfl,by omega,rfl,rfl,rfl,rfl⟩ ?_
 rintro k T H ⟨i,rfl,hil,h1,h3,h4,rfl⟩
 refine HW.run 200 (by kernel_rfl) ?_
 by_cases hlt:i<f.init.length
 ·have hlt' : ((i:Int)<(f.init.length:Int))=True:=by simp only[eq_iff_iff,iff_true];omega
  have hx:f.init[i]?=some f.init[i]:=List.getElem?_eq_getElem hlt
  have htk:f.init.take (i+1)=f.init.take i++[f.init[i]]:=by rw[List.take_add_one,hx];rfl
  generalize f.init[i]=c at hx htk
  have hle:=putsF_len ((f.init.take i).map (·.1)) []
  rw[List.length_map,List.length_take,List.length_nil] at hle
  simp (config:={ decide:=true }) only[go_sem,Int.reduceToNat,Nat.reduceAdd,Nat.reduceSub,Nat.reduceMul,Nat.reduceBEq,reduceIte,reduceCtorEq,h1,h3,h4,hlt',hx,crow]
  repeat (with_reducible refine And.intro ?_ ?_;·(with_reducible and_intros) <;> omega)
  refine callX_nm (refPutSl (putsF [] ((f.init.take i).map (·.1))) c.1 (by omega)) rfl rfl ?_
  simp (config:={ decide:=true }) only[go_sem,Int.reduceToNat,Nat.reduceAdd,Nat.reduceSub,Nat.reduceMul,Nat.reduceBEq,reduceIte,reduceCtorEq,h1,h3,h4]
  refine ⟨_,_,Ghost.refl,f.init.length-(i+1),by omega,i+1,rfl,by omega,?_,?_,?_,rfl⟩
  all_goals first | (simp (config:={ decide:=true }) only[go_sem,Nat.reduceBEq,reduceIte,h1];done) | (simp (config:={ decide:=true }) only[go_sem,Nat.reduceBEq,reduceIte];rw[w64 (by omega) (by omega)];rfl) | (simp (config:={ decide:=true }) only[go_sem,Nat.reduceBEq,reduceIte];rw[htk,List.map_append,List.map_cons,List.map_nil,putsF_snoc])
 ·have hlt' : ((i:Int)<(f.init.length:Int))=False:=by simp only[eq_iff_iff,iff_false];omega
  obtain rfl:i=f.init.length:=by omega
  rw[List.take_length] at h3
  simp (config:={ decide:=true }) only[go_sem,Int.reduceToNat,Nat.reduceAdd,Nat.reduceSub,Nat.reduceMul,Nat.reduceBEq,reduceIte,reduceCtorEq,h1,h3,h4,hlt']
  have hAl:(f.init.map (·.1)).length=f.init.length:=List.length_map _
  generalize f.init.map (·.1)=A at h3 hAl⊢
  refine HW.loopG (fun k T H=>∃(i:Nat),k=f.thr.length-i∧i≤f.thr.length∧T 1=.pt 0 1 0 0∧T 3=.sl (strs (putsF [] (A++(f.thr.take i).flatMap fun l=>l.map (·.loc))))∧T 5=.v (.int .i64 i)∧H=[some (fileO f)]) f.thr.length ⟨_,_,Ghost.refl,0,rfl,by omega,by simp (config:={ decide:=true }) only[go_sem,Nat.reduceBEq,reduceIte,h1],by simp (config:={ decide:=true }) only[go_sem,Nat.reduceBEq,reduceIte,h3,List.take_zero,List.flatMap_nil,List.append_nil],rfl,rfl⟩ ?_
  clear h1 h3 h4
  rintro k T H ⟨i,rfl,hil,h1,h3,h5,rfl⟩
  refine HW.run 200 (by kernel_rfl) ?_
  by_cases hlt:i<f.thr.length
  ·have hlt' : ((i:Int)<(f.thr.length:Int))=True:=by simp only[eq_iff_iff,iff_true];omega
   have hx:f.thr[i]?=some f.thr[i]:=List.getElem?_eq_getElem hlt
   have htk:f.thr.take (i+1)=f.thr.take i++[f.thr[i]]:=by rw[List.take_add_one,hx];rfl
   have hfl:((f.thr.take (i+1)).flatMap fun l=>l.map (·.loc)).length≤(f.thr.flatMap fun l=>l.map (·.loc)).length:=by
    have:(f.thr.flatMap fun l=>l.map (·.loc))=((f.thr.take (i+1)).flatMap fun l=>l.map (·.loc))++((f.thr.drop (i+1)).flatMap fun l=>l.map (·.loc)):=by rw[←List.flatMap_append,List.take_append_drop]
    rw[this,List.length_append];omega
   generalize f.thr[i]=l at hx htk
   rw[htk,List.flatMap_append,List.length_append] at hfl
   generalize hBB:((f.thr.take i).flatMap fun l=>l.map (·.loc))=B at hfl h3
   have hfl' : B.length+l.length≤(f.thr.flatMap fun l=>l.map (·.loc)).length:=by simpa using hfl
   simp (config:={ decide:=true }) only[go_sem,Int.reduceToNat,Nat.reduceAdd,Nat.reduceSub,Nat.reduceMul,Nat.reduceBEq,reduceIte,reduceCtorEq,h1,h3,h5,hlt',hx,tdrow]
   refine HW.loopG (fun k T H=>∃(j:Nat),k=l.length-j∧j≤l.length∧T 1=.pt 0 1 0 0∧T 3=.sl (strs (putsF [] (A++B++(l.take j).map (·.loc))))∧T 5=.v (.int .i64 i)∧T 6=.v (.int .i64 j)∧H=[some (fileO f)]) l.length ⟨_,_,Ghost.refl,0,rfl,by omega,by simp (config:={ decide:=true }) only[go_sem,Nat.reduceBEq,reduceIte,h1],by simp (config:={ decide:=true }) only[go_sem,Nat.reduceBEq,reduceIte,h3,List.take_zero,List.map_nil,List.append_nil],by simp (config:={ decide:=true }) only[go_sem,Nat.reduceBEq,reduceIte,h5],rfl,rfl⟩ ?_
   clear h1 h3 h5
   rintro k T H ⟨j,rfl,hjl,h1,h3,h5,h6,rfl⟩
   refine HW.run 200 (by kernel_rfl) ?_
   by_cases hlt2:j<l.length
   ·have hlt2' : ((j:Int)<(l.length:Int))=True:=by simp only[eq_iff_iff,iff_true];omega
    have hx2:l[j]?=some l[j]:=List.getElem?_eq_getElem hlt2
    have htk2:l.take (j+1)=l.take j++[l[j]]:=by rw[List.take_add_one,hx2];rfl
    generalize l[j]=x at hx2 htk2
    have hle:=putsF_len (A++B++(l.take j).map (·.loc)) []
    simp only[List.length_append,List.length_map,List.length_take,List.length_nil] at hle
    simp (config:={ decide:=true }) only[go_sem,Int.reduceToNat,Nat.reduceAdd,Nat.reduceSub,Nat.reduceMul,Nat.reduceBEq,reduceIte,reduceCtorEq,h1,h3,h5,h6,hlt',hx,tdrow,hlt2',hx2,lnrow]
    repeat (with_reducible refine And.intro ?_ ?_;·(with_reducible and_intros) <;> omega)
    refine callX_nm (refPutSl (putsF [] (A++B++(l.take j).map (·.loc))) x.loc (by omega)) rfl rfl ?_
    simp (config:={ decide:=true }) only[go_sem,Int.reduceToNat,Nat.reduceAdd,Nat.reduceSub,Nat.reduceMul,Nat.reduceBEq,reduceIte,reduceCtorEq,h1,h3,h5,h6]
    refine ⟨_,_,Ghost.refl,l.length-(j+1),by omega,j+1,rfl,by omega,?_,?_,?_,?_,rfl⟩
    all_goals first | (simp (config:={ decide:=true }) only[go_sem,Nat.reduceBEq,reduceIte,h1,h5];done) | (simp (config:={ decide:=true }) only[go_sem,Nat.reduceBEq,reduceIte];rw[w64 (by omega) (by omega)];rfl) | (simp (config:={ decide:=true }) only[go_sem,Nat.reduceBEq,reduceIte];rw[htk2,List.map_append,List.map_cons,List.map_nil,←List.append_assoc,putsF_snoc])
   ·have hlt2' : ((j:Int)<(l.length:Int))=False:=by simp only[eq_iff_iff,iff_false];omega
    obtain rfl:j=l.length:=by omega
    rw[List.take_length] at h3
    simp (config:={ decide:=true }) only[go_sem,Int.reduceToNat,Nat.reduceAdd,Nat.reduceSub,Nat.reduceMul,Nat.reduceBEq,reduceIte,reduceCtorEq,h1,h3,h5,h6,hlt',hx,tdrow,hlt2']
    repeat (with_reducible refine And.intro ?_ ?_;·(with_reducible and_intros) <;> omega)
    refine ⟨_,_,Ghost.refl,f.thr.length-(i+1),by omega,i+1,rfl,by omega,?_,?_,?_,rfl⟩
    all_goals first | (simp (config:={ decide:=true }) only[go_sem,Nat.reduceBEq,reduceIte,h1];done) | (simp (config:={ decide:=true }) only[go_sem,Nat.reduceBEq,reduceIte];rw[w64 (by omega) (by omega)];rfl) | (simp (config:={ decide:=true }) only[go_sem,Nat.reduceBEq,reduceIte,h3];rw[htk,List.flatMap_append,hBB];simp)
  ·have hlt' : ((i:Int)<(f.thr.length:Int))=False:=by simp only[eq_iff_iff,iff_false];omega
   obtain rfl:i=f.thr.length:=by omega
   rw[List.take_length] at h3
   simp (config:={ decide:=true }) only[go_sem,Int.reduceToNat,Nat.reduceAdd,Nat.reduceSub,Nat.reduceMul,Nat.reduceBEq,reduceIte,reduceCtorEq,h1,h3,h5,hlt']
   generalize hA2:(A++f.thr.flatMap fun l=>l.map (·.loc))=A2 at h3⊢
   have hA2l:A2.length+(condL f.cond).length≤400000:=by rw[←hA2,List.length_append];omega
   refine HW.loopG (fun k T H=>∃(i:Nat),k=f.cond.length-i∧i≤f.cond.length∧T 1=.pt 0 1 0 0∧T 3=.sl (strs (putsF [] (A2++condL (f.cond.take i))))∧T 7=.v (.int .i64 i)∧H=[some (fileO f)]) f.cond.length ⟨_,_,Ghost.refl,0,rfl,by omega,by simp (config:={ decide:=true }) only[go_sem,Nat.reduceBEq,reduceIte,h1],?_,rfl,rfl⟩ ?_
   ·simp (config:={ decide:=true }) only[go_sem,Nat.reduceBEq,reduceIte,h3]
    simp[condL]
   clear h1 h3 h5
   rintro k T H ⟨i,rfl,hil,h1,h3,h7,rfl⟩
   refine HW.run 200 (by kernel_rfl) ?_
   by_cases hlt:i<f.cond.length
   ·have hlt' : ((i:Int)<(f.cond.length:Int))=True:=by simp only[eq_iff_iff,iff_true];omega
    have hx:f.cond[i]?=some f.cond[i]:=List.getElem?_eq_getElem hlt
    have htk:f.cond.take (i+1)=f.cond.take i++[f.cond[i]]:=by rw[List.take_add_one,hx];rfl
    have hjl2:=condL_len (f.cond.take i)
    rw[List.length_take] at hjl2
    generalize f.cond[i]=x at hx htk
    have hs:=condL_snoc (f.cond.take i) x
    rw[←htk] at hs
    have hle:=putsF_len (A2++condL (f.cond.take i)) []
    simp only[List.length_append,List.length_nil] at hle
    by_cases hx0:x.th = -1
    ·rw[if_pos hx0] at hs
     simp (config:={ decide:=true }) only[go_sem,Int.reduceToNat,Nat.reduceAdd,Nat.reduceSub,Nat.reduceMul,Nat.reduceBEq,reduceIte,reduceCtorEq,h1,h3,h7,hlt',hx,arow,hx0]
     repeat (with_reducible refine And.intro ?_ ?_;·(with_reducible and_intros) <;> omega)
     refine callX_nm (refPutSl (putsF [] (A2++condL (f.cond.take i))) x.nm (by omega)) rfl rfl ?_
     simp (config:={ decide:=true }) only[go_sem,Int.reduceToNat,Nat.reduceAdd,Nat.reduceSub,Nat.reduceMul,Nat.reduceBEq,reduceIte,reduceCtorEq,h1,h3,h7]
     refine ⟨_,_,Ghost.refl,f.cond.length-(i+1),by omega,i+1,rfl,by omega,?_,?_,?_,rfl⟩
     all_goals first | (simp (config:={ decide:=true }) only[go_sem,Nat.reduceBEq,reduceIte,h1];done) | (simp (config:={ decide:=true }) only[go_sem,Nat.reduceBEq,reduceIte];rw[w64 (by omega) (by omega)];rfl) | (simp (config:={ decide:=true }) only[go_sem,Nat.reduceBEq,reduceIte];rw[hs,←List.append_assoc,putsF_snoc])
    ·rw[if_neg hx0] at hs
     simp (config:={ decide:=true }) only[go_sem,Int.reduceToNat,Nat.reduceAdd,Nat.reduceSub,Nat.reduceMul,Nat.reduceBEq,reduceIte,reduceCtorEq,h1,h3,h7,hlt',hx,arow,hx0]
     repeat (with_reducible refine And.intro ?_ ?_;·(with_reducible and_intros) <;> omega)
     refine ⟨_,_,Ghost.refl,f.cond.length-(i+1),by omega,i+1,rfl,by omega,?_,?_,?_,rfl⟩
     all_goals first | (simp (config:={ decide:=true }) only[go_sem,Nat.reduceBEq,reduceIte,h1];done) | (simp (config:={ decide:=true }) only[go_sem,Nat.reduceBEq,reduceIte];rw[w64 (by omega) (by omega)];rfl) | (simp (config:={ decide:=true }) only[go_sem,Nat.reduceBEq,reduceIte,h3];rw[hs])
   ·have hlt' : ((i:Int)<(f.cond.length:Int))=False:=by simp only[eq_iff_iff,iff_false];omega
    obtain rfl:i=f.cond.length:=by omega
    rw[List.take_length] at h3
    simp (config:={ decide:=true }) only[go_sem,Int.reduceToNat,Nat.reduceAdd,Nat.reduceSub,Nat.reduceMul,Nat.reduceBEq,reduceIte,reduceCtorEq,h1,h3,h7,hlt']
end Go.Proofs.YtmapdjdnnhlpiaaGreatDoor
namespace Go.Proofs.YtmapdjdnnhlpiaaGreatDoor
open Go.RowKit
set_option maxRecDepth 8000
structure OkR (f:Fl):Prop where
 init:f.init.length≤100000
 thr:f.thr.length≤100000
 cond:f.cond.length≤100000
 len:∀l∈f.thr,l.length≤100000
 raw:(rawL f).length≤400000
 nm:f.name.length≤1000000
 ci:∀c∈f.init,c.1.length≤1000000
 ln:∀l∈f.thr,∀x∈l,x.rg.length≤1000000∧x.loc.length≤1000000∧x.lab.length≤1000000
 ca:∀a∈f.cond,a.nm.length≤1000000
theorem checkF_1 {f:Fl} {w:Int×Int×Int} (h:headO f=some w):checkF f=w:=by unfold checkF allO;rw[h];rfl
theorem checkF_2 {f:Fl} {w:Int×Int×Int} (h:headO f=none) (h2:thsO 0 f.thr=some w):checkF f=w:=by unfold checkF allO;rw[h,h2];rfl
theorem checkF_3 {f:Fl} {w:Int×Int×Int} (h:headO f=none) (h2:thsO 0 f.thr=none) (h3:conO f=some w):checkF f=w:=by unfold checkF allO;rw[h,h2,h3];rfl
theorem checkF_4 {f:Fl} (h:headO f=none) (h2:thsO 0 f.thr=none) (h3:conO f=none):checkF f=if 4<(foldC [] (locL f)).length then (-1,-1,5) else (0,0,0):=by
 unfold checkF allO;rw[h,h2,h3]
 unfold locO
 by_cases h5:4<(foldC [] (locL f)).length <;> simp[h5]
theorem headO_0 {f:Fl} (h:headE f=0):headO f=none:=by unfold headO;rw[if_pos h]
theorem thsO_hit {k:Nat} {l:List LT} {r:List (List LT)} {i:Nat} {e:Int} (h:thrE [] l=some (i,e)):thsO k (l::r)=some ((k:Int),(i:Int),e):=by
 unfold thsO thrO;rw[h];rfl
theorem thsO_miss {k:Nat} {l:List LT} {r:List (List LT)} (h:thrE [] l=none):thsO k (l::r)=thsO (k+1) r:=by
 rw[thsO];unfold thrO;rw[h];rfl
theorem iniE_names:∀(c:List (List UInt8×Int)) (last:List UInt8),iniE last c=0→∀x∈c,nameB x.1=true
 | [],_,_,x,hx=>by cases hx
 | a::c,last,h,x,hx=>by
  rw[iniE] at h
  split at h
  ·cases h
  ·rename_i hn
   split at h
   ·cases h
   ·rcases List.mem_cons.1 hx with rfl | hx
    ·simpa using hn
    ·exact iniE_names c _ h x hx
theorem conE_asked (n:Nat):∀(c:List AT) (i:Nat),conE n i c=none→∀a∈c,askedB a.th a.nm=true∧a.th<(n:Int)
 | [],_,_,a,ha=>by cases ha
 | x::c,i,h,a,ha=>by
  rw[conE] at h
  split at h
  ·cases h
  ·split at h
   ·cases h
   ·rename_i hq
    split at h
    ·cases h
    ·rcases List.mem_cons.1 ha with rfl | ha
     ·exact ⟨by simpa using hq,by omega⟩
     ·exact conE_asked n c _ h a ha
theorem headE_init {f:Fl} (h:headE f=0):iniE [] f.init=0∧nameB f.name=true∧1≤f.thr.length∧f.thr.length≤3:=by
 unfold headE at h
 split at h
 ·cases h
 ·rename_i hn
  split at h
  ·exact absurd h (by assumption)
  ·rename_i hi
   split at h
   ·cases h
   ·exact ⟨by simpa using hi,by simpa using hn,by omega,by omega⟩
theorem locs_len {f:Fl} (h1:headE f=0) (h3:conO f=none):(putsF [] (rawL f)).length=(foldC [] (locL f)).length:=by
 refine putsF_length _ _ fun y=>?_
 have hi:=iniE_names _ _ (headE_init h1).1
 have hc:conE f.thr.length 0 f.cond=none:=by
  unfold conO at h3
  cases h:conE f.thr.length 0 f.cond with
  | none=>rfl
  | some p=>rw[h] at h3;cases h3
 have ha:=conE_asked _ _ _ hc
 rw[locL_eq]
 unfold rawL
 simp only[List.mem_append,List.mem_map,List.mem_flatMap]
 constructor
 ·rintro ((⟨c,hc,rfl⟩ | ⟨l,hl,hy⟩) | hy)
  ·refine ⟨fun e=>?_,.inl (.inl ⟨c,hc,rfl⟩)⟩
   have:=hi c hc
   rw[e,name_nil] at this;cases this
  ·have:=List.mem_filter.1 hy
   refine ⟨by simpa using this.2,.inl (.inr ⟨l,hl,List.mem_map.1 this.1⟩)⟩
  ·refine ⟨fun e=>?_,.inr hy⟩
   obtain ⟨a,hm,rfl⟩:=List.mem_map.1 hy
   exact (asked_nm (ha a (List.mem_filter.1 hm).1).1).1 e
 ·rintro ⟨hne,((h | ⟨l,hl,hy⟩) | hy)⟩
  ·exact .inl (.inl h)
  ·exact .inl (.inr ⟨l,hl,List.mem_filter.2 ⟨List.mem_map.2 hy,by simpa using hne⟩⟩)
  ·exact .inr hy
set_option maxHeartbeats 16000000 in
theorem refCheck4 (f:Fl) (ok:OkR f):HFn Tryz.prog 18 [fileH f] (.tu [.v (.int .i64 (checkF f).1),.v (.int .i64 (checkF f).2.1),.v (.int .i64 (checkF f).2.2)]):=by
 have k1:=ok.init
 have k2:=ok.thr
 have k3:=ok.cond
 have hH:=refHead4 f (by omega) (by omega) ok.nm ok.ci
 by_cases e1:headE f=0
 case neg =>
  rw[checkF_1 (f:=f) (w:=(-1,-1,headE f)) (by unfold headO;rw[if_neg e1])]
  refine HCalls_body (fn:=Tryz.f18) 86 [2,3,4] (by kernel_rfl) rfl (by kernel_rfl) (HW.run 400 (by kernel_rfl) ?_)
  simp (config:={ decide:=true }) only[go_sem,Int.reduceToNat,Nat.reduceAdd,Nat.reduceSub,Nat.reduceMul,Nat.reduceBEq,reduceIte,reduceCtorEq]
  refine callX_nm (hH) rfl rfl ?_
  simp (config:={ decide:=true }) only[go_sem,Int.reduceToNat,Nat.reduceAdd,Nat.reduceSub,Nat.reduceMul,Nat.reduceBEq,reduceIte,reduceCtorEq,e1]
 rw[e1] at hH
 have e1':=headO_0 e1
 have hL:=HFn.shut (refLocs f ok.raw (by omega) (by omega)) (R':=.sl (strs (putsF [] (rawL f)))) (by simp only[fzo,strs_fzoR])
 have hLl:=fun h3=>locs_len (f:=f) e1 h3
 have hR1:=fun w h2=>checkF_2 (f:=f) (w:=w) e1' h2
 have hR2:=fun w h2 h3=>checkF_3 (f:=f) (w:=w) e1' h2 h3
 have hR3:=fun h2 h3=>checkF_4 (f:=f) e1' h2 h3
 generalize checkF f=R at hR1 hR2 hR3⊢
 refine HCalls_body (fn:=Tryz.f18) 86 [2,3,4] (by kernel_rfl) rfl (by kernel_rfl) (HW.run 400 (by kernel_rfl) ?_)
 simp (config:={ decide:=true }) only[go_sem,Int.reduceToNat,Nat.reduceAdd,Nat.reduceSub,Nat.reduceMul,Nat.reduceBEq,reduceIte,reduceCtorEq]
 refine callX_nm (hH) rfl rfl ?_
 simp (config:={ decide:=true }) only[go_sem,Int.reduceToNat,Nat.reduceAdd,Nat.reduceSub,Nat.reduceMul,Nat.reduceBEq,reduceIte,reduceCtorEq]
 refine HW.loopG (fun k T H=>∃(i:Nat),k=f.thr.length-i∧i≤f.thr.length∧thsO 0 f.thr=thsO i (f.thr.drop i)∧T 1=.pt 0 1 0 0∧T 6=.v (.int .i64 i)∧H=[some (fileO f)]) f.thr.length ⟨_,_,Ghost.refl,0,rfl,by omega,rfl,rfl,rfl,rfl⟩ ?_
 rintro k T H ⟨i,rfl,hil,hI,h1,h6,rfl⟩
 refine HW.run 200 (by kernel_rfl) ?_
 by_cases hlt:i<f.thr.length
 ·have hlt' : ((i:Int)<(f.thr.length:Int))=True:=by simp only[eq_iff_iff,iff_true];omega
  have hx:f.thr[i]?=some f.thr[i]:=List.getElem?_eq_getElem hlt
  have hdr:f.thr.drop i=f.thr[i]::f.thr.drop (i+1):=List.drop_eq_getElem_cons hlt
  have hxl:=ok.len _ (List.getElem_mem hlt)
  have hxs:=ok.ln _ (List.getElem_mem hlt)
  rw[hdr] at hI
  generalize f.thr[i]=l at hx hI hxl hxs
  simp (config:={ decide:=true }) only[go_sem,Int.reduceToNat,Nat.reduceAdd,Nat.reduceSub,Nat.reduceMul,Nat.reduceBEq,reduceIte,reduceCtorEq,h1,h6,hlt']
  refine HW.loopG (fun k T H=>∃(j:Nat),k=l.length-j∧j≤l.length∧thrE [] l=thrE (l.take j) (l.drop j)∧T 1=.pt 0 1 0 0∧T 6=.v (.int .i64 i)∧T 7=.v (.int .i64 j)∧H=[some (fileO f)]) l.length ⟨_,_,Ghost.refl,0,rfl,by omega,rfl,by simp (config:={ decide:=true }) only[go_sem,Nat.reduceBEq,reduceIte,h1],by simp (config:={ decide:=true }) only[go_sem,Nat.reduceBEq,reduceIte,h6],rfl,rfl⟩ ?_
  clear h1 h6
  rintro k T H ⟨j,rfl,hjl,hJ,h1,h6,h7,rfl⟩
  refine HW.run 200 (by kernel_rfl) ?_
  by_cases hjt:j<l.length
  ·have hjt' : ((j:Int)<(l.length:Int))=True:=by simp only[eq_iff_iff,iff_true];omega
   have hy:l[j]?=some l[j]:=List.getElem?_eq_getElem hjt
   have hdj:l.drop j=l[j]::l.drop (j+1):=List.drop_eq_getElem_cons hjt
   have htk:l.take (j+1)=l.take j++[l[j]]:=by rw[List.take_add_one,hy];rfl
   obtain ⟨g1,g2,g3⟩:=hxs _ (List.getElem_mem hjt)
   rw[hdj,thrE] at hJ
   generalize l[j]=x at hy hJ htk g1 g2 g3
   have hA:=refLineOne l j x hy (by omega) g1 g2 g3
   have hz:(l.take j).length=j:=by rw[List.length_take];omega
   simp (config:={ decide:=true }) only[go_sem,Int.reduceToNat,Nat.reduceAdd,Nat.reduceSub,Nat.reduceMul,Nat.reduceBEq,reduceIte,reduceCtorEq,h1,h6,h7,hlt',hx,tdrow,hjt']
   repeat (with_reducible refine And.intro ?_ ?_;·(with_reducible and_intros) <;> omega)
   by_cases he:lineE (l.take j) x (l.drop (j+1))=0
   ·rw[if_pos he,←htk] at hJ
    rw[he] at hA
    refine callX_nm (hA) rfl rfl ?_
    simp (config:={ decide:=true }) only[go_sem,Int.reduceToNat,Nat.reduceAdd,Nat.reduceSub,Nat.reduceMul,Nat.reduceBEq,reduceIte,reduceCtorEq,h1,h6,h7]
    refine ⟨_,_,Ghost.refl,l.length-(j+1),by omega,j+1,rfl,by omega,hJ,?_,?_,?_,rfl⟩
    all_goals first | (simp (config:={ decide:=true }) only[go_sem,Nat.reduceBEq,reduceIte,h1,h6];done) | (simp (config:={ decide:=true }) only[go_sem,Nat.reduceBEq,reduceIte];rw[w64 (by omega) (by omega)];rfl)
   ·rw[if_neg he,hz] at hJ
    rw[thsO_hit hJ] at hI
    obtain rfl:=hR1 _ hI
    refine callX_nm (hA) rfl rfl ?_
    simp (config:={ decide:=true }) only[go_sem,Int.reduceToNat,Nat.reduceAdd,Nat.reduceSub,Nat.reduceMul,Nat.reduceBEq,reduceIte,reduceCtorEq,h1,h6,h7,he]
  ·have hjt' : ((j:Int)<(l.length:Int))=False:=by simp only[eq_iff_iff,iff_false];omega
   rw[List.drop_of_length_le (by omega)] at hJ
   have hJ' : thrE [] l=none:=hJ
   rw[thsO_miss hJ'] at hI
   simp (config:={ decide:=true }) only[go_sem,Int.reduceToNat,Nat.reduceAdd,Nat.reduceSub,Nat.reduceMul,Nat.reduceBEq,reduceIte,reduceCtorEq,h1,h6,h7,hlt',hx,tdrow,hjt']
   repeat (with_reducible refine And.intro ?_ ?_;·(with_reducible and_intros) <;> omega)
   refine ⟨_,_,Ghost.refl,f.thr.length-(i+1),by omega,i+1,rfl,by omega,hI,?_,?_,rfl⟩
   all_goals first | (simp (config:={ decide:=true }) only[go_sem,Nat.reduceBEq,reduceIte,h1];done) | (simp (config:={ decide:=true }) only[go_sem,Nat.reduceBEq,reduceIte];rw[w64 (by omega) (by omega)];rfl)
 have hlt' : ((i:Int)<(f.thr.length:Int))=False:=by simp only[eq_iff_iff,iff_false];omega
 rw[List.drop_of_length_le (by omega)] at hI
 have hT:thsO 0 f.thr=none:=hI
 simp (config:={ decide:=true }) only[go_sem,Int.reduceToNat,Nat.reduceAdd,Nat.reduceSub,Nat.reduceMul,Nat.reduceBEq,reduceIte,reduceCtorEq,h1,h6,hlt']
 refine HW.loopG (fun k T H=>∃(i:Nat),k=f.cond.length-i∧i≤f.cond.length∧conE f.thr.length 0 f.cond=conE f.thr.length i (f.cond.drop i)∧T 1=.pt 0 1 0 0∧T 9=.v (.int .i64 i)∧H=[some (fileO f)]) f.cond.length ⟨_,_,Ghost.refl,0,rfl,by omega,rfl,by simp (config:={ decide:=true }) only[go_sem,Nat.reduceBEq,reduceIte,h1],rfl,rfl⟩ ?_
 clear h1 h6 hI hil hlt hlt'
 rintro k T H ⟨i,rfl,hil,hI,h1,h9,rfl⟩
 refine HW.run 200 (by kernel_rfl) ?_
 by_cases hlt:i<f.cond.length
 ·have hlt' : ((i:Int)<(f.cond.length:Int))=True:=by simp only[eq_iff_iff,iff_true];omega
  have hx:f.cond[i]?=some f.cond[i]:=List.getElem?_eq_getElem hlt
  have hdr:f.cond.drop i=f.cond[i]::f.cond.drop (i+1):=List.drop_eq_getElem_cons hlt
  have hnm:=ok.ca _ (List.getElem_mem hlt)
  rw[hdr,conE] at hI
  generalize f.cond[i]=c at hx hI hnm
  have leaf:∀e:Int,conE f.thr.length 0 f.cond=some (i,e)→R=((f.thr.length:Int),(i:Int),e):=fun e h=>hR2 _ hT (by unfold conO;rw[h];rfl)
  by_cases h6:6≤i
  ·have h6' : ((6:Int)≤(i:Int))=True:=by simp only[eq_iff_iff,iff_true];omega
   rw[if_pos h6] at hI
   obtain rfl:=leaf _ hI
   simp (config:={ decide:=true }) only[go_sem,Int.reduceToNat,Nat.reduceAdd,Nat.reduceSub,Nat.reduceMul,Nat.reduceBEq,reduceIte,reduceCtorEq,h1,h9,hlt',hx,arow,h6']
  have h6' : ((6:Int)≤(i:Int))=False:=by simp only[eq_iff_iff,iff_false];omega
  rw[if_neg h6] at hI
  simp (config:={ decide:=true }) only[go_sem,Int.reduceToNat,Nat.reduceAdd,Nat.reduceSub,Nat.reduceMul,Nat.reduceBEq,reduceIte,reduceCtorEq,h1,h9,hlt',hx,arow,h6']
  have hq:=refAsked c.th c.nm c.n hnm
  cases hc:askedB c.th c.nm with
  | false =>
   rw[if_pos hc] at hI
   obtain rfl:=leaf _ hI
   rw[hc] at hq
   refine callX_nm (hq) rfl rfl ?_
   simp (config:={ decide:=true }) only[go_sem,Int.reduceToNat,Nat.reduceAdd,Nat.reduceSub,Nat.reduceMul,Nat.reduceBEq,reduceIte,reduceCtorEq,h1,h9]
  | true =>
   rw[if_neg (by simp[hc])] at hI
   rw[hc] at hq
   refine callX_nm (hq) rfl rfl ?_
   by_cases ht:(f.thr.length:Int)≤c.th
   ·rw[if_pos ht] at hI
    obtain rfl:=leaf _ hI
    simp (config:={ decide:=true }) only[go_sem,Int.reduceToNat,Nat.reduceAdd,Nat.reduceSub,Nat.reduceMul,Nat.reduceBEq,reduceIte,reduceCtorEq,h1,h9,ht]
   ·rw[if_neg ht] at hI
    simp (config:={ decide:=true }) only[go_sem,Int.reduceToNat,Nat.reduceAdd,Nat.reduceSub,Nat.reduceMul,Nat.reduceBEq,reduceIte,reduceCtorEq,h1,h9,ht]
    refine ⟨_,_,Ghost.trunc [1,9] 1 (by omega) ?_ ?_,f.cond.length-(i+1),by omega,i+1,rfl,by omega,hI,?_,?_,?_⟩
    all_goals first | (simp (config:={ decide:=true }) only[go_sem,Nat.reduceBEq,reduceIte,h1];done) | (simp (config:={ decide:=true }) only[go_sem,Nat.reduceBEq,reduceIte];rw[w64 (by omega) (by omega)];rfl) | rfl
 have hlt' : ((i:Int)<(f.cond.length:Int))=False:=by simp only[eq_iff_iff,iff_false];omega
 rw[List.drop_of_length_le (by omega)] at hI
 have hC:conO f=none:=by unfold conO;rw[hI];rfl
 have hl:=hLl hC
 have hR:=hR3 hT hC
 simp (config:={ decide:=true }) only[go_sem,Int.reduceToNat,Nat.reduceAdd,Nat.reduceSub,Nat.reduceMul,Nat.reduceBEq,reduceIte,reduceCtorEq,h1,h9,hlt']
 refine callX_nm (hL) rfl rfl ?_
 by_cases h4:4<(foldC [] (locL f)).length
 ·have h4' : ((4:Int)<((putsF [] (rawL f)).length:Int))=True:=by simp only[eq_iff_iff,iff_true];omega
  rw[if_pos h4] at hR
  subst hR
  simp (config:={ decide:=true }) only[go_sem,Int.reduceToNat,Nat.reduceAdd,Nat.reduceSub,Nat.reduceMul,Nat.reduceBEq,reduceIte,reduceCtorEq,h4']
 ·have h4' : ((4:Int)<((putsF [] (rawL f)).length:Int))=False:=by simp only[eq_iff_iff,iff_false];omega
  rw[if_neg h4] at hR
  subst hR
  simp (config:={ decide:=true }) only[go_sem,Int.reduceToNat,Nat.reduceAdd,Nat.reduceSub,Nat.reduceMul,Nat.reduceBEq,reduceIte,reduceCtorEq,h4']
end Go.Proofs.YtmapdjdnnhlpiaaGreatDoor
namespace Go.Proofs.YtmapdjdnnhlpiaaGreatDoor
set_option maxRecDepth 8000
structure AtOk (s:PS) (m:Nat):Prop where
 next:s.next=0∨s.next=1∨s.next=2∨s.next=3∨s.next=4
 lines:∀r∈s.lines,∀x∈r,1≤x∧x≤(m:Int)
 head:s.next≠0→1≤s.head∧s.head≤(m:Int)
 fin:s.next=4→1≤s.fin∧s.fin≤(m:Int)
theorem AtOk.mono {s:PS} {m n:Nat} (h:AtOk s m) (hn:m≤n):AtOk s n :=
 ⟨h.next,fun r hr x hx=>⟨(h.lines r hr x hx).1,by have:=(h.lines r hr x hx).2;omega⟩,fun h0=>⟨(h.head h0).1,by have:=(h.head h0).2;omega⟩,fun h0=>⟨(h.fin h0).1,by have:=(h.fin h0).2;omega⟩⟩
theorem pS0_at:AtOk pS0 0:=⟨.inl rfl,fun r hr=>by simp[pS0] at hr,fun h=>absurd rfl h,fun h=>by simp[pS0] at h⟩
theorem read_at {s:PS} {w:List (List UInt8)} {m:Nat} (h:AtOk s m):AtOk (readF s w ((m+1:Nat):Int)).1 (m+1):=by
 have h':=h.mono (Nat.le_succ m)
 have thr:s.next≠0→AtOk (threadF s w).1 (m+1):=fun n0=>by
  unfold threadF
  split
  ·refine ⟨.inr (.inr (.inr (.inl rfl))),fun r hr x hx=>?_,fun _=>h'.head n0,fun h4=>by simp at h4⟩
   rcases List.mem_append.1 hr with hr | hr
   ·exact h'.lines r hr x hx
   ·simp at hr;subst hr;cases hx
  ·exact h'
 unfold readF
 split
 ·unfold headF;split
  ·exact ⟨.inr (.inl rfl),h'.lines,fun _=>⟨by show (1:Int)≤((m+1:Nat):Int);omega,Int.le_refl _⟩,fun h4=>by simp at h4⟩
  ·exact h'
 rename_i n0
 split
 ·unfold startF;split
  ·exact ⟨.inr (.inr (.inl rfl)),h'.lines,fun _=>h'.head n0,fun h4=>by simp at h4⟩
  ·exact ⟨.inr (.inr (.inl rfl)),h'.lines,fun _=>h'.head n0,fun h4=>by simp at h4⟩
 split
 ·rename_i n3
  unfold bodyF
  split
  ·exact ⟨.inr (.inr (.inr (.inr rfl))),h'.lines,fun _=>h'.head n0,fun _=>⟨by show (1:Int)≤((m+1:Nat):Int);omega,Int.le_refl _⟩⟩
  split
  ·exact thr n0
  ·refine ⟨h'.next,fun r hr x hx=>?_,h'.head,h'.fin⟩
   have hr:r∈s.lines.dropLast++[(s.lines.getLast?.getD [])++[((m+1:Nat):Int)]]:=hr
   rcases List.mem_append.1 hr with hr | hr
   ·exact h'.lines r (List.dropLast_subset _ hr) x hx
   ·rw[List.mem_singleton] at hr
    subst hr
    rcases List.mem_append.1 hx with hx | hx
    ·cases hg:s.lines.getLast? with
     | none=>rw[hg] at hx;simp at hx
     | some l=>rw[hg] at hx;exact h'.lines l (List.mem_of_getLast? hg) x hx
    ·rw[List.mem_singleton] at hx
     subst hx
     exact ⟨by omega,Int.le_refl _⟩
 split
 ·exact thr n0
 ·exact h'
theorem linesF_at:∀(l:List (List UInt8)) (s:PS) (k:Nat),AtOk s k→AtOk (linesF s k l).1 (k+l.length)
 | [],s,k,h=>h
 | x::l,s,k,h=>by
  have e:k+(x::l).length=(k+1)+l.length:=by simp only[List.length_cons];omega
  rw[linesF,e]
  split
  ·exact linesF_at l _ _ (h.mono (Nat.le_succ k))
  ·split
   ·exact linesF_at l _ _ (read_at h)
   ·exact h.mono (by omega)
theorem lines_tot:∀(l:List (List UInt8)) (s:PS) (k:Nat),Agree s→totF (linesF s k l).1≤totF s+sumW l∧((linesF s k l).2=none→Agree (linesF s k l).1)
 | [],s,k,h=>⟨Nat.le_add_right _ _,fun _=>h⟩
 | x::l,s,k,h=>by
  have hs:sumW (x::l)=(wordsB x).length+sumW l:=rfl
  rw[linesF]
  split
  ·have:=lines_tot l s (k+1) h
   exact ⟨by omega,this.2⟩
  ·rename_i hw
   have hr:=readF_tot s (wordsB x) ((k+1:Nat):Int) hw h
   split
   ·rename_i hb
    have:=lines_tot l _ (k+1) (hr.2 hb)
    exact ⟨by omega,this.2⟩
   ·exact ⟨by show totF s≤_;omega,fun hh=>by cases hh⟩
theorem whereF_at {s:PS} {m:Nat} (h:AtOk s m) (h4:s.next=4) (ag:Agree s) (h0:(checkF s.f).2.2≠0):1≤whereF s (checkF s.f).1 (checkF s.f).2.1∧whereF s (checkF s.f).1 (checkF s.f).2.1≤(m:Int):=by
 have hc:=checkF_at ag h0
 unfold whereF
 split
 ·exact h.head (by omega)
 ·rename_i h1
  split
  ·exact h.fin h4
  ·rename_i h2
   obtain ⟨g1,ln,e1,e2⟩:=hc (by omega) h2
   rw[e1,Option.getD_some,List.getElem?_eq_getElem e2,Option.getD_some]
   exact h.lines ln (List.mem_of_getElem? e1) _ (List.getElem_mem e2)
inductive Told (s:List UInt8):Fl×Int×Int→Prop where
 | line (n:Nat):(linesF pS0 0 (linesB s)).2=some n→1≤n→n≤(linesB s).length→Told s (noFl,(n:Int),11)
 | open:(linesF pS0 0 (linesB s)).2=none→(linesF pS0 0 (linesB s)).1.next≠4→Told s (noFl,(((linesB s).length+1:Nat):Int),11)
 | wrong (a e:Int):(linesF pS0 0 (linesB s)).2=none→(linesF pS0 0 (linesB s)).1.next=4→Agree (linesF pS0 0 (linesB s)).1→(checkF (linesF pS0 0 (linesB s)).1.f).2.2=e→e≠0→whereF (linesF pS0 0 (linesB s)).1 (checkF (linesF pS0 0 (linesB s)).1.f).1 (checkF (linesF pS0 0 (linesB s)).1.f).2.1=a→
   1≤a→a≤((linesB s).length:Int)→Told s (noFl,a,e)
 | ok:(linesF pS0 0 (linesB s)).2=none→(linesF pS0 0 (linesB s)).1.next=4→(checkF (linesF pS0 0 (linesB s)).1.f).2.2=0→Told s ((linesF pS0 0 (linesB s)).1.f,0,0)
theorem told {s:List UInt8} (h:s.length≤4000):Told s (parseF s):=by
 unfold parseF
 rw[if_neg (by omega)]
 cases hn:(linesF pS0 0 (linesB s)).2 with
 | some n =>
  have:=lines_at_ _ _ _ _ hn
  exact .line n hn (by omega) (by omega)
 | none =>
  simp only
  unfold finF
  have hag:=(lines_tot (linesB s) pS0 0 pS0_agree).2 hn
  have hat:=linesF_at (linesB s) pS0 0 pS0_at
  rw[Nat.zero_add] at hat
  split
  ·rename_i h4;exact .open hn h4
  ·rename_i h4
   have h4:(linesF pS0 0 (linesB s)).1.next=4:=by
    by_cases e:(linesF pS0 0 (linesB s)).1.next=4
    ·exact e
    ·exact absurd e h4
   split
   ·rename_i h0
    have hw:=whereF_at hat h4 hag h0
    exact .wrong _ _ hn h4 hag rfl h0 rfl hw.1 hw.2
   ·rename_i h0
    have h0:(checkF (linesF pS0 0 (linesB s)).1.f).2.2=0:=by
     by_cases e:(checkF (linesF pS0 0 (linesB s)).1.f).2.2=0
     ·exact e
     ·exact absurd e h0
    exact .ok hn h4 h0
structure SmallF (f:Fl):Prop where
 init:f.init.length≤4000
 thr:f.thr.length≤4000
 cond:f.cond.length≤4000
 len:∀l∈f.thr,l.length≤4000
 tot:f.init.length+(f.thr.map List.length).sum+f.thr.length+f.cond.length≤4000
theorem noFl_small:SmallF noFl:=⟨by decide,by decide,by decide,fun l hl=>by simp[noFl] at hl,by decide⟩
theorem small_of {s:PS} (h:totF s≤4000):SmallF s.f:=by
 have h':=h
 unfold totF at h
 refine ⟨by omega,by omega,by omega,fun l hl=>?_,h'⟩
 have:=sum_mem (List.mem_map.2 ⟨l,hl,rfl⟩:l.length∈s.f.thr.map List.length)
 omega
theorem parse_small {s:List UInt8} (h:s.length≤4000):SmallF (parseF s).1:=by
 have hs:=sumW_lines s
 have ht:=(lines_tot (linesB s) pS0 0 pS0_agree).1
 have h0:totF pS0=0:=rfl
 have hd:=told h
 generalize parseF s=r at hd⊢
 cases hd with
 | line n _ _ _=>exact noFl_small
 | «open» _ _=>exact noFl_small
 | wrong a e _ _ _ _ _ _ _ _=>exact noFl_small
 | ok _ _ _=>exact small_of (by omega)
inductive Ren (φ:Int→Int):Nat→List (List UInt8)→Nat→List (List UInt8)→Prop where
 | nil (k j:Nat):Ren φ k [] j []
 | blank {k j:Nat} {l:List (List UInt8)} {x:List UInt8} {r:List (List UInt8)}:wordsB x=[]→Ren φ k l (j+1) r→Ren φ k l j (x::r)
 | word {k j:Nat} {l:List (List UInt8)} {x y:List UInt8} {r:List (List UInt8)}:wordsB x=wordsB y→φ ((k+1:Nat):Int)=((j+1:Nat):Int)→Ren φ (k+1) l (j+1) r→Ren φ k (x::l) j (y::r)
end Go.Proofs.YtmapdjdnnhlpiaaGreatDoor
namespace Go.Proofs.YtmapdjdnnhlpiaaGreatDoor
open Go.RowKit
set_option maxRecDepth 8000
theorem Ghost.shutOw {N L:Nat} {T:Nat→HV} {H:Heap} (id i c:Nat) {e:TypeId} {sz:Nat} {rows:List (List HV)} {ob:HObj} {row:List HV} (ho:H[id]?=some (some ob)) (hr:ob.rows[i]?=some row) (hc:row[c]?=some (.ow e sz rows)) :
  Ghost N L T H T (H.set id (some { ob with rows:=ob.rows.set i (row.set c (.sl (fzoR rows))) })):=fun B Z G FP ds a w hL hs=>by
 obtain ⟨g,hg,hob⟩:=hs.inv.live id ob ho
 obtain ⟨y,fx,fa,hv,hperm,hsw⟩:=hob.swap hr hc (fun u hu=>by cases hu)
 have hnd:=(hperm.nodup_iff.1 (hs.inv.nodup id))
 rw[List.nodup_append] at hnd
 obtain ⟨fp1,hob1,hp1⟩:=hsw G (.v y) [] (GLe.refl _) (by simp[RV])
 simp only[List.nil_append] at hp1
 have hin:∀b,b∈fp1→b∈FP id:=fun b hb=>hperm.mem_iff.2 (List.mem_append.2 (.inr (hp1.mem_iff.1 hb)))
 have hfx:∀b,b∈fx→b∈FP id:=fun b hb=>hperm.mem_iff.2 (List.mem_append.2 (.inl hb))
 have hi1:=hs.inv.say ho hg hob1 (hp1.nodup_iff.2 hnd.2.1) (fun b hb=>⟨hs.inv.zfp id b (hin b hb),hs.inv.flt id b (hin b hb),fun j hj hc=>hj (hs.inv.disj j id b hc (hin b hb))⟩)
 have hi2:=hi1.zmore (Z':=fun b=>Z b∨b∈fx) (fun b hb=>.inl hb) (fun b hb=>by
  rcases hb with hb | hb
  ·exact hs.inv.zlt b hb
  ·exact hs.inv.flt id b (hfx b hb)) (fun j b hj hz=>by
  by_cases ej:j=id
  ·simp only[if_pos ej] at hj
   rcases hz with hz | hz
   ·exact hs.inv.zfp id b (hin b hj) hz
   ·exact hnd.2.2 b hz b (hp1.mem_iff.1 hj) rfl
  ·simp only[if_neg ej] at hj
   rcases hz with hz | hz
   ·exact hs.inv.zfp j b hj hz
   ·exact ej (hs.inv.disj j id b hj (hfx b hz)))
 have hlt:id<H.length:=(List.getElem?_eq_some_iff.1 ho).1
 have ho1:(H.set id (some { ob with rows:=ob.rows.set i (row.set c (.v y)) }))[id]?=some (some { ob with rows:=ob.rows.set i (row.set c (.v y)) }):=by simp[hlt]
 have hil:i<ob.rows.length:=(List.getElem?_eq_some_iff.1 hr).1
 have hcl:c<row.length:=(List.getElem?_eq_some_iff.1 hc).1
 have hr1:(ob.rows.set i (row.set c (.v y)))[i]?=some (row.set c (.v y)):=by simp[hil]
 have hc1:(row.set c (HV.v y))[c]?=some (.v y):=by simp[hcl]
 obtain ⟨g2,hg2,hob2⟩:=hi2.live id _ ho1
 obtain ⟨y2,fx2,fa2,hv2,hperm2,hsw2⟩:=hob2.swap hr1 hc1 (fun u hu=>by cases hu)
 simp only[RV] at hv2
 obtain ⟨e1,e2⟩:=hv2
 subst e1 e2
 have hfz:RV (fun b=>Z b∨b∈fx) [] w (.sl (fzoR rows)) y2 []:=fzo_spec (Z':=fun b=>Z b∨b∈fx) (.ow e sz rows) G y2 fx ⟨fun b hb=>.inl hb,fun b hb=>.inr hb⟩ hv
 have hfz' : RV (fun b=>Z b∨b∈fx) G w (.sl (fzoR rows)) y2 []:=RV.nil_keep (fun _ _=>rfl) (fun _ h=>h) (nil_GLe G) hfz
 obtain ⟨fp2,hob3,hp2⟩:=hsw2 G _ [] (GLe.refl _) hfz'
 simp only[List.nil_append] at hp2 hperm2
 have hp3:=hp2.trans hperm2.symm
 simp only[if_pos] at hp3
 have hi3:=hi2.say ho1 hg2 hob3 (hp3.nodup_iff.2 (hp1.nodup_iff.2 hnd.2.1)) (fun b hb=>by
  have hb1:=hp3.mem_iff.1 hb
  refine ⟨fun hz=>?_,hs.inv.flt id b (hin b hb1),fun j hj hcj=>?_⟩
  ·rcases hz with hz | hz
   ·exact hs.inv.zfp id b (hin b hb1) hz
   ·exact hnd.2.2 b hz b (hp1.mem_iff.1 hb1) rfl
  ·simp only[if_neg hj] at hcj
   exact hj (hs.inv.disj j id b hcj (hin b hb1)))
 simp only[List.set_set] at hi3
 have hE:Evo Z FP w (fun b=>Z b∨b∈fx) (fun j=>if j=id then fp2 else if j=id then fp1 else FP j) w:=⟨rfl,rfl,rfl,Nat.le_refl _,fun _ _ _=>rfl,fun _ h=>.inl h,fun b hb=>by
  rcases hb with hb | hb
  ·exact .inl hb
  ·exact .inr (.inr ⟨id,hfx b hb⟩),fun j b hb=>by
  by_cases ej:j=id
  ·simp only[if_pos ej] at hb;exact .inr ⟨id,hin b (hp3.mem_iff.1 hb)⟩
  ·simp only[if_neg ej] at hb;exact .inr ⟨j,hb⟩⟩
 exact ⟨_,G,_,hs.evo hi3 (GLe.refl _) hE,GLt.refl hL,hE⟩
end Go.Proofs.YtmapdjdnnhlpiaaGreatDoor
