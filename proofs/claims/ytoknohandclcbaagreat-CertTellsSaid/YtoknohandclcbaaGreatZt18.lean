/- Parts of the proof: Ie, Ib, If, Ig, Ih, HiDm, Ii, Ij, Ik, Yr. -/
import Derived.Test.YtoknohandclcbaaGreatZt17
import Derived.Test.YtoknohandclcbaaGreatZt16
import Derived.Test.YtoknohandclcbaaGreatZt13
import Derived.Test.YtoknohandclcbaaGreatZt09
import Derived.Test.YtoknohandclcbaaGreatProg
import Derived.Test.YtoknohandclcbaaGreatChecked
import Derived.Shelf.Vars
import Derived.KernelRfl
import Derived.ProofKit
open Nat renaming reduceAdd → nA, reduceSub → nS, reduceMul → nM, reduceBEq → nB
open Int renaming reduceToNat → nT
set_option linter.unusedSectionVars false
set_option linter.unusedVariables false
set_option linter.unusedSimpArgs false
namespace Go.Proofs.YtoknohandclcbaaGreat
open Go.RowKit
set_option maxRecDepth 8000
set_option maxHeartbeats 8000000 in
theorem zZE (l:List Int) (n:Int) (hl:l.length≤1000000):HFn Tryz.prog 78 [.sl (ints l),.v (.int .i64 n)] (zB1 (insI n l)):=by
 refine zA (fn:=Tryz.f78) 48 [4] (by kernel_rfl) rfl (by kernel_rfl) (HW.run 400 (by kernel_rfl) ?_)
 simp +decide only[go_sem,nT,nA,nS,nM,nB,reduceIte,reduceCtorEq]
 refine HW.loopG (fun k T H=>∃(i:Nat) (out:List Int) (d:Bool),k=l.length-i∧i≤l.length∧out.length≤i+d.toNat∧insI n l=out++(if d=true then l.drop i else insI n (l.drop i))∧T 0=.sl (ints l)∧T 1=.v (.int .i64 n)∧T 5=.hd 0 0 out.length∧T 6=.v (.bool d)∧T 7=.v (.int .i64 i)∧
  H=[some ⟨3,1,ints out⟩]) l.length ⟨_,_,Ghost.nil 5 3 1 rfl,0,[],false,rfl,by omega,by simp,rfl,?_,?_,?_,?_,?_,rfl⟩ ?_
 iterate 5 first | (simp +decide only[go_sem,nB,reduceIte];done) | exact rfl
 rintro k T H ⟨i,out,d,rfl,hi,hol,hI,h0,h1,h5,h6,h7,rfl⟩
 refine HW.run 200 (by kernel_rfl) ?_
 by_cases hlt:i<l.length
 ·have hlt' : ((i:Int)<(l.length:Int))=True:=by simp only[eq_iff_iff,iff_true];omega
  have hx:l[i]?=some l[i]:=List.getElem?_eq_getElem hlt
  have hdr:l.drop i=l[i]::l.drop (i+1):=List.drop_eq_getElem_cons hlt
  generalize l[i]=x at hx hdr
  rw[zSp hx] at hI
  have w1:IntKind.i64.wrap ((i:Int)+1)=((i+1:Nat):Int):=by rw[w64 (by omega) (by omega)];omega
  cases d with
  | true =>
   simp only[Bool.toNat_true] at hol
   rw[if_pos rfl,hdr] at hI
   simp +decide only[go_sem,nT,nA,nS,nM,nB,reduceIte,reduceCtorEq,h0,h1,h5,h6,h7,hlt',hx]
   repeat (with_reducible refine And.intro ?_ ?_;·(with_reducible and_intros) <;> omega)
   refine ⟨_,_,Ghost.trunc [0,1,5,6,7] 1 (by omega) ?_ ?_,l.length-(i+1),by omega,i+1,out++[x],true,rfl,by omega,by simp;omega,by rw[hI,if_pos rfl,List.append_assoc];rfl,?_,?_,?_,?_,?_,?_⟩
   all_goals first | (simp +decide only[go_sem,nB,reduceIte,h0,h1,h5,h6,w1];done) | (simp +decide only[go_sem,nT,nA,nS,nM,nB,reduceIte,reduceCtorEq,w1,List.length_append];done)
  | false =>
   simp only[Bool.toNat_false] at hol
   rw[if_neg (by simp)] at hI
   by_cases hlt1:n<x
   ·rw[if_pos hlt1] at hI
    have c1:(n≤x)=True:=by simp only[eq_iff_iff,iff_true];omega
    have c2:(n=x)=False:=by simp only[eq_iff_iff,iff_false];omega
    simp +decide only[go_sem,nT,nA,nS,nM,nB,reduceIte,reduceCtorEq,h0,h1,h5,h6,h7,hlt',hx,c1,c2]
    repeat (with_reducible refine And.intro ?_ ?_;·(with_reducible and_intros) <;> omega)
    refine ⟨_,_,Ghost.trunc [0,1,5,6,7] 1 (by omega) ?_ ?_,l.length-(i+1),by omega,i+1,out++[n]++[x],true,rfl,by omega,by simp;omega,by rw[hI,if_pos rfl,List.append_assoc,List.append_assoc];rfl,?_,?_,?_,?_,?_,?_⟩
    all_goals first | (simp +decide only[go_sem,nB,reduceIte,h0,h1,h5,h6,w1];done) | (simp +decide only[go_sem,nT,nA,nS,nM,nB,reduceIte,reduceCtorEq,w1,List.length_append];done)
   ·rw[if_neg hlt1] at hI
    by_cases he:n=x
    ·rw[if_pos he] at hI
     have c1:(n≤x)=True:=by simp only[eq_iff_iff,iff_true];omega
     have c2:(n=x)=True:=eq_true he
     simp +decide only[go_sem,nT,nA,nS,nM,nB,reduceIte,reduceCtorEq,h0,h1,h5,h6,h7,hlt',hx,c1,c2]
     repeat (with_reducible refine And.intro ?_ ?_;·(with_reducible and_intros) <;> omega)
     refine ⟨_,_,Ghost.trunc [0,1,5,6,7] 1 (by omega) ?_ ?_,l.length-(i+1),by omega,i+1,out++[x],true,rfl,by omega,by simp;omega,by rw[hI,if_pos rfl,List.append_assoc];rfl,?_,?_,?_,?_,?_,?_⟩
     all_goals first | (simp +decide only[go_sem,nB,reduceIte,h0,h1,h5,h6,w1];done) | (simp +decide only[go_sem,nT,nA,nS,nM,nB,reduceIte,reduceCtorEq,w1,List.length_append];done)
    ·rw[if_neg he] at hI
     have c1:(n≤x)=False:=by simp only[eq_iff_iff,iff_false];omega
     simp +decide only[go_sem,nT,nA,nS,nM,nB,reduceIte,reduceCtorEq,h0,h1,h5,h6,h7,hlt',hx,c1]
     repeat (with_reducible refine And.intro ?_ ?_;·(with_reducible and_intros) <;> omega)
     refine ⟨_,_,Ghost.trunc [0,1,5,6,7] 1 (by omega) ?_ ?_,l.length-(i+1),by omega,i+1,out++[x],false,rfl,by omega,by simp;omega,by rw[hI,if_neg (by simp),List.append_assoc];rfl,?_,?_,?_,?_,?_,?_⟩
     all_goals first | (simp +decide only[go_sem,nB,reduceIte,h0,h1,h5,h6,w1];done) | (simp +decide only[go_sem,nT,nA,nS,nM,nB,reduceIte,reduceCtorEq,w1,List.length_append];done)
 ·have hlt' : ((i:Int)<(l.length:Int))=False:=by simp only[eq_iff_iff,iff_false];omega
  have e:l.drop i=[]:=List.drop_of_length_le (by omega)
  rw[e] at hI
  cases d with
  | true =>
   rw[if_pos rfl,List.append_nil] at hI
   simp +decide only[go_sem,nT,nA,nS,nM,nB,reduceIte,reduceCtorEq,h0,h1,h5,h6,h7,hlt',hI]
  | false =>
   simp only[Bool.toNat_false] at hol
   rw[if_neg (by simp),insI] at hI
   simp +decide only[go_sem,nT,nA,nS,nM,nB,reduceIte,reduceCtorEq,h0,h1,h5,h6,h7,hlt']
   repeat (with_reducible refine And.intro ?_ ?_;·(with_reducible and_intros) <;> omega)
   simp +decide only[go_sem,nT,nA,nS,nM,nB,reduceIte,reduceCtorEq,hI]
def zG7 (o:Option (List Int)) (g:List Int) (x:HV):Prop:=match o with
 | some r=>x=.tu [.sl (ints r),.v (.bool true)]
 | none=>x=.tu [.sl (ints g),.v (.bool false)]∨x=.tu [.v (.slice none 0 0),.v (.bool false)]
theorem zRB {l:List (List Int)} {m:Nat} {all g:List Int} {i:Nat} {x:Int} (hx:all[i]?=some x):tryF l (m+1) (all.drop i) g=match tryF l m (all.drop (i+1)) (g++[x]) with | some r=>some r | none=>tryF l (m+1) (all.drop (i+1)) g:=by
 obtain ⟨h1,e1⟩:=List.getElem?_eq_some_iff.1 hx
 rw[List.drop_eq_getElem_cons h1,e1]
 rfl
set_option maxHeartbeats 8000000 in
theorem zNc (l:List (List Int)) (all:List Int) (hl:l.length≤100000) (hr:∀r∈l,r.length≤100000) (ha:all.length≤100000):∀(m:Nat) (i:Nat) (g:List Int),g.length+m≤200000→i≤200000→
  HCalls Tryz.prog 79 [] [.sl (ints all),.v (.int .i64 i),.v (.int .i64 m),.sl (ints g),.sl (rws l)] (fun x H'=>zG7 (tryF l m (all.drop i) g) g x)
 | 0,i,g,hg,hi=>by
  have hh:=zZJ g l (by omega) (by omega) (fun r h=>by have:=hr r h;omega)
  refine zA (fn:=Tryz.f79) 51 [10,11] (by kernel_rfl) rfl (by kernel_rfl) (HW.run 400 (by kernel_rfl) ?_)
  simp +decide only[go_sem,nT,nA,nS,nM,nB,reduceIte,reduceCtorEq]
  refine zC (hh) rfl rfl ?_
  unfold tryF
  cases hb:zB3 g l with
  | true =>
   simp +decide only[go_sem,nT,nA,nS,nM,nB,reduceIte,reduceCtorEq]
   rfl
  | false =>
   simp +decide only[go_sem,nT,nA,nS,nM,nB,reduceIte,reduceCtorEq]
   exact .inl rfl
 | m+1,i0,g,hg,hi0=>by
  have ih:=zNc l all hl hr ha m
  have c0:(((m+1:Nat):Int)=0)=False:=by simp only[eq_iff_iff,iff_false];omega
  refine zA (fn:=Tryz.f79) 51 [10,11] (by kernel_rfl) rfl (by kernel_rfl) (HW.run 400 (by kernel_rfl) ?_)
  simp +decide only[go_sem,nT,nA,nS,nM,nB,reduceIte,reduceCtorEq,c0]
  refine HW.loopG (fun k T H=>∃i:Nat,k=all.length+200000-i∧i≤all.length+200000∧tryF l (m+1) (all.drop i0) g=tryF l (m+1) (all.drop i) g∧T 0=.sl (ints all)∧T 2=.v (.int .i64 ((m+1:Nat):Int))∧T 3=.sl (ints g)∧T 4=.sl (rws l)∧T 12=.v (.int .i64 i)∧H=[]) (all.length+200000-i0) ⟨_,_,Ghost.refl,i0,rfl,by omega,rfl,?_,?_,?_,?_,?_,rfl⟩ ?_
  iterate 5 first | (simp +decide only[go_sem,nB,reduceIte];done) | exact rfl
  rintro k T H ⟨i,rfl,hi,hI,h0,h2,h3,h4,h12,rfl⟩
  refine HW.run 200 (by kernel_rfl) ?_
  have w1:IntKind.i64.wrap ((i:Int)+((m+1:Nat):Int))=((i+m+1:Nat):Int):=by rw[w64 (by omega) (by omega)];omega
  by_cases hle:i+m+1≤all.length
  ·have hle' : (((i+m+1:Nat):Int)≤(all.length:Int))=True:=by simp only[eq_iff_iff,iff_true];omega
   have hlt' : ((i:Int)<(all.length:Int))=True:=by simp only[eq_iff_iff,iff_true];omega
   have hx:all[i]?=some (all[i]'(by omega)):=List.getElem?_eq_getElem (by omega)
   generalize all[i]'(by omega)=x at hx
   rw[zRB hx] at hI
   have w2:IntKind.i64.wrap ((i:Int)+1)=((i+1:Nat):Int):=by rw[w64 (by omega) (by omega)];omega
   have w3:IntKind.i64.wrap (((m+1:Nat):Int)-1)=(m:Int):=by rw[w64 (by omega) (by omega)];omega
   have hih:=ih (i+1) (g++[x]) (by simp;omega) (by omega)
   simp +decide only[go_sem,nT,nA,nS,nM,nB,reduceIte,reduceCtorEq,h0,h2,h3,h4,h12,w1,hle']
   have hih2:HCalls Tryz.prog 79 [] ([.sl (ints all),.v (.int .i64 ((i+1:Nat):Int)),.v (.int .i64 m)]++.sl (fzoR (HObj.mk 3 1 (ints (g++[x]))).rows)::[.sl (rws l)]) (fun y H'=>zG7 (tryF l m (all.drop (i+1)) (g++[x])) (g++[x]) y):=by
    show HCalls Tryz.prog 79 [] [.sl (ints all),.v (.int .i64 ((i+1:Nat):Int)),.v (.int .i64 m),.sl (fzoR (ints (g++[x]))),.sl (rws l)] _
    rw[zAO];exact hih
   refine HW.treeI (fun T H=>T 0=.sl (ints all)∧T 2=.v (.int .i64 ((m+1:Nat):Int))∧T 3=.sl (ints g)∧T 4=.sl (rws l)∧T 12=.v (.int .i64 i)∧((∃r,tryF l m (all.drop (i+1)) (g++[x])=some r∧T 13=.sl (ints r)∧T 14=.v (.bool true))∨(tryF l m (all.drop (i+1)) (g++[x])=none∧T 14=.v (.bool false)))∧H=[]) (.light 0 (.light 1 (.light 2 (.light 3 (.light 4 (.light 6 (.light 8 (.light 9 (.light 10 (.light 11 (.light 14 (.heavy 5 [0,1,2,3,4,6,8,9,10,11,14] (.heavy 7 [0,1,2,3,4,8,9,10,11,14] (.heavy 12 [0,1,2,3,4,6,14] (.heavy 13 [0,1,2,3,4,14] (.heavy 15 [] (.light 16 (.light 17 (.light 18 (.light 19 (.light 20 .leaf))))) .stop) .stop) .stop) (.heavy 12 [0,1,2,3,4,6,14] (.heavy 7 [0,1,2,3,4,8,9,10,11,14] (.heavy 13 [0,1,2,3,4,14] (.heavy 15 [] (.light 16 (.light 17 (.light 18 (.light 19 (.light 20 .leaf))))) .stop) .stop) .stop) .stop)) (.heavy 12 [0,1,2,3,4,6,14] (.heavy 5 [0,1,2,3,4,6,8,9,10,11,14] (.heavy 7 [0,1,2,3,4,8,9,10,11,14] (.heavy 13 [0,1,2,3,4,14] (.heavy 15 [] (.light 16 (.light 17 (.light 18 (.light 19 (.light 20 .leaf))))) .stop) .stop) .stop) .stop) .stop))))))))))))) follows (by kernel_rfl) (by kernel_rfl) ?_ ?_
   ·have hgl:(g++[x]).length=g.length+1:=by simp
    simp +decide only[go_sem,nT,nA,nS,nM,nB,reduceIte,reduceCtorEq,h0,h2,h3,h4,h12,hlt',hx,w2,w3]
    (with_reducible and_intros)
    all_goals first | omega | skip
    all_goals
     refine ⟨_,HCalls.hdGive (pre:=[.sl (ints all),.v (.int .i64 ((i+1:Nat):Int)),.v (.int .i64 m)]) (post:=[.sl (rws l)]) hih2 rfl rfl (by simp only[zAD,hgl]),fun y H' hq _=>?_⟩
     obtain ⟨hq,rfl⟩:=hq
     cases ht:tryF l m (all.drop (i+1)) (g++[x]) with
     | some r =>
      rw[ht] at hq
      simp only[zG7] at hq
      subst hq
      simp +decide only[go_sem,nT,nA,nS,nM,nB,reduceIte,reduceCtorEq]
      refine GQ.step (Ghost.trunc [0,2,3,4,12,13,14] 0 (by omega) ?_ rfl) (GQ.done ⟨?_,?_,?_,?_,?_,.inl ⟨r,rfl,?_,?_⟩,rfl⟩)
      all_goals simp +decide only[go_sem,nB,reduceIte,h0,h2,h3,h4,h12]
     | none =>
      rw[ht] at hq
      simp only[zG7] at hq
      rcases hq with rfl | rfl
      all_goals
       simp +decide only[go_sem,nT,nA,nS,nM,nB,reduceIte,reduceCtorEq]
       refine GQ.step (Ghost.trunc [0,2,3,4,12,14] 0 (by omega) ?_ rfl) (GQ.done ⟨?_,?_,?_,?_,?_,?_,rfl⟩)
       all_goals first | (simp +decide only[go_sem,nB,reduceIte,h0,h2,h3,h4,h12];done) | (exact .inr (by simp +decide only[go_sem,nB,reduceIte,h0,h2,h3,h4,h12]))
   rintro T H ⟨h0,h2,h3,h4,h12,hc,rfl⟩
   rcases hc with ⟨r,ht,h13,h14⟩ | ⟨ht,h14⟩
   ·rw[ht] at hI
    simp only at hI
    rw[hI]
    simp +decide only[go_sem,nT,nA,nS,nM,nB,reduceIte,reduceCtorEq,h0,h2,h3,h4,h12,h13,h14]
    rfl
   ·rw[ht] at hI
    simp only at hI
    simp +decide only[go_sem,nT,nA,nS,nM,nB,reduceIte,reduceCtorEq,h0,h2,h3,h4,h12,h14,w2]
    refine ⟨_,_,Ghost.refl,all.length+200000-(i+1),by omega,i+1,rfl,by omega,hI,?_,?_,?_,?_,?_,rfl⟩
    all_goals simp +decide only[go_sem,nB,reduceIte,h0,h2,h3,h4]
  ·have hle' : (((i+m+1:Nat):Int)≤(all.length:Int))=False:=by simp only[eq_iff_iff,iff_false];omega
   have e:tryF l (m+1) (all.drop i) g=none:=zNV l (m+1) (all.drop i) g (by simp;omega)
   rw[e] at hI
   rw[hI]
   simp +decide only[go_sem,nT,nA,nS,nM,nB,reduceIte,reduceCtorEq,h0,h2,h3,h4,h12,w1,hle']
   exact .inr rfl
set_option maxHeartbeats 8000000 in
theorem zVu (l:List (List Int)) (hl:l.length≤1000) (hr:∀r∈l,r.length≤1000) (hf:l.flatten.length≤10000):HFn Tryz.prog 43 [.sl (rws l)] (zGR (zB8 l)):=by
 have hlen:=zFf l
 have hLF:zB8 l=if l.any (·.isEmpty)=true then ([],false) else zCe l (allN l) ((allN l).length+1) 0:=rfl
 have hall:¬l.any (·.isEmpty)=true→tryF l (allN l).length (allN l) []=some (allN l):=fun h=>by
  have:=zII l (allN l) [] (by rw[List.nil_append];exact zNv h)
  simpa using this
 have hins:∀(a:List Int) (n:Int),(insI n a).length≤a.length+1:=fun a n=>by
  induction a with
  | nil=>simp[insI]
  | cons x a ih=>unfold insI;split <;> (try split) <;> simp only[List.length_cons] <;> omega
 have hfl:∀(x a:List Int),(x.foldl (fun a n=>insI n a) a).length≤a.length+x.length:=fun x=>by
  induction x with
  | nil=>intro a;simp
  | cons n x ih=>intro a;have h1:=ih (insI n a);have h2:=hins a n;simp only[List.foldl_cons,List.length_cons];omega
 generalize hR:zB8 l=R at hLF
 refine zA (fn:=Tryz.f43) 55 [2,3] (by kernel_rfl) rfl (by kernel_rfl) (HW.run 400 (by kernel_rfl) ?_)
 simp +decide only[go_sem,nT,nA,nS,nM,nB,reduceIte,reduceCtorEq]
 refine HW.loopG (fun k T H=>∃i:Nat,k=l.length-i∧i≤l.length∧(l.take i).any (·.isEmpty)=false∧T 0=.sl (rws l)∧T 4=.sl (ints (allN (l.take i)))∧T 5=.v (.int .i64 i)∧H=[]) l.length ⟨_,_,Ghost.tmp 4 (.sl []) Conv.nilSl,0,rfl,by omega,by simp,?_,?_,?_,rfl⟩ ?_
 iterate 3 first | (simp +decide only[go_sem,nB,reduceIte];done) | exact rfl
 rintro k T H ⟨i,rfl,hi,hne,h0,h4,h5,rfl⟩
 refine HW.run 200 (by kernel_rfl) ?_
 by_cases hlt:i<l.length
 ·have hlt' : ((i:Int)<(l.length:Int))=True:=by simp only[eq_iff_iff,iff_true];omega
  have hx:l[i]?=some l[i]:=List.getElem?_eq_getElem hlt
  have hxm:=List.getElem_mem hlt
  have hxl:=hr _ hxm
  have htk:l.take (i+1)=l.take i++[l[i]]:=by rw[List.take_add_one,hx];rfl
  have hsub:(l.take i).flatten.length≤10000:=by
   have:l.flatten.length=(l.take i).flatten.length+(l.drop i).flatten.length:=by
    rw[←List.length_append,←List.flatten_append,List.take_append_drop]
   omega
  generalize l[i]=x at hx hxm hxl htk
  by_cases hxe:x=[]
  ·have hany:l.any (·.isEmpty)=true:=List.any_eq_true.2 ⟨x,hxm,by rw[hxe];rfl⟩
   rw[if_pos hany] at hLF
   have e0:((x.length:Int)=0)=True:=by rw[hxe];simp
   simp +decide only[go_sem,nT,nA,nS,nM,nB,reduceIte,reduceCtorEq,h0,h4,h5,hlt',hx,e0]
   rw[hLF];rfl
  ·have e0:((x.length:Int)=0)=False:=by
    have:=List.length_pos_iff.2 hxe
    simp only[eq_iff_iff,iff_false];omega
   simp +decide only[go_sem,nT,nA,nS,nM,nB,reduceIte,reduceCtorEq,h0,h4,h5,hlt',hx,e0]
   have hal:(allN (l.take i)).length≤10000:=by
    have:=hfl (l.take i).flatten []
    unfold allN
    simp only[List.length_nil] at this;omega
   refine HW.loopG (fun k T H=>∃j:Nat,k=x.length-j∧j≤x.length∧T 0=.sl (rws l)∧T 4=.sl (ints ((x.take j).foldl (fun a n=>insI n a) (allN (l.take i))))∧T 5=.v (.int .i64 i)∧T 6=.v (.int .i64 j)∧H=[]) x.length ⟨_,_,Ghost.refl,0,rfl,by omega,?_,?_,?_,?_,rfl⟩ ?_
   ·simp +decide only[go_sem,nB,reduceIte,h0]
   ·simp +decide only[go_sem,nB,reduceIte,h4,List.take_zero,List.foldl_nil]
   ·simp +decide only[go_sem,nB,reduceIte,h5]
   ·simp +decide only[go_sem,nB,reduceIte]
    exact rfl
   rintro k T H ⟨j,rfl,hj,h0,h4,h5,h6,rfl⟩
   refine HW.run 200 (by kernel_rfl) ?_
   by_cases hjt:j<x.length
   ·have hjt' : ((j:Int)<(x.length:Int))=True:=by simp only[eq_iff_iff,iff_true];omega
    have hy:x[j]?=some x[j]:=List.getElem?_eq_getElem hjt
    have htj:(x.take (j+1)).foldl (fun a n=>insI n a) (allN (l.take i))=insI x[j] ((x.take j).foldl (fun a n=>insI n a) (allN (l.take i))):=by
     rw[List.take_add_one,hy,List.foldl_append];rfl
    generalize x[j]=y at hy htj
    have hcl:((x.take j).foldl (fun a n=>insI n a) (allN (l.take i))).length≤20000:=by
     have:=hfl (x.take j) (allN (l.take i))
     simp only[List.length_take] at this;omega
    generalize (x.take j).foldl (fun a n=>insI n a) (allN (l.take i))=cur at h4 htj hcl
    have hp:=zZE cur y (by omega)
    simp +decide only[go_sem,nT,nA,nS,nM,nB,reduceIte,reduceCtorEq,h0,h4,h5,h6,hlt',hx,hjt',hy]
    refine zC (hp) rfl rfl ?_
    simp +decide only[go_sem,nT,nA,nS,nM,nB,reduceIte,reduceCtorEq,h0,h4,h5,h6]
    refine ⟨_,_,(Ghost.freezeHd 4 0 (insI y cur).length rfl rfl (by simp only[zAD])).trans (Ghost.trunc [0,4,5,6] 0 (by omega) ?_ ?_),x.length-(j+1),by omega,j+1,rfl,by omega,?_,?_,?_,?_,rfl⟩
    all_goals first | (simp +decide only[go_sem,nB,reduceIte,h0,h5];done) | (simp +decide only[go_sem,nB,reduceIte];rw[w64 (by omega) (by omega)];rfl) | (simp +decide only[go_sem,nB,reduceIte,zAO,htj];done)
   ·have hjt' : ((j:Int)<(x.length:Int))=False:=by simp only[eq_iff_iff,iff_false];omega
    have e:x.take j=x:=List.take_of_length_le (by omega)
    rw[e] at h4
    simp +decide only[go_sem,nT,nA,nS,nM,nB,reduceIte,reduceCtorEq,h0,h4,h5,h6,hlt',hx,hjt']
    refine ⟨_,_,Ghost.refl,l.length-(i+1),by omega,i+1,rfl,by omega,?_,?_,?_,?_,rfl⟩
    ·rw[htk,List.any_append,hne]
     cases x with
     | nil=>exact absurd rfl hxe
     | cons a b=>rfl
    ·simp +decide only[go_sem,nB,reduceIte,h0]
    ·simp +decide only[go_sem,nB,reduceIte,h4]
     unfold allN
     rw[htk,List.flatten_append,List.foldl_append]
     simp
    ·simp +decide only[go_sem,nB,reduceIte];rw[w64 (by omega) (by omega)];rfl
 ·have hlt' : ((i:Int)<(l.length:Int))=False:=by simp only[eq_iff_iff,iff_false];omega
  have e:l.take i=l:=List.take_of_length_le (by omega)
  rw[e] at h4 hne
  rw[if_neg (by rw[hne];simp)] at hLF
  have hall:=hall (by rw[hne];simp)
  simp +decide only[go_sem,nT,nA,nS,nM,nB,reduceIte,reduceCtorEq,h0,h4,h5,hlt']
  refine HW.loopG (fun k T H=>∃m:Nat,k=(allN l).length+1-m∧m≤(allN l).length∧R=zCe l (allN l) ((allN l).length+1-m) m∧T 0=.sl (rws l)∧T 4=.sl (ints (allN l))∧T 7=.v (.int .i64 m)∧H=[]) ((allN l).length+1) ⟨_,_,Ghost.refl,0,rfl,by omega,hLF,?_,?_,?_,rfl⟩ ?_
  ·simp +decide only[go_sem,nB,reduceIte,h0]
  ·simp +decide only[go_sem,nB,reduceIte,h4]
  ·simp +decide only[go_sem,nB,reduceIte]
   exact rfl
  rintro k T H ⟨m,rfl,hm,hI,h0,h4,h7,rfl⟩
  refine HW.run 200 (by kernel_rfl) ?_
  rw[show (allN l).length+1-m=(allN l).length-m+1 by omega,zCe] at hI
  have hle' : ((m:Int)≤((allN l).length:Int))=True:=by simp only[eq_iff_iff,iff_true];omega
  have hF:=zNc l (allN l) (by omega) (fun r h=>by have:=hr r h;omega) (by omega) m 0 [] (by simp;omega) (by omega)
  rw[List.drop_zero] at hF
  have hF2:HCalls Tryz.prog 79 [] [.sl (ints (allN l)),.v (.int .i64 0),.v (.int .i64 m),.v (.slice none 0 0),.sl (rws l)] (fun x H'=>zG7 (tryF l m (allN l) []) [] x) :=
   HCalls.convB hF ⟨Conv.refl _,Conv.refl _,Conv.refl _,Conv.nilSl,Conv.refl _,trivial⟩
  simp +decide only[go_sem,nT,nA,nS,nM,nB,reduceIte,reduceCtorEq,h0,h4,h7,hle']
  refine zLC hF2 rfl rfl ?_
  intro x hq
  cases ht:tryF l m (allN l) [] with
  | some r =>
   rw[ht] at hq hI
   simp only[zG7] at hq hI
   subst hq
   simp +decide only[go_sem,nT,nA,nS,nM,nB,reduceIte,reduceCtorEq,h0,h4,h7]
   rw[hI];rfl
  | none =>
   rw[ht] at hq hI
   simp only[zG7] at hq hI
   have hmn:m≠(allN l).length:=fun e=>by rw[e,hall] at ht;cases ht
   have w1:IntKind.i64.wrap ((m:Int)+1)=((m+1:Nat):Int):=by rw[w64 (by omega) (by omega)];omega
   rcases hq with rfl | rfl
   all_goals
    simp +decide only[go_sem,nT,nA,nS,nM,nB,reduceIte,reduceCtorEq,h0,h4,h7,w1]
    refine ⟨_,_,Ghost.refl,(allN l).length+1-(m+1),by omega,m+1,rfl,by omega,by rw[hI,show (allN l).length+1-(m+1)=(allN l).length-m by omega],?_,?_,?_,rfl⟩
    all_goals simp +decide only[go_sem,nB,reduceIte,h0,h4]
end Go.Proofs.YtoknohandclcbaaGreat
namespace Go.Proofs.YtoknohandclcbaaGreat
open Go.RowKit
set_option maxRecDepth 8000
theorem zXv (c:HV) (f:Nat) (b:Bool) (hn:nmL 0 (fnA f .any [] [c])=true) (h:HFn Tryz.prog (fnF f) (fnA f .any [] [c]) (.v (.bool b))):HFn Tryz.prog 66 [.fn f [c]] (.v (.bool (!b))):=by
 refine zA (fn:=Tryz.f66) 6 [2] (by kernel_rfl) rfl (by kernel_rfl) (HW.run 400 (by kernel_rfl) ?_)
 simp +decide only[go_sem,nT,nA,nS,nM,nB,reduceIte,reduceCtorEq]
 refine zC h rfl hn ?_
 simp +decide only[go_sem,nT,nA,nS,nM,nB,reduceIte,reduceCtorEq]
abbrev zXI (c:HV) (f1 f2 f3 f4:Nat):List (List HV):=[[.fn f1 [c]],[.fn f2 [c]],[.fn f3 [c]],[.fn f4 [c]]]
def no4 (b1 b2 b3 b4:Bool):Int:=if b1=false then 0 else if b2=false then 1 else if b3=false then 2 else if b4=false then 3 else -1
set_option maxHeartbeats 4000000 in
theorem zPm (c:HV) (f1 f2 f3 f4:Nat) (b1 b2 b3 b4:Bool) (hc:nm 0 c=true) (htv:tv c=true) (h1:HFn Tryz.prog 66 [.fn f1 [c]] (.v (.bool (!b1)))) (h2:b1=true→HFn Tryz.prog 66 [.fn f2 [c]] (.v (.bool (!b2))))
  (h3:b1=true→b2=true→HFn Tryz.prog 66 [.fn f3 [c]] (.v (.bool (!b3)))) (h4:b1=true→b2=true→b3=true→HFn Tryz.prog 66 [.fn f4 [c]] (.v (.bool (!b4)))) :
  HFn Tryz.prog 102 [.sl (zXI c f1 f2 f3 f4),.fn 66 []] (.v (.int .i64 (no4 b1 b2 b3 b4))):=by
 have hnm:∀f,nmL 0 [.fn f [c]]=true:=fun f=>by simp[nmL,nm,hc]
 refine zA (fn:=Tryz.f102) 19 [4] (by kernel_rfl) rfl (by kernel_rfl) (HW.run 400 (by kernel_rfl) ?_)
 simp +decide only[go_sem,nT,nA,nS,nM,nB,reduceIte,reduceCtorEq]
 refine HW.loopG (fun k T H=>∃i:Nat,k=4-i∧i≤4∧(1≤i→b1=true)∧(2≤i→b2=true)∧(3≤i→b3=true)∧(4≤i→b4=true)∧T 0=.sl (zXI c f1 f2 f3 f4)∧T 1=.fn 66 []∧T 7=.v (.int .i64 4)∧T 8=.v (.int .i64 i)∧H=[]) 4 ⟨_,_,Ghost.refl,0,rfl,by omega,by omega,by omega,by omega,by omega,rfl,rfl,rfl,rfl,rfl⟩ ?_
 rintro k T H ⟨i,rfl,hi,p1,p2,p3,p4,h0,ht1,h7,h8,rfl⟩
 refine HW.run 200 (by kernel_rfl) ?_
 rcases i with _ | _ | _ | _ | _ | i
 ·simp +decide only[go_sem,nT,nA,nS,nM,nB,reduceIte,reduceCtorEq,h0,ht1,h7,h8,htv]
  refine zC h1 rfl (hnm _) ?_
  cases b1 with
  | false =>
   simp +decide only[go_sem,nT,nA,nS,nM,nB,reduceIte,reduceCtorEq,h0,ht1,h7,h8]
   rfl
  | true =>
   simp +decide only[go_sem,nT,nA,nS,nM,nB,reduceIte,reduceCtorEq,h0,ht1,h7,h8]
   refine ⟨_,_,Ghost.refl,3,by omega,1,rfl,by omega,by intro hh;first | trivial | exact p1 (by omega) | omega,by intro hh;first | trivial | exact p2 (by omega) | omega,by intro hh;first | trivial | exact p3 (by omega) | omega,by intro hh;first | trivial | exact p4 (by omega) | omega,?_,?_,?_,?_,rfl⟩
   all_goals first | (simp +decide only[go_sem,nB,reduceIte,h0,ht1,h7];done) | rfl
 ·simp +decide only[go_sem,nT,nA,nS,nM,nB,reduceIte,reduceCtorEq,h0,ht1,h7,h8,htv]
  refine zC (h2 (p1 (by omega))) rfl (hnm _) ?_
  cases b2 with
  | false =>
   simp +decide only[go_sem,nT,nA,nS,nM,nB,reduceIte,reduceCtorEq,h0,ht1,h7,h8]
   try rw[p1 (by omega)]
   rfl
  | true =>
   simp +decide only[go_sem,nT,nA,nS,nM,nB,reduceIte,reduceCtorEq,h0,ht1,h7,h8]
   refine ⟨_,_,Ghost.refl,2,by omega,2,rfl,by omega,by intro hh;first | trivial | exact p1 (by omega) | omega,by intro hh;first | trivial | exact p2 (by omega) | omega,by intro hh;first | trivial | exact p3 (by omega) | omega,by intro hh;first | trivial | exact p4 (by omega) | omega,?_,?_,?_,?_,rfl⟩
   all_goals first | (simp +decide only[go_sem,nB,reduceIte,h0,ht1,h7];done) | rfl
 ·simp +decide only[go_sem,nT,nA,nS,nM,nB,reduceIte,reduceCtorEq,h0,ht1,h7,h8,htv]
  refine zC (h3 (p1 (by omega)) (p2 (by omega))) rfl (hnm _) ?_
  cases b3 with
  | false =>
   simp +decide only[go_sem,nT,nA,nS,nM,nB,reduceIte,reduceCtorEq,h0,ht1,h7,h8]
   try rw[p1 (by omega)]
   try rw[p2 (by omega)]
   rfl
  | true =>
   simp +decide only[go_sem,nT,nA,nS,nM,nB,reduceIte,reduceCtorEq,h0,ht1,h7,h8]
   refine ⟨_,_,Ghost.refl,1,by omega,3,rfl,by omega,by intro hh;first | trivial | exact p1 (by omega) | omega,by intro hh;first | trivial | exact p2 (by omega) | omega,by intro hh;first | trivial | exact p3 (by omega) | omega,by intro hh;first | trivial | exact p4 (by omega) | omega,?_,?_,?_,?_,rfl⟩
   all_goals first | (simp +decide only[go_sem,nB,reduceIte,h0,ht1,h7];done) | rfl
 ·simp +decide only[go_sem,nT,nA,nS,nM,nB,reduceIte,reduceCtorEq,h0,ht1,h7,h8,htv]
  refine zC (h4 (p1 (by omega)) (p2 (by omega)) (p3 (by omega))) rfl (hnm _) ?_
  cases b4 with
  | false =>
   simp +decide only[go_sem,nT,nA,nS,nM,nB,reduceIte,reduceCtorEq,h0,ht1,h7,h8]
   try rw[p1 (by omega)]
   try rw[p2 (by omega)]
   try rw[p3 (by omega)]
   rfl
  | true =>
   simp +decide only[go_sem,nT,nA,nS,nM,nB,reduceIte,reduceCtorEq,h0,ht1,h7,h8]
   refine ⟨_,_,Ghost.refl,0,by omega,4,rfl,by omega,by intro hh;first | trivial | exact p1 (by omega) | omega,by intro hh;first | trivial | exact p2 (by omega) | omega,by intro hh;first | trivial | exact p3 (by omega) | omega,by intro hh;first | trivial | exact p4 (by omega) | omega,?_,?_,?_,?_,rfl⟩
   all_goals first | (simp +decide only[go_sem,nB,reduceIte,h0,ht1,h7];done) | rfl
 ·have q1:=p1 (by omega)
  have q2:=p2 (by omega)
  have q3:=p3 (by omega)
  have q4:=p4 (by omega)
  subst q1 q2 q3 q4
  simp +decide only[go_sem,nT,nA,nS,nM,nB,reduceIte,reduceCtorEq,h0,ht1,h7,h8]
  rfl
 ·omega
theorem z2U (b1 b2 b3 b4:Bool):(!decide (0≤no4 b1 b2 b3 b4))=(b1 && (b2 && (b3 && b4))):=by
 cases b1 <;> cases b2 <;> cases b3 <;> cases b4 <;> rfl
set_option maxHeartbeats 4000000 in
theorem z12 (c:HV) (f1 f2 f3 f4:Nat) (b1 b2 b3 b4:Bool) (hc:nm 0 c=true) (htv:tv c=true) (hfz:fzo c=c) (h1:HFn Tryz.prog 66 [.fn f1 [c]] (.v (.bool (!b1)))) (h2:b1=true→HFn Tryz.prog 66 [.fn f2 [c]] (.v (.bool (!b2))))
  (h3:b1=true→b2=true→HFn Tryz.prog 66 [.fn f3 [c]] (.v (.bool (!b3)))) (h4:b1=true→b2=true→b3=true→HFn Tryz.prog 66 [.fn f4 [c]] (.v (.bool (!b4)))) :
  HFn Tryz.prog 37 [.sl (zXI c f1 f2 f3 f4)] (.v (.bool (b1 && (b2 && (b3 && b4))))):=by
 have hi:=zPm c f1 f2 f3 f4 b1 b2 b3 b4 hc htv h1 h2 h3 h4
 rw[←z2U]
 generalize no4 b1 b2 b3 b4=q at hi
 have hcon:HFn Tryz.prog 65 [.sl (zXI c f1 f2 f3 f4),.fn 66 []] (.v (.bool (decide (0≤q)))):=by
  refine zA (fn:=Tryz.f65) 9 [4] (by kernel_rfl) rfl (by kernel_rfl) (HW.run 400 (by kernel_rfl) ?_)
  simp +decide only[go_sem,nT,nA,nS,nM,nB,reduceIte,reduceCtorEq]
  refine zC (hi) rfl rfl ?_
  simp +decide only[go_sem,nT,nA,nS,nM,nB,reduceIte,reduceCtorEq]
 refine zA (fn:=Tryz.f37) 6 [2] (by kernel_rfl) rfl (by kernel_rfl) (HW.run 400 (by kernel_rfl) ?_)
 simp +decide only[go_sem,nT,nA,nS,nM,nB,reduceIte,reduceCtorEq]
 refine zC (hcon) rfl rfl ?_
 simp +decide only[go_sem,nT,nA,nS,nM,nB,reduceIte,reduceCtorEq]
theorem zR0 {a:Ans} (h:zHD a=true):SetO a.ends:=by
 unfold zHD at h
 rw[Bool.and_eq_true] at h
 exact zF8.1 h.1
theorem zOr {a:Ans} (h:zHD a=true):SetO a.loose:=by
 unfold zHD at h
 rw[Bool.and_eq_true,Bool.and_eq_true] at h
 exact zF8.1 h.2.1
set_option maxHeartbeats 8000000 in
theorem zCx (p:Prg) (a:Ans) (hp:RightP p) (ha:SmallA a):HFn Tryz.prog 13 [prgH p,ansH a] (.v (.bool (zEY p a))):=by
 have hA:∀(m:Nat) (b:Bool),m<4294967296→HFn Tryz.prog m [chkC p a] (.v (.bool b))→HFn Tryz.prog 66 [.fn (m+4294967296) [chkC p a]] (.v (.bool (!b))):=fun m b hm h=>by
  have hge:¬m+4294967296<4294967296:=by omega
  refine zXv _ _ b (by rw[zG4 hge];rfl) ?_
  rw[zTR hge,zG4 hge]
  rw[Nat.add_sub_cancel]
  exact h
 have h:=z12 (chkC p a) (38+4294967296) (39+4294967296) (40+4294967296) (41+4294967296) (zHD a) (a.proofs.all (zBH p a)) (zGT a) (zMM a) rfl rfl (by simp only[fzo,fzoR,fzoL];done)
  (hA _ _ (by decide) (zXs p a ha)) (fun h=>hA _ _ (by decide) (zQc p a hp ha (zR0 h) (zOr h))) (fun _ _=>hA _ _ (by decide) (zUT p a ha)) (fun _ _ _=>hA _ _ (by decide) (zXu p a ha))
 unfold zEY
 generalize (zHD a && (a.proofs.all (zBH p a) && (zGT a && zMM a)))=z at h
 refine zA (fn:=Tryz.f13) 20 [4] (by kernel_rfl) rfl (by kernel_rfl) (HW.run 400 (by kernel_rfl) ?_)
 simp +decide only[go_sem,nT,nA,nS,nM,nB,reduceIte,reduceCtorEq]
 refine zJ 4 h (by simp only[go_sem];rfl) rfl ?_
 simp +decide only[go_sem,nT,nA,nS,nM,nB,reduceIte,reduceCtorEq]
theorem zQd (g:List Int) (x:Prf) (hg:g.length≤1000000) (hx:x.slots.length≤1000000):HFn Tryz.prog 32 [prfH x,.fp [[.sl (ints g)]] 0 0] (.v (.bool (!zAe x.slots g))):=by
 have h:=zZi g [x.slots] hg (by simp) (fun r hr=>by obtain rfl:=List.mem_singleton.1 hr;exact hx)
 have e:zB3 g [x.slots]=zAe x.slots g:=by simp[zB3]
 rw[e] at h
 refine zA (fn:=Tryz.f32) 10 [3] (by kernel_rfl) rfl (by kernel_rfl) (HW.run 400 (by kernel_rfl) ?_)
 simp +decide only[go_sem,nT,nA,nS,nM,nB,reduceIte,reduceCtorEq]
 refine zJ 3 h (by simp only[go_sem];rfl) rfl ?_
 simp +decide only[go_sem,nT,nA,nS,nM,nB,reduceIte,reduceCtorEq]
theorem zYB (a:Ans) (g:List Int):(idxF (fun x=>!zAe x.slots g) a.proofs = -1∧zGr a g=none)∨∃(i:Nat) (x:Prf),idxF (fun x=>!zAe x.slots g) a.proofs=(i:Int)∧a.proofs[i]?=some x∧zGr a g=some x:=by
 unfold idxF zGr
 cases h:a.proofs.findIdx? (fun x=>!zAe x.slots g) with
 | none =>
  rw[List.findIdx?_eq_none_iff] at h
  refine .inl ⟨rfl,?_⟩
  rw[List.find?_eq_none]
  intro x hx
  simpa using h x hx
 | some i =>
  have h2:=List.findIdx?_eq_some_iff_getElem.1 h
  obtain ⟨h3,h4,h5⟩:=h2
  refine .inr ⟨i,a.proofs[i],rfl,List.getElem?_eq_getElem h3,?_⟩
  rw[List.find?_eq_some_iff_getElem]
  exact ⟨h4,i,h3,rfl,fun j hj=>by have:=h5 j hj;simpa using this⟩
def zF6 (p:Prg) (a:Ans) (g:List Int):HV:=match zGr a g with
 | none=>.tu [.v (.slice none 0 0),.v (.bool false)]
 | some x=>.tu [.sl (pcks ((zAB p g (zG p) [] x.picks).getD [])),.v (.bool (zAB p g (zG p) [] x.picks).isSome)]
set_option maxHeartbeats 4000000 in
theorem zGo (p:Prg) (a:Ans) (g:List Int) (hp:RightP p) (ha:SmallA a) (hg:g.length≤10000):HFn Tryz.prog 11 [prgH p,ansH a,.sl (ints g)] (zF6 p a g):=by
 have hi:=idxP a.proofs 32 [.fp [[.sl (ints g)]] 0 0] (fun x=>!zAe x.slots g) (by have:=ha.proofs;omega) (fun x _=>rfl) (fun i x hx _=>zQd g x (by omega) (by have:=ha.slots x (List.mem_of_getElem? hx);omega))
 have hcs:=zYB a g
 unfold zF6
 generalize idxF (fun x=>!zAe x.slots g) a.proofs=q at hi hcs
 rcases hcs with ⟨rfl,hb⟩ | ⟨i,x,rfl,hx,hb⟩
 ·rw[hb]
  refine zA (fn:=Tryz.f11) 26 [6,7] (by kernel_rfl) rfl (by kernel_rfl) (HW.run 400 (by kernel_rfl) ?_)
  simp +decide only[go_sem,nT,nA,nS,nM,nB,reduceIte,reduceCtorEq]
  refine zJ 3 hi (by simp only[go_sem];rfl) rfl ?_
  simp +decide only[go_sem,nT,nA,nS,nM,nB,reduceIte,reduceCtorEq]
 ·rw[hb]
  simp only
  have hR:HFn Tryz.prog 34 [prgH p,.sl (ints g),.sl (pcks x.picks)] (.tu [.sl (pcks ((zAB p g (zG p) [] x.picks).getD [])),.v (.bool (zAB p g (zG p) [] x.picks).isSome)]):=HFn.shut (zQ6 p g x.picks hp hg (ha.picks x (List.mem_of_getElem? hx))) (by simp only[fzo,fzoL,zCp])
  have hi0:((i:Int)<0)=False:=by simp only[eq_iff_iff,iff_false];omega
  have hil:((i:Int)<(a.proofs.length:Int))=True:=by have:=(List.getElem?_eq_some_iff.1 hx).1;simp only[eq_iff_iff,iff_true];omega
  generalize (zAB p g (zG p) [] x.picks).isSome=b1 at hR
  generalize (zAB p g (zG p) [] x.picks).getD []=l1 at hR
  refine zA (fn:=Tryz.f11) 26 [6,7] (by kernel_rfl) rfl (by kernel_rfl) (HW.run 400 (by kernel_rfl) ?_)
  simp +decide only[go_sem,nT,nA,nS,nM,nB,reduceIte,reduceCtorEq]
  refine zJ 3 hi (by simp only[go_sem];rfl) rfl ?_
  simp +decide only[go_sem,nT,nA,nS,nM,nB,reduceIte,reduceCtorEq,hi0]
  refine HW.tree 1 (.light 0 (.light 1 (.light 2 (.light 3 (.light 4 (.light 5 (.light 6 (.light 7 (.heavy 8 [] (.light 9 (.light 10 (.light 11 (.light 12 .leaf)))) .stop))))))))) follows (by kernel_rfl) (by kernel_rfl) ?_
  simp +decide only[go_sem,nT,nA,nS,nM,nB,reduceIte,reduceCtorEq,hi0,hil,hx]
  refine zC (hR) rfl rfl ?_
  simp +decide only[go_sem,nT,nA,nS,nM,nB,reduceIte,reduceCtorEq]
end Go.Proofs.YtoknohandclcbaaGreat
namespace Go.Proofs.YtoknohandclcbaaGreat
open Go.RowKit
set_option maxRecDepth 8000
set_option maxHeartbeats 8000000 in
theorem zVs (p:Prg) (a:Ans) (x:Prf) (hp:RightP p) (ha:SmallA a) (hx:x∈a.proofs):HFn Tryz.prog 42 [prgH p,ansH a,prfH x] (.v (.bool (zBH p a x))):=by
 have hE:HFn Tryz.prog 19 [prgH p,.sl (pcks x.picks),.v (.bool true)] (endR (zHU p x.picks)):=zZK p x.picks true hp (by have:=ha.picks x hx;omega)
 have hC:HFn Tryz.prog 77 [prgH p,.sl (pcks x.picks)] (.tu [.sl (ints (zEW p x.picks)),.v (.bool (zAS p (zG p) [] x.picks).isSome)]):=zVx p x.picks hp (ha.picks x hx)
 have hcl:(zEW p x.picks).length≤1000000:=by
  have:=zKw (p:=p) (l:=x.picks)
  have:=ha.picks x hx
  show ((zAS p (zG p) [] x.picks).getD []).length≤_
  omega
 have hQ:=zBn (zEW p x.picks) x.slots hcl
 have hxo:=ha.outs x hx
 have hse:∀o,zHU p x.picks=some o→SmallO o:=fun o h=>zGg hp h
 unfold zBH
 generalize zHU p x.picks=eo at hE hse
 generalize (zAS p (zG p) [] x.picks).isSome=cb at hC
 generalize zEW p x.picks=cr at hC hQ hcl
 refine zA (fn:=Tryz.f42) 51 [6] (by kernel_rfl) rfl (by kernel_rfl) (HW.run 400 (by kernel_rfl) ?_)
 cases eo with
 | none =>
  simp only[endR] at hE
  simp +decide only[go_sem,nT,nA,nS,nM,nB,reduceIte,reduceCtorEq]
  refine zC (hE) rfl rfl ?_
  simp +decide only[go_sem,nT,nA,nS,nM,nB,reduceIte,reduceCtorEq]
  refine zC (hC) rfl rfl ?_
  simp +decide only[go_sem,nT,nA,nS,nM,nB,reduceIte,reduceCtorEq]
 | some o =>
  simp only[endR] at hE
  have hso:=hse o rfl
  have h1:=zEg o x.out hso hxo
  have h2:=zMC a.ends o (by have:=ha.ends;omega) ha.endO hso
  have h4:=zMC a.loose o (by have:=ha.loose;omega) ha.looseO hso
  simp only
  generalize decide (o=x.out)=b1 at h1
  generalize decide (cr=x.slots)=b2 at hQ
  generalize hasO a.ends o=b3 at h2
  generalize hasO a.loose o=b4 at h4
  simp +decide only[go_sem,nT,nA,nS,nM,nB,reduceIte,reduceCtorEq]
  refine zC (hE) rfl rfl ?_
  simp +decide only[go_sem,nT,nA,nS,nM,nB,reduceIte,reduceCtorEq]
  refine zC (hC) rfl rfl ?_
  simp +decide only[go_sem,nT,nA,nS,nM,nB,reduceIte,reduceCtorEq]
  refine zC (h1) rfl rfl ?_
  cases b1 with
  | false =>
   simp +decide only[go_sem,nT,nA,nS,nM,nB,reduceIte,reduceCtorEq]
   rfl
  | true =>
   simp +decide only[go_sem,nT,nA,nS,nM,nB,reduceIte,reduceCtorEq]
   refine zC (hQ) rfl rfl ?_
   cases b2 with
   | false =>
    simp +decide only[go_sem,nT,nA,nS,nM,nB,reduceIte,reduceCtorEq]
    rfl
   | true =>
    simp +decide only[go_sem,nT,nA,nS,nM,nB,reduceIte,reduceCtorEq]
    refine zC (h2) rfl rfl ?_
    cases b3 with
    | true =>
     simp +decide only[go_sem,nT,nA,nS,nM,nB,reduceIte,reduceCtorEq]
     rfl
    | false =>
     simp +decide only[go_sem,nT,nA,nS,nM,nB,reduceIte,reduceCtorEq]
     refine zC (h4) rfl rfl ?_
     simp +decide only[go_sem,nT,nA,nS,nM,nB,reduceIte,reduceCtorEq]
set_option maxHeartbeats 8000000 in
theorem zVy (p:Prg) (a:Ans) (hp:RightP p) (ha:SmallA a):HFn Tryz.prog 14 [prgH p,ansH a] (.v (.bool (zEY p a))):=by
 have h1:=zRu a.ends (by have:=ha.ends;omega) ha.endO
 have h2:=zRu a.loose (by have:=ha.loose;omega) ha.looseO
 have h3:=zVt a.ends a.loose (by have:=ha.ends;omega) (by have:=ha.loose;omega) ha.endO ha.looseO
 have hRw:=zRv a.proofs (by have:=ha.proofs;omega)
 have hL:=zVu (zAI a.proofs) (by unfold zAI;simp;have:=ha.proofs;omega) (fun r h=>by
  unfold zAI at h
  obtain ⟨x,hx,rfl⟩:=List.mem_map.1 h
  exact ha.slots x hx) ha.all
 have hlenF:∀r,zB8 (zAI a.proofs)=(r,true)→r.length≤1000000:=fun r h=>by
  obtain ⟨n,hn,_⟩:=(zGS h).2
  obtain ⟨_,s,e,_,hsub⟩:=zDp _ _ _ _ _ hn
  rw[List.nil_append] at e
  subst e
  have h1:=hsub.length_le
  have h2:=zFf (zAI a.proofs)
  have h3:=ha.all
  omega
 have hS:=zVq a.ends a.loose (by have:=ha.ends;omega) (by have:=ha.loose;omega) ha.endO ha.looseO
 have hP:=fun x (hx:x∈a.proofs)=>zVs p a x hp ha hx
 have hpl:=ha.proofs
 have hfl:=ha.fences
 have e1:decide (0<((zBM a.ends a.loose).length:Int)) = !(zBM a.ends a.loose).isEmpty:=by
  cases zBM a.ends a.loose with
  | nil=>rfl
  | cons x l=>simp
 unfold zEY zHD
 generalize hb1:setO a.ends=b1 at h1
 generalize hb2:setO a.loose=b2 at h2
 generalize hm:zBM a.ends a.loose=mm at h3 e1
 generalize hpb:a.proofs.all (zBH p a)=pb
 generalize hlb:zGT a=lb
 generalize hnb:zMM a=nb
 refine zA (fn:=Tryz.f14) 69 [4] (by kernel_rfl) rfl (by kernel_rfl) (HW.run 400 (by kernel_rfl) ?_)
 simp +decide only[go_sem,nT,nA,nS,nM,nB,reduceIte,reduceCtorEq]
 refine zC (h1) rfl rfl ?_
 cases b1 with
 | false =>
  simp +decide only[go_sem,nT,nA,nS,nM,nB,reduceIte,reduceCtorEq]
  rfl
 | true =>
 simp +decide only[go_sem,nT,nA,nS,nM,nB,reduceIte,reduceCtorEq]
 refine zC (h2) rfl rfl ?_
 cases b2 with
 | false =>
  simp +decide only[go_sem,nT,nA,nS,nM,nB,reduceIte,reduceCtorEq]
  rfl
 | true =>
 simp +decide only[go_sem,nT,nA,nS,nM,nB,reduceIte,reduceCtorEq]
 refine zC (h3) rfl rfl ?_
 cases he:mm.isEmpty with
 | false =>
  rw[he] at e1
  simp +decide only[go_sem,nT,nA,nS,nM,nB,reduceIte,reduceCtorEq,e1]
  rfl
 | true =>
 rw[he] at e1
 simp +decide only[go_sem,nT,nA,nS,nM,nB,reduceIte,reduceCtorEq,e1]
 have hPr:∀i x,a.proofs[i]?=some x→((a.proofs.take (i+1)).all (zBH p a))=((a.proofs.take i).all (zBH p a) && zBH p a x):=fun i x hx=>by
  rw[List.take_add_one,hx,List.all_append];simp
 refine HW.loopG (fun k T H=>∃i:Nat,k=a.proofs.length-i∧i≤a.proofs.length∧(a.proofs.take i).all (zBH p a)=true∧T 2=.pt 0 1 0 0∧T 3=.pt 1 1 0 0∧T 5=.v (.int .i64 i)∧H=[some ⟨25,2,[[.sl (ints p.init),.sl (thrs p.thr)]]⟩,some ⟨29,5,[[.sl (ints a.fences),.sl (pfs a.proofs),.sl (ots a.ends),.sl (ots a.loose),.v (.int .i64 a.states)]]⟩]) a.proofs.length ⟨_,_,Ghost.trunc [2,3,5] 2 (by omega) ?_ ?_,0,rfl,by omega,by simp,?_,?_,?_,rfl⟩ ?_
 ·simp +decide only[go_sem,nB,reduceIte]
 ·simp +decide only[go_sem,nB,reduceIte]
 ·simp +decide only[go_sem,nB,reduceIte]
 ·simp +decide only[go_sem,nB,reduceIte]
 ·simp +decide only[go_sem,nB,reduceIte]
  rfl
 rintro k T H ⟨i,rfl,hi,hI,h2',h3',h5,rfl⟩
 refine HW.run 200 (by kernel_rfl) ?_
 by_cases hlt:i<a.proofs.length
 ·have hlt' : ((i:Int)<(a.proofs.length:Int))=True:=by simp only[eq_iff_iff,iff_true];omega
  have hx:a.proofs[i]?=some a.proofs[i]:=List.getElem?_eq_getElem hlt
  have hxm:=List.getElem_mem hlt
  generalize a.proofs[i]=x at hx hxm
  have hc:=hP x hxm
  have hpr:=hPr i x hx
  rw[hI,Bool.true_and] at hpr
  simp +decide only[go_sem,nT,nA,nS,nM,nB,reduceIte,reduceCtorEq,h2',h3',h5,hlt']
  refine HW.tree 1 (.light 0 (.light 1 (.light 2 (.light 3 (.light 4 (.light 5 (.light 6 (.heavy 7 [] (.light 8 .leaf) .stop)))))))) follows (by kernel_rfl) (by kernel_rfl) ?_
  simp +decide only[go_sem,nT,nA,nS,nM,nB,reduceIte,reduceCtorEq,h2',h3',h5,hlt',hx]
  refine zC (hc) rfl rfl ?_
  cases hb:zBH p a x with
  | true =>
   rw[hb] at hpr
   simp +decide only[go_sem,nT,nA,nS,nM,nB,reduceIte,reduceCtorEq,h2',h3',h5]
   refine ⟨_,_,Ghost.refl,a.proofs.length-(i+1),by omega,i+1,rfl,by omega,hpr,?_,?_,?_,rfl⟩
   all_goals first | (simp +decide only[go_sem,nB,reduceIte,h2',h3'];done) | (simp +decide only[go_sem,nB,reduceIte];rw[w64 (by omega) (by omega)];rfl)
  | false =>
   have:pb=false:=by
    rw[←hpb,List.all_eq_false]
    exact ⟨x,hxm,by rw[hb];simp⟩
   subst this
   simp +decide only[go_sem,nT,nA,nS,nM,nB,reduceIte,reduceCtorEq,h2',h3',h5]
   rfl
 ·have hlt' : ((i:Int)<(a.proofs.length:Int))=False:=by simp only[eq_iff_iff,iff_false];omega
  rw[List.take_of_length_le (by omega),hpb] at hI
  subst hI
  have e2:decide ((a.fences.length:Int)=0)=decide (a.fences=[]):=by
   cases a.fences with
   | nil=>rfl
   | cons x l=>simp;omega
  unfold zGT at hlb
  unfold zMM at hnb
  rw[←e2] at hnb
  generalize zB8 (zAI a.proofs)=R at hL hlenF hlb
  generalize zAI a.proofs=sr at hRw hL
  generalize decide (a.ends=a.loose)=sm at hS hnb
  obtain ⟨r,b⟩:=R
  cases b with
  | false =>
   simp only[zGR] at hL
   simp only[Bool.false_and] at hlb
   subst hlb
   simp +decide only[go_sem,nT,nA,nS,nM,nB,reduceIte,reduceCtorEq,h2',h3',h5,hlt']
   refine zC (hRw) rfl rfl ?_
   simp +decide only[go_sem,nT,nA,nS,nM,nB,reduceIte,reduceCtorEq,h2',h3',h5]
   refine zC (hL) rfl rfl ?_
   simp +decide only[go_sem,nT,nA,nS,nM,nB,reduceIte,reduceCtorEq,h2',h3',h5]
   refine HW.tree 1 (.light 0 (.light 1 (.light 2 (.light 3 (.light 4 (.heavy 5 [] (.light 6 (.light 7 (.light 8 (.light 9 (.light 10 (.light 11 (.light 12 (.light 13 (.light 14 (.light 15 (.heavy 16 [8,9,10,11] (.light 17 (.light 18 (.light 19 .leaf))) .stop))))))))))) .stop)))))) follows (by kernel_rfl) (by kernel_rfl) ?_
   simp +decide only[go_sem,nT,nA,nS,nM,nB,reduceIte,reduceCtorEq,h2',h3',h5]
   rfl
  | true =>
   simp only[zGR] at hL
   simp only[Bool.true_and] at hlb
   have hQ:=zBn r a.fences (hlenF r rfl)
   rw[hlb] at hQ
   simp +decide only[go_sem,nT,nA,nS,nM,nB,reduceIte,reduceCtorEq,h2',h3',h5,hlt']
   refine zC (hRw) rfl rfl ?_
   simp +decide only[go_sem,nT,nA,nS,nM,nB,reduceIte,reduceCtorEq,h2',h3',h5]
   refine zC (hL) rfl rfl ?_
   simp +decide only[go_sem,nT,nA,nS,nM,nB,reduceIte,reduceCtorEq,h2',h3',h5]
   refine HW.tree 1 (.light 0 (.light 1 (.light 2 (.light 3 (.light 4 (.heavy 5 [] (.light 6 (.light 7 (.light 8 (.light 9 (.light 10 (.light 11 (.light 12 (.light 13 (.light 14 (.light 15 (.heavy 16 [8,9,10,11] (.light 17 (.light 18 (.light 19 .leaf))) .stop))))))))))) .stop)))))) follows (by kernel_rfl) (by kernel_rfl) ?_
   simp +decide only[go_sem,nT,nA,nS,nM,nB,reduceIte,reduceCtorEq,h2',h3',h5]
   refine zC (hQ) rfl rfl ?_
   cases lb with
   | false =>
    simp +decide only[go_sem,nT,nA,nS,nM,nB,reduceIte,reduceCtorEq,h2',h3',h5]
    rfl
   | true =>
    simp +decide only[go_sem,nT,nA,nS,nM,nB,reduceIte,reduceCtorEq,h2',h3',h5]
    refine zC (hS) rfl rfl ?_
    simp +decide only[go_sem,nT,nA,nS,nM,nB,reduceIte,reduceCtorEq,h2',h3',h5,hnb]
theorem zU2 {a:Ans} {g:List Int} {i:Nat} {x:Prf} (hx:a.proofs[i]?=some x) (hno:∀y∈a.proofs.take i,zAe y.slots g=true) (hm:zAe x.slots g=false):zGr a g=some x:=by
 unfold zGr
 obtain ⟨h1,e1⟩:=List.getElem?_eq_some_iff.1 hx
 rw[List.find?_eq_some_iff_getElem]
 refine ⟨by rw[hm];rfl,i,h1,e1,fun j hj=>?_⟩
 have hj1:j<a.proofs.length:=by omega
 have:=hno a.proofs[j] (List.mem_of_getElem? (i:=j) (by rw[List.getElem?_take_of_lt hj];exact List.getElem?_eq_getElem hj1))
 rw[this];rfl
theorem zU3 {a:Ans} {g:List Int} (hno:∀y∈a.proofs,zAe y.slots g=true):zGr a g=none:=by
 unfold zGr
 rw[List.find?_eq_none]
 intro x hx
 rw[hno x hx];simp
set_option maxHeartbeats 8000000 in
theorem zVz (p:Prg) (a:Ans) (g:List Int) (hp:RightP p) (ha:SmallA a) (hg:g.length≤10000):HFn Tryz.prog 12 [prgH p,ansH a,.sl (ints g)] (zF6 p a g):=by
 have hpl:=ha.proofs
 refine zA (fn:=Tryz.f12) 41 [6,7] (by kernel_rfl) rfl (by kernel_rfl) (HW.run 400 (by kernel_rfl) ?_)
 simp +decide only[go_sem,nT,nA,nS,nM,nB,reduceIte,reduceCtorEq]
 refine HW.loopG (fun k T H=>∃i:Nat,k=a.proofs.length-i∧i≤a.proofs.length∧(∀y∈a.proofs.take i,zAe y.slots g=true)∧T 2=.sl (ints g)∧T 3=.pt 0 1 0 0∧T 4=.pt 1 1 0 0∧T 8=.v (.int .i64 i)∧H=[some ⟨25,2,[[.sl (ints p.init),.sl (thrs p.thr)]]⟩,some ⟨29,5,[[.sl (ints a.fences),.sl (pfs a.proofs),.sl (ots a.ends),.sl (ots a.loose),.v (.int .i64 a.states)]]⟩]) a.proofs.length ⟨_,_,Ghost.refl,0,rfl,by omega,by simp,rfl,rfl,rfl,rfl,rfl⟩ ?_
 rintro k T H ⟨i,rfl,hi,hI,h2,h3,h4,h8,rfl⟩
 refine HW.run 200 (by kernel_rfl) ?_
 by_cases hlt:i<a.proofs.length
 ·have hlt' : ((i:Int)<(a.proofs.length:Int))=True:=by simp only[eq_iff_iff,iff_true];omega
  have hx:a.proofs[i]?=some a.proofs[i]:=List.getElem?_eq_getElem hlt
  have hxm:=List.getElem_mem hlt
  generalize a.proofs[i]=x at hx hxm
  have hc:=zRy x.slots g (by have:=ha.slots x hxm;omega) (by omega)
  simp +decide only[go_sem,nT,nA,nS,nM,nB,reduceIte,reduceCtorEq,h2,h3,h4,h8,hlt',hx]
  refine zC (hc) rfl rfl ?_
  cases hb:zAe x.slots g with
  | true =>
   simp +decide only[go_sem,nT,nA,nS,nM,nB,reduceIte,reduceCtorEq,h2,h3,h4,h8]
   refine ⟨_,_,Ghost.refl,a.proofs.length-(i+1),by omega,i+1,rfl,by omega,?_,?_,?_,?_,?_,rfl⟩
   ·intro y hy
    rw[List.take_add_one,hx,List.mem_append] at hy
    rcases hy with hy | hy
    ·exact hI y hy
    ·simp at hy;rw[hy];exact hb
   all_goals first | (simp +decide only[go_sem,nB,reduceIte,h2,h3,h4];done) | (simp +decide only[go_sem,nB,reduceIte];rw[w64 (by omega) (by omega)];rfl)
  | false =>
   have hbt:=zU2 hx hI hb
   have hR:HFn Tryz.prog 36 [prgH p,.sl (ints g),.sl (pcks x.picks)] (.tu [.sl (pcks ((zAB p g (zG p) [] x.picks).getD [])),.v (.bool (zAB p g (zG p) [] x.picks).isSome)]):=HFn.shut (zVr p g x.picks hp hg (ha.picks x hxm)) (by simp only[fzo,fzoL,zCp])
   have hbh:zF6 p a g=.tu [.sl (pcks ((zAB p g (zG p) [] x.picks).getD [])),.v (.bool (zAB p g (zG p) [] x.picks).isSome)]:=by
    unfold zF6;rw[hbt]
   rw[hbh]
   generalize (zAB p g (zG p) [] x.picks).isSome=q1 at hR
   generalize (zAB p g (zG p) [] x.picks).getD []=l1 at hR
   simp +decide only[go_sem,nT,nA,nS,nM,nB,reduceIte,reduceCtorEq,h2,h3,h4,h8]
   refine HW.tree 1 (.light 0 (.light 1 (.light 2 (.light 3 (.light 4 (.light 5 (.light 6 (.light 7 (.heavy 8 [] (.light 9 (.light 10 (.light 11 (.light 12 (.light 13 .leaf))))) .stop))))))))) follows (by kernel_rfl) (by kernel_rfl) ?_
   simp +decide only[go_sem,nT,nA,nS,nM,nB,reduceIte,reduceCtorEq,h2,h3,h4,h8,hlt',hx]
   refine zC (hR) rfl rfl ?_
   simp +decide only[go_sem,nT,nA,nS,nM,nB,reduceIte,reduceCtorEq,h2,h3,h4,h8]
 ·have hlt' : ((i:Int)<(a.proofs.length:Int))=False:=by simp only[eq_iff_iff,iff_false];omega
  rw[List.take_of_length_le (by omega)] at hI
  have hbh:zF6 p a g=.tu [.v (.slice none 0 0),.v (.bool false)]:=by
   unfold zF6;rw[zU3 hI]
  rw[hbh]
  simp +decide only[go_sem,nT,nA,nS,nM,nB,reduceIte,reduceCtorEq,h2,h3,h4,h8,hlt']
end Go.Proofs.YtoknohandclcbaaGreat
namespace Go.Proofs.YtoknohandclcbaaGreat
open Go.RowKit
set_option maxRecDepth 8000
def bigO (o:Ot):Bool:=decide (100<o.mem.length) || decide (100<o.regs.length)
def zF5 (l:List Ot):Bool:=decide (150<l.length) || l.any bigO
theorem zDN {l:List Ot} (h:zF5 l=false):l.length≤150∧∀o∈l,o.mem.length≤100∧o.regs.length≤100:=by
 unfold zF5 at h
 rw[Bool.or_eq_false_iff,List.any_eq_false] at h
 refine ⟨by simpa using h.1,fun o ho=>?_⟩
 have:=h.2 o ho
 unfold bigO at this
 simp at this
 exact this
theorem zDj {l:List Ot} (h:zF5 l=false):∀o∈l,SmallO o:=fun o ho=>by
 obtain ⟨h1,h2⟩:=(zDN h).2 o ho
 exact ⟨by omega,by omega⟩
set_option maxHeartbeats 4000000 in
theorem zSa (l:List Ot):HFn Tryz.prog 22 [.sl (ots l)] (.v (.bool (zF5 l))):=by
 unfold zF5
 refine zA (fn:=Tryz.f22) 29 [2] (by kernel_rfl) rfl (by kernel_rfl) (HW.run 400 (by kernel_rfl) ?_)
 by_cases hn:150<l.length
 ·have hn' : ((150:Int)<(l.length:Int))=True:=by simp only[eq_iff_iff,iff_true];omega
  simp +decide only[go_sem,nT,nA,nS,nM,nB,reduceIte,reduceCtorEq,hn']
  exact vb (by simp[hn])
 ·have hn' : ((150:Int)<(l.length:Int))=False:=by simp only[eq_iff_iff,iff_false];omega
  rw[show decide (150<l.length)=false from decide_eq_false hn,Bool.false_or]
  simp +decide only[go_sem,nT,nA,nS,nM,nB,reduceIte,reduceCtorEq,hn']
  refine HW.loopG (fun k T H=>∃i:Nat,k=l.length-i∧i≤l.length∧(l.take i).any bigO=false∧T 0=.sl (ots l)∧T 3=.v (.int .i64 i)∧H=[]) l.length ⟨_,_,Ghost.refl,0,rfl,by omega,by simp,rfl,rfl,rfl⟩ ?_
  rintro k T H ⟨i,rfl,hi,hno,h0,h3,rfl⟩
  refine HW.run 200 (by kernel_rfl) ?_
  by_cases hlt:i<l.length
  ·have hlt' : ((i:Int)<(l.length:Int))=True:=by simp only[eq_iff_iff,iff_true];omega
   have hx:l[i]?=some l[i]:=List.getElem?_eq_getElem hlt
   have hxm:=List.getElem_mem hlt
   generalize l[i]=x at hx hxm
   have hany:bigO x=true→l.any bigO=true:=fun h=>List.any_eq_true.2 ⟨x,hxm,h⟩
   by_cases c1:100<x.mem.length
   ·have c1' : ((100:Int)<(x.mem.length:Int))=True:=by simp only[eq_iff_iff,iff_true];omega
    rw[hany (by simp[bigO,c1])]
    simp +decide only[go_sem,nT,nA,nS,nM,nB,reduceIte,reduceCtorEq,h0,h3,hlt',hx,c1']
   ·have c1' : ((100:Int)<(x.mem.length:Int))=False:=by simp only[eq_iff_iff,iff_false];omega
    by_cases c2:100<x.regs.length
    ·have c2' : ((100:Int)<(x.regs.length:Int))=True:=by simp only[eq_iff_iff,iff_true];omega
     rw[hany (by simp[bigO,c2])]
     simp +decide only[go_sem,nT,nA,nS,nM,nB,reduceIte,reduceCtorEq,h0,h3,hlt',hx,c1',c2']
    ·have c2' : ((100:Int)<(x.regs.length:Int))=False:=by simp only[eq_iff_iff,iff_false];omega
     simp +decide only[go_sem,nT,nA,nS,nM,nB,reduceIte,reduceCtorEq,h0,h3,hlt',hx,c1',c2']
     refine ⟨_,_,Ghost.refl,l.length-(i+1),by omega,i+1,rfl,by omega,?_,?_,?_,rfl⟩
     ·rw[List.take_add_one,hx,List.any_append,hno]
      simp[bigO];omega
     all_goals first | (simp +decide only[go_sem,nB,reduceIte,h0];done) | (simp +decide only[go_sem,nB,reduceIte];rw[w64 (by omega) (by omega)];rfl)
  ·have hlt' : ((i:Int)<(l.length:Int))=False:=by simp only[eq_iff_iff,iff_false];omega
   rw[List.take_of_length_le (by omega)] at hno
   rw[hno]
   simp +decide only[go_sem,nT,nA,nS,nM,nB,reduceIte,reduceCtorEq,h0,h3,hlt']
def zCG (l:List (List Int)):Nat:=(l.map fun r=>min r.length 100).sum
def zG2 (l:List (List Int)):Bool:=decide (8<l.length) || decide (16<zCG l)
theorem zOk {l:List (List Int)} {x:List Int}:zCG (l++[x])=zCG l+min x.length 100:=by simp[zCG]
theorem zVR {l:List (List Int)}:zCG l≤100*l.length:=by
 induction l with
 | nil=>simp[zCG]
 | cons x l ih=>simp only[zCG,List.map_cons,List.sum_cons,List.length_cons] at ih⊢;omega
theorem zPj {l:List (List Int)} (h:zG2 l=false):l.length≤8∧l.flatten.length≤16∧∀r∈l,r.length≤16:=by
 unfold zG2 at h
 rw[Bool.or_eq_false_iff] at h
 have h1:l.length≤8:=by simpa using h.1
 have h2:zCG l≤16:=by simpa using h.2
 refine ⟨h1,?_,?_⟩
 ·clear h h1
  have:∀l:List (List Int),zCG l≤16→l.flatten.length=zCG l:=by
   intro l
   induction l with
   | nil=>intro _;rfl
   | cons x l ih =>
    intro h
    simp only[zCG,List.map_cons,List.sum_cons] at h ih⊢
    have:=ih (by omega)
    simp only[List.flatten_cons,List.length_append,this];omega
  rw[this l h2];exact h2
 ·intro r hr
  have:min r.length 100≤zCG l:=by
   clear h h1 h2
   induction l with
   | nil=>cases hr
   | cons x l ih =>
    simp only[zCG,List.map_cons,List.sum_cons] at ih⊢
    rcases List.mem_cons.1 hr with rfl | hr
    ·omega
    ·have:=ih hr;omega
  omega
set_option maxHeartbeats 4000000 in
theorem zP4 (l:List (List Int)):HFn Tryz.prog 29 [.sl (rws l)] (.v (.bool (zG2 l))):=by
 unfold zG2
 refine zA (fn:=Tryz.f29) 24 [2] (by kernel_rfl) rfl (by kernel_rfl) (HW.run 400 (by kernel_rfl) ?_)
 by_cases hn:8<l.length
 ·have hn' : ((8:Int)<(l.length:Int))=True:=by simp only[eq_iff_iff,iff_true];omega
  simp +decide only[go_sem,nT,nA,nS,nM,nB,reduceIte,reduceCtorEq,hn']
  exact vb (by simp[hn])
 ·have hn' : ((8:Int)<(l.length:Int))=False:=by simp only[eq_iff_iff,iff_false];omega
  rw[show decide (8<l.length)=false from decide_eq_false hn,Bool.false_or]
  simp +decide only[go_sem,nT,nA,nS,nM,nB,reduceIte,reduceCtorEq,hn']
  refine HW.loopG (fun k T H=>∃i:Nat,k=l.length-i∧i≤l.length∧T 0=.sl (rws l)∧T 3=.v (.int .i64 (zCG (l.take i)))∧T 4=.v (.int .i64 i)∧H=[]) l.length ⟨_,_,Ghost.refl,0,rfl,by omega,rfl,rfl,rfl,rfl⟩ ?_
  rintro k T H ⟨i,rfl,hi,h0,h3,h4,rfl⟩
  refine HW.run 200 (by kernel_rfl) ?_
  by_cases hlt:i<l.length
  ·have hlt' : ((i:Int)<(l.length:Int))=True:=by simp only[eq_iff_iff,iff_true];omega
   have hx:l[i]?=some l[i]:=List.getElem?_eq_getElem hlt
   generalize l[i]=x at hx
   have htk:zCG (l.take (i+1))=zCG (l.take i)+min x.length 100:=by
    rw[List.take_add_one,hx];exact zOk
   have hs:zCG (l.take i)≤800:=by have:=zVR (l:=l.take i);simp only[List.length_take] at this;omega
   have hmin:(if (100:Int)<(x.length:Int) then (100:Int) else (x.length:Int))=((min x.length 100:Nat):Int):=by split <;> omega
   have w1:IntKind.i64.wrap (((zCG (l.take i):Nat):Int)+((min x.length 100:Nat):Int))=((zCG (l.take (i+1)):Nat):Int):=by rw[htk,w64 (by omega) (by omega)];omega
   by_cases c1:100<x.length
   ·have c1' : ((100:Int)<(x.length:Int))=True:=by simp only[eq_iff_iff,iff_true];omega
    have e1:min x.length 100=100:=by omega
    rw[e1] at w1
    simp +decide only[go_sem,nT,nA,nS,nM,nB,reduceIte,reduceCtorEq,h0,h3,h4,hlt',hx,c1',w1]
    refine ⟨_,_,Ghost.refl,l.length-(i+1),by omega,i+1,rfl,by omega,?_,?_,?_,rfl⟩
    all_goals first | (simp +decide only[go_sem,nB,reduceIte,h0];done) | (simp +decide only[go_sem,nB,reduceIte];rw[w64 (by omega) (by omega)];rfl) | (simp +decide only[go_sem,nB,reduceIte];exact congrArg (fun z=>HV.v (.int .i64 z)) w1)
   ·have c1' : ((100:Int)<(x.length:Int))=False:=by simp only[eq_iff_iff,iff_false];omega
    have e1:min x.length 100=x.length:=by omega
    rw[e1] at w1
    simp +decide only[go_sem,nT,nA,nS,nM,nB,reduceIte,reduceCtorEq,h0,h3,h4,hlt',hx,c1',w1]
    refine ⟨_,_,Ghost.refl,l.length-(i+1),by omega,i+1,rfl,by omega,?_,?_,?_,rfl⟩
    all_goals first | (simp +decide only[go_sem,nB,reduceIte,h0];done) | (simp +decide only[go_sem,nB,reduceIte];rw[w64 (by omega) (by omega)];rfl) | (simp +decide only[go_sem,nB,reduceIte];exact congrArg (fun z=>HV.v (.int .i64 z)) w1)
  ·have hlt' : ((i:Int)<(l.length:Int))=False:=by simp only[eq_iff_iff,iff_false];omega
   rw[List.take_of_length_le (by omega)] at h3
   have e:decide ((16:Int)<((zCG l:Nat):Int))=decide (16<zCG l):=by simp;omega
   simp +decide only[go_sem,nT,nA,nS,nM,nB,reduceIte,reduceCtorEq,h0,h3,h4,hlt',e]
def zDc (p:Prg):Bool:=zEN p || decide (12<z1 p.thr p.thr.length)
theorem zP3 (p:Prg):HFn Tryz.prog 16 [prgH p] (.v (.bool (zDc p))):=by
 refine zA (fn:=Tryz.f16) 10 [2] (by kernel_rfl) rfl (by kernel_rfl) (HW.run 400 (by kernel_rfl) ?_)
 simp +decide only[go_sem,nT,nA,nS,nM,nB,reduceIte,reduceCtorEq]
 refine zC (zS8 p) rfl rfl ?_
 cases hg:zEN p with
 | true =>
  simp +decide only[go_sem,nT,nA,nS,nM,nB,reduceIte,reduceCtorEq]
  exact vb (by unfold zDc;rw[hg];rfl)
 | false =>
  simp +decide only[go_sem,nT,nA,nS,nM,nB,reduceIte,reduceCtorEq]
  refine zC (zZG p (zKV hg).1.small) rfl rfl ?_
  simp +decide only[go_sem,nT,nA,nS,nM,nB,reduceIte,reduceCtorEq]
  exact vb (by unfold zDc;rw[hg,Bool.false_or];simp;omega)
def zHk (x:Prf):Bool:=decide (120<x.picks.length) || decide (60<x.slots.length) || zF5 [x.out]
def zEv (p:Prg) (a:Ans):Bool:=(zDc p || zF5 a.ends || zF5 a.loose || decide (20<a.proofs.length) || decide (60<a.fences.length)) || (a.proofs.any zHk || zG2 (zAI a.proofs))
theorem zHl {p:Prg} {a:Ans} (h:zEv p a=false):RightP p∧z4g p∧SmallA a∧a.ends.length≤150∧a.loose.length≤150∧a.fences.length≤60∧a.proofs.length≤20∧zDc p=false∧∀x∈a.proofs,x.picks.length≤120∧x.slots.length≤60∧x.out.regs.length≤100:=by
 unfold zEv at h
 simp only[Bool.or_eq_false_iff] at h
 obtain ⟨⟨⟨⟨⟨h1,h2⟩,h3⟩,h4⟩,h5⟩,h6,h7⟩:=h
 have h1':=h1
 unfold zDc at h1
 rw[Bool.or_eq_false_iff] at h1
 obtain ⟨g1,g2⟩:=zKV h1.1
 have e4:a.proofs.length≤20:=by simpa using h4
 have e5:a.fences.length≤60:=by simpa using h5
 rw[List.any_eq_false] at h6
 have hX:∀x∈a.proofs,x.picks.length≤120∧x.slots.length≤60∧SmallO x.out∧x.out.regs.length≤100:=fun x hx=>by
  have:=h6 x hx
  unfold zHk at this
  simp only[Bool.or_eq_true,not_or,Bool.not_eq_true,decide_eq_true_eq,Nat.not_lt] at this
  exact ⟨this.1.1,this.1.2,zDj this.2 x.out (by simp),((zDN this.2).2 x.out (by simp)).2⟩
 obtain ⟨k1,k2,k3⟩:=zPj h7
 refine ⟨g1,g2,⟨by have:=(zDN h2).1;omega,zDj h2,by have:=(zDN h3).1;omega,zDj h3,by omega,fun x hx=>by have:=(hX x hx).1;omega,fun x hx=>by have:=(hX x hx).2.1;omega,fun x hx=>(hX x hx).2.2.1,by omega,by omega⟩,(zDN h2).1,(zDN h3).1,e5,e4,h1',fun x hx=>⟨(hX x hx).1,(hX x hx).2.1,(hX x hx).2.2.2⟩⟩
end Go.Proofs.YtoknohandclcbaaGreat
namespace Go.Proofs.YtoknohandclcbaaGreat
open Go.RowKit
set_option maxRecDepth 8000
set_option maxHeartbeats 8000000 in
theorem zP2 (p:Prg) (a:Ans):HFn Tryz.prog 10 [prgH p,ansH a] (.v (.bool (zEv p a))):=by
 have h1:=zP3 p
 have h2:=zSa a.ends
 have h3:=zSa a.loose
 have e4:decide ((20:Int)<(a.proofs.length:Int))=decide (20<a.proofs.length):=by simp;omega
 have e5:decide ((60:Int)<(a.fences.length:Int))=decide (60<a.fences.length):=by simp;omega
 unfold zEv
 generalize zDc p=b1 at h1
 generalize zF5 a.ends=b2 at h2
 generalize zF5 a.loose=b3 at h3
 generalize h4:decide (20<a.proofs.length)=b4 at e4
 generalize decide (60<a.fences.length)=b5 at e5
 refine zA (fn:=Tryz.f10) 63 [4] (by kernel_rfl) rfl (by kernel_rfl) (HW.run 400 (by kernel_rfl) ?_)
 simp +decide only[go_sem,nT,nA,nS,nM,nB,reduceIte,reduceCtorEq]
 refine zC (h1) rfl rfl ?_
 cases b1 with
 | true =>
  simp +decide only[go_sem,nT,nA,nS,nM,nB,reduceIte,reduceCtorEq]
  try rfl
 | false =>
 simp +decide only[go_sem,nT,nA,nS,nM,nB,reduceIte,reduceCtorEq]
 refine zC (h2) rfl rfl ?_
 cases b2 with
 | true =>
  simp +decide only[go_sem,nT,nA,nS,nM,nB,reduceIte,reduceCtorEq]
  try rfl
 | false =>
 simp +decide only[go_sem,nT,nA,nS,nM,nB,reduceIte,reduceCtorEq]
 refine zC (h3) rfl rfl ?_
 cases b3 with
 | true =>
  simp +decide only[go_sem,nT,nA,nS,nM,nB,reduceIte,reduceCtorEq]
  try rfl
 | false =>
 cases b4 with
 | true =>
  simp +decide only[go_sem,nT,nA,nS,nM,nB,reduceIte,reduceCtorEq,e4]
  try rfl
 | false =>
 cases b5 with
 | true =>
  simp +decide only[go_sem,nT,nA,nS,nM,nB,reduceIte,reduceCtorEq,e4,e5]
  try rfl
 | false =>
 have hpl:a.proofs.length≤20:=by simpa using h4
 simp +decide only[go_sem,nT,nA,nS,nM,nB,reduceIte,reduceCtorEq,e4,e5]
 refine HW.loopG (fun k T H=>∃i:Nat,k=a.proofs.length-i∧i≤a.proofs.length∧(a.proofs.take i).any zHk=false∧T 3=.pt 1 1 0 0∧T 5=.v (.int .i64 i)∧H=[some ⟨25,2,[[.sl (ints p.init),.sl (thrs p.thr)]]⟩,some ⟨29,5,[[.sl (ints a.fences),.sl (pfs a.proofs),.sl (ots a.ends),.sl (ots a.loose),.v (.int .i64 a.states)]]⟩]) a.proofs.length ⟨_,_,Ghost.refl,0,rfl,by omega,by simp,rfl,rfl,rfl⟩ ?_
 rintro k T H ⟨i,rfl,hi,hno,h3,h5,rfl⟩
 refine HW.run 200 (by kernel_rfl) ?_
 by_cases hlt:i<a.proofs.length
 ·have hlt' : ((i:Int)<(a.proofs.length:Int))=True:=by simp only[eq_iff_iff,iff_true];omega
  have hx:a.proofs[i]?=some a.proofs[i]:=List.getElem?_eq_getElem hlt
  have hxm:=List.getElem_mem hlt
  generalize a.proofs[i]=x at hx hxm
  have hany:zHk x=true→a.proofs.any zHk=true:=fun h=>List.any_eq_true.2 ⟨x,hxm,h⟩
  have hB:=zSa [x.out]
  have e6:decide ((120:Int)<(x.picks.length:Int))=decide (120<x.picks.length):=by simp;omega
  have e7:decide ((60:Int)<(x.slots.length:Int))=decide (60<x.slots.length):=by simp;omega
  have hgx:zHk x=(decide (120<x.picks.length) || decide (60<x.slots.length) || zF5 [x.out]):=rfl
  generalize decide (120<x.picks.length)=c1 at e6 hgx
  generalize decide (60<x.slots.length)=c2 at e7 hgx
  generalize zF5 [x.out]=c3 at hB hgx
  cases c1 with
  | true =>
   rw[hany hgx]
   simp +decide only[go_sem,nT,nA,nS,nM,nB,reduceIte,reduceCtorEq,h3,h5,hlt',hx,e6]
   try rfl
  | false =>
  cases c2 with
  | true =>
   rw[hany hgx]
   simp +decide only[go_sem,nT,nA,nS,nM,nB,reduceIte,reduceCtorEq,h3,h5,hlt',hx,e6,e7]
   try rfl
  | false =>
  simp +decide only[go_sem,nT,nA,nS,nM,nB,reduceIte,reduceCtorEq,h3,h5,hlt',hx,e6,e7]
  refine zJ 3 hB (by simp only[go_sem];rfl) rfl ?_
  cases c3 with
  | true =>
   rw[hany hgx]
   simp +decide only[go_sem,nT,nA,nS,nM,nB,reduceIte,reduceCtorEq,h3,h5]
   try rfl
  | false =>
   simp +decide only[go_sem,nT,nA,nS,nM,nB,reduceIte,reduceCtorEq,h3,h5]
   refine ⟨_,_,Ghost.trunc [3,5] 2 (by omega) ?_ ?_,a.proofs.length-(i+1),by omega,i+1,rfl,by omega,?_,?_,?_,?_⟩
   ·simp +decide only[go_sem,nB,reduceIte,h3]
   ·simp +decide only[go_sem,nB,reduceIte]
   ·rw[List.take_add_one,hx,List.any_append,hno]
    simp[hgx]
   ·simp +decide only[go_sem,nB,reduceIte,h3]
   ·simp +decide only[go_sem,nB,reduceIte];rw[w64 (by omega) (by omega)];rfl
   ·simp +decide only[go_sem,nT,nA,nS,nM,nB,reduceIte,reduceCtorEq]
 ·have hlt' : ((i:Int)<(a.proofs.length:Int))=False:=by simp only[eq_iff_iff,iff_false];omega
  rw[List.take_of_length_le (by omega)] at hno
  rw[hno]
  simp +decide only[go_sem,nT,nA,nS,nM,nB,reduceIte,reduceCtorEq,h3,h5,hlt']
  refine zC (zRv a.proofs (by omega)) rfl rfl ?_
  simp +decide only[go_sem,nT,nA,nS,nM,nB,reduceIte,reduceCtorEq,h3,h5]
  refine zC (zP4 (zAI a.proofs)) rfl rfl ?_
  simp +decide only[go_sem,nT,nA,nS,nM,nB,reduceIte,reduceCtorEq,h3,h5]
  try rfl
end Go.Proofs.YtoknohandclcbaaGreat
namespace Go.Proofs.YtoknohandclcbaaGreat
open Go.RowKit
theorem Ghost.shutOw {N L:Nat} {T:Nat→HV} {H:Heap} (id i c:Nat) {e:TypeId} {sz:Nat} {rows:List (List HV)} {ob:HObj} {row:List HV} (ho:H[id]?=some (some ob)) (hr:ob.rows[i]?=some row) (hc:row[c]?=some (.ow e sz rows)) :
  Ghost N L T H T (H.set id (some { ob with rows:=ob.rows.set i (row.set c (.sl (fzoR rows))) })):=fun B Z G FP ds a w hL hs=>by
 obtain ⟨g,hg,hob⟩:=hs.inv.live id ob ho
 obtain ⟨y,fx,fa,hv,hperm,hsw⟩:=hob.swap hr hc (fun u hu=>by cases hu)
 have hnd:=(hperm.nodup_iff.1 (hs.inv.nodup id))
 rw[List.nodup_append] at hnd
 obtain ⟨fp1,hob1,hp1⟩:=hsw G (.v y) [] (GLe.refl _) (by simp[RV])
 simp only[List.nil_append] at hp1
 have hin:∀b,b∈fp1→b∈FP id:=fun b hb=>hperm.mem_iff.2 (List.mem_append.2 (.inr (hp1.mem_iff.1 hb)))
 have hfx:∀b,b∈fx→b∈FP id:=fun b hb=>hperm.mem_iff.2 (List.mem_append.2 (.inl hb))
 have hi1:=hs.inv.say ho hg hob1 (hp1.nodup_iff.2 hnd.2.1) (fun b hb=>⟨hs.inv.zfp id b (hin b hb),hs.inv.flt id b (hin b hb),fun j hj hc=>hj (hs.inv.disj j id b hc (hin b hb))⟩)
 have hi2:=hi1.zmore (Z':=fun b=>Z b∨b∈fx) (fun b hb=>.inl hb) (fun b hb=>by
  rcases hb with hb | hb
  ·exact hs.inv.zlt b hb
  ·exact hs.inv.flt id b (hfx b hb)) (fun j b hj hz=>by
  by_cases ej:j=id
  ·simp only[if_pos ej] at hj
   rcases hz with hz | hz
   ·exact hs.inv.zfp id b (hin b hj) hz
   ·exact hnd.2.2 b hz b (hp1.mem_iff.1 hj) rfl
  ·simp only[if_neg ej] at hj
   rcases hz with hz | hz
   ·exact hs.inv.zfp j b hj hz
   ·exact ej (hs.inv.disj j id b hj (hfx b hz)))
 have hlt:id<H.length:=(List.getElem?_eq_some_iff.1 ho).1
 have ho1:(H.set id (some { ob with rows:=ob.rows.set i (row.set c (.v y)) }))[id]?=some (some { ob with rows:=ob.rows.set i (row.set c (.v y)) }):=by simp[hlt]
 have hil:i<ob.rows.length:=(List.getElem?_eq_some_iff.1 hr).1
 have hcl:c<row.length:=(List.getElem?_eq_some_iff.1 hc).1
 have hr1:(ob.rows.set i (row.set c (.v y)))[i]?=some (row.set c (.v y)):=by simp[hil]
 have hc1:(row.set c (HV.v y))[c]?=some (.v y):=by simp[hcl]
 obtain ⟨g2,hg2,hob2⟩:=hi2.live id _ ho1
 obtain ⟨y2,fx2,fa2,hv2,hperm2,hsw2⟩:=hob2.swap hr1 hc1 (fun u hu=>by cases hu)
 simp only[RV] at hv2
 obtain ⟨e1,e2⟩:=hv2
 subst e1 e2
 have hfz:RV (fun b=>Z b∨b∈fx) [] w (.sl (fzoR rows)) y2 []:=zBX (Z':=fun b=>Z b∨b∈fx) (.ow e sz rows) G y2 fx ⟨fun b hb=>.inl hb,fun b hb=>.inr hb⟩ hv
 have hfz' : RV (fun b=>Z b∨b∈fx) G w (.sl (fzoR rows)) y2 []:=RV.nil_keep (fun _ _=>rfl) (fun _ h=>h) (zBI G) hfz
 obtain ⟨fp2,hob3,hp2⟩:=hsw2 G _ [] (GLe.refl _) hfz'
 simp only[List.nil_append] at hp2 hperm2
 have hp3:=hp2.trans hperm2.symm
 simp only[if_pos] at hp3
 have hi3:=hi2.say ho1 hg2 hob3 (hp3.nodup_iff.2 (hp1.nodup_iff.2 hnd.2.1)) (fun b hb=>by
  have hb1:=hp3.mem_iff.1 hb
  refine ⟨fun hz=>?_,hs.inv.flt id b (hin b hb1),fun j hj hcj=>?_⟩
  ·rcases hz with hz | hz
   ·exact hs.inv.zfp id b (hin b hb1) hz
   ·exact hnd.2.2 b hz b (hp1.mem_iff.1 hb1) rfl
  ·simp only[if_neg hj] at hcj
   exact hj (hs.inv.disj j id b hcj (hin b hb1)))
 simp only[List.set_set] at hi3
 have hE:Evo Z FP w (fun b=>Z b∨b∈fx) (fun j=>if j=id then fp2 else if j=id then fp1 else FP j) w:=⟨rfl,rfl,rfl,Nat.le_refl _,fun _ _ _=>rfl,fun _ h=>.inl h,fun b hb=>by
  rcases hb with hb | hb
  ·exact .inl hb
  ·exact .inr (.inr ⟨id,hfx b hb⟩),fun j b hb=>by
  by_cases ej:j=id
  ·simp only[if_pos ej] at hb;exact .inr ⟨id,hin b (hp3.mem_iff.1 hb)⟩
  ·simp only[if_neg ej] at hb;exact .inr ⟨j,hb⟩⟩
 exact ⟨_,G,_,hs.evo hi3 (GLe.refl _) hE,GLt.refl hL,hE⟩
theorem Ghost.shutHd {N L:Nat} {T:Nat→HV} {H:Heap} (id i c:Nat) {j len:Nat} {ob oj:HObj} {row:List HV} (ho:H[id]?=some (some ob)) (hr:ob.rows[i]?=some row) (hc:row[c]?=some (.hd j 0 len)) (hj:H[j]?=some (some oj)) (h1:j≠id) (h2:len=oj.rows.length) (h3:nmR 0 oj.rows=true) :
  Ghost N L T H T ((H.set j none).set id (some { ob with rows:=ob.rows.set i (row.set c (.sl (fzoR oj.rows))) })):=by
 have hlt:id<(H.set j none).length:=by rw[List.length_set];exact (List.getElem?_eq_some_iff.1 ho).1
 have hil:i<ob.rows.length:=(List.getElem?_eq_some_iff.1 hr).1
 have hcl:c<row.length:=(List.getElem?_eq_some_iff.1 hc).1
 have g1:=Ghost.absorbHd (N:=N) (L:=L) (T:=T) id i c ho hr hc hj h1 h2 h3
 have g2:=g1.trans (Ghost.shutOw id i c (e:=oj.e) (sz:=oj.sz) (rows:=oj.rows) (ob:={ ob with rows:=ob.rows.set i (row.set c (.ow oj.e oj.sz oj.rows)) }) (row:=row.set c (.ow oj.e oj.sz oj.rows)) (by simp only[List.getElem?_set,hlt,if_true]) (by simp[hil]) (by simp[hcl]))
 simpa only[List.set_set] using g2
end Go.Proofs.YtoknohandclcbaaGreat
namespace Go.Proofs.YtoknohandclcbaaGreat
open Go.RowKit
set_option maxRecDepth 8000
abbrev zer8:List Int:=List.replicate 8 0
def endA:Ot:=⟨[1,1],zer8⟩
def oneA:Ans:=⟨[1],[⟨loose,endA,[1,3]⟩],[],[endA],0⟩
abbrev oneR:HV:=.ag [zB1 [1],.ow 50 4 [[.sl (pcks loose),.sl (ints [1,1]),.sl (ints zer8),.sl (ints [1,3])]],.v (.slice none 0 0),.ow 44 2 [[.sl (ints [1,1]),.sl (ints zer8)]],.v (.int .i64 0)]
set_option maxHeartbeats 8000000 in
theorem zY3:HFn Tryz.prog 28 [] oneR:=by
 refine zS (fn:=Tryz.f28) 14 [.cell 0 29] (by kernel_rfl) rfl rfl (by kernel_rfl) (HW.weaken (Q':=fun e=>GQ _ _ (endC _ _ _ _ e)) (HW.run 400 (by kernel_rfl) ?_) (fun _ _ _ h=>h))
 simp +decide only[go_sem,nT,nA,nS,nM,nB,reduceIte,reduceCtorEq]
 refine HW.ghost ((Ghost.shutHd 3 0 0 (j:=1) (len:=2) rfl rfl rfl rfl (by decide) rfl rfl).trans (Ghost.shutHd 3 0 1 (j:=2) (len:=8) rfl rfl rfl rfl (by decide) rfl rfl)) ?_
 refine HW.tree 1 (.light 2 (.light 6 (.heavy 0 [2,6] (.heavy 1 [2,6] (.heavy 3 [2,6] (.light 4 (.heavy 5 [6] (.heavy 7 [2,4] (.light 8 (.heavy 9 [] .leaf .stop)) .stop) (.heavy 7 [2,4] (.heavy 5 [6] (.light 8 (.heavy 9 [] .leaf .stop)) .stop) .stop))) (.heavy 7 [2] (.heavy 3 [2,6] (.light 4 (.heavy 5 [6] (.light 8 (.heavy 9 [] .leaf .stop)) .stop)) .stop) .stop)) (.heavy 3 [2,6] (.heavy 1 [2,6] (.light 4 (.heavy 5 [6] (.heavy 7 [2,4] (.light 8 (.heavy 9 [] .leaf .stop)) .stop) (.heavy 7 [2,4] (.heavy 5 [6] (.light 8 (.heavy 9 [] .leaf .stop)) .stop) .stop))) (.heavy 7 [2] (.heavy 1 [2,6] (.light 4 (.heavy 5 [6] (.light 8 (.heavy 9 [] .leaf .stop)) .stop)) .stop) .stop)) (.heavy 7 [2] (.heavy 1 [2,6] (.heavy 3 [2,6] (.light 4 (.heavy 5 [6] (.light 8 (.heavy 9 [] .leaf .stop)) .stop)) .stop) (.heavy 3 [2,6] (.heavy 1 [2,6] (.light 4 (.heavy 5 [6] (.light 8 (.heavy 9 [] .leaf .stop)) .stop)) .stop) .stop)) .stop))) (.heavy 1 [2,6] (.heavy 0 [2,6] (.heavy 3 [2,6] (.light 4 (.heavy 5 [6] (.heavy 7 [2,4] (.light 8 (.heavy 9 [] .leaf .stop)) .stop) (.heavy 7 [2,4] (.heavy 5 [6] (.light 8 (.heavy 9 [] .leaf .stop)) .stop) .stop))) (.heavy 7 [2] (.heavy 3 [2,6] (.light 4 (.heavy 5 [6] (.light 8 (.heavy 9 [] .leaf .stop)) .stop)) .stop) .stop)) (.heavy 3 [2,6] (.light 4 (.heavy 0 [2,4,6] (.heavy 5 [6] (.heavy 7 [2,4] (.light 8 (.heavy 9 [] .leaf .stop)) .stop) (.heavy 7 [2,4] (.heavy 5 [6] (.light 8 (.heavy 9 [] .leaf .stop)) .stop) .stop)) (.heavy 5 [6] (.heavy 0 [2,4,6] (.heavy 7 [2,4] (.light 8 (.heavy 9 [] .leaf .stop)) .stop) (.heavy 7 [2,4] (.heavy 0 [2,4,6] (.light 8 (.heavy 9 [] .leaf .stop)) .stop) .stop)) (.heavy 7 [2,4] (.heavy 0 [2,4,6] (.heavy 5 [6] (.light 8 (.heavy 9 [] .leaf .stop)) .stop) (.heavy 5 [6] (.heavy 0 [2,4,6] (.light 8 (.heavy 9 [] .leaf .stop)) .stop) .stop)) .stop)))) (.heavy 7 [2] (.heavy 0 [2,6] (.heavy 3 [2,6] (.light 4 (.heavy 5 [6] (.light 8 (.heavy 9 [] .leaf .stop)) .stop)) .stop) (.heavy 3 [2,6] (.light 4 (.heavy 0 [2,4,6] (.heavy 5 [6] (.light 8 (.heavy 9 [] .leaf .stop)) .stop) (.heavy 5 [6] (.heavy 0 [2,4,6] (.light 8 (.heavy 9 [] .leaf .stop)) .stop) .stop))) .stop)) .stop))) (.heavy 3 [2,6] (.heavy 0 [2,6] (.heavy 1 [2,6] (.light 4 (.heavy 5 [6] (.heavy 7 [2,4] (.light 8 (.heavy 9 [] .leaf .stop)) .stop) (.heavy 7 [2,4] (.heavy 5 [6] (.light 8 (.heavy 9 [] .leaf .stop)) .stop) .stop))) (.heavy 7 [2] (.heavy 1 [2,6] (.light 4 (.heavy 5 [6] (.light 8 (.heavy 9 [] .leaf .stop)) .stop)) .stop) .stop)) (.heavy 1 [2,6] (.light 4 (.heavy 0 [2,4,6] (.heavy 5 [6] (.heavy 7 [2,4] (.light 8 (.heavy 9 [] .leaf .stop)) .stop) (.heavy 7 [2,4] (.heavy 5 [6] (.light 8 (.heavy 9 [] .leaf .stop)) .stop) .stop)) (.heavy 5 [6] (.heavy 0 [2,4,6] (.heavy 7 [2,4] (.light 8 (.heavy 9 [] .leaf .stop)) .stop) (.heavy 7 [2,4] (.heavy 0 [2,4,6] (.light 8 (.heavy 9 [] .leaf .stop)) .stop) .stop)) (.heavy 7 [2,4] (.heavy 0 [2,4,6] (.heavy 5 [6] (.light 8 (.heavy 9 [] .leaf .stop)) .stop) (.heavy 5 [6] (.heavy 0 [2,4,6] (.light 8 (.heavy 9 [] .leaf .stop)) .stop) .stop)) .stop)))) (.heavy 7 [2] (.heavy 0 [2,6] (.heavy 1 [2,6] (.light 4 (.heavy 5 [6] (.light 8 (.heavy 9 [] .leaf .stop)) .stop)) .stop) (.heavy 1 [2,6] (.light 4 (.heavy 0 [2,4,6] (.heavy 5 [6] (.light 8 (.heavy 9 [] .leaf .stop)) .stop) (.heavy 5 [6] (.heavy 0 [2,4,6] (.light 8 (.heavy 9 [] .leaf .stop)) .stop) .stop))) .stop)) .stop))) (.heavy 7 [2] (.heavy 0 [2,6] (.heavy 1 [2,6] (.heavy 3 [2,6] (.light 4 (.heavy 5 [6] (.light 8 (.heavy 9 [] .leaf .stop)) .stop)) .stop) (.heavy 3 [2,6] (.heavy 1 [2,6] (.light 4 (.heavy 5 [6] (.light 8 (.heavy 9 [] .leaf .stop)) .stop)) .stop) .stop)) (.heavy 1 [2,6] (.heavy 0 [2,6] (.heavy 3 [2,6] (.light 4 (.heavy 5 [6] (.light 8 (.heavy 9 [] .leaf .stop)) .stop)) .stop) (.heavy 3 [2,6] (.light 4 (.heavy 0 [2,4,6] (.heavy 5 [6] (.light 8 (.heavy 9 [] .leaf .stop)) .stop) (.heavy 5 [6] (.heavy 0 [2,4,6] (.light 8 (.heavy 9 [] .leaf .stop)) .stop) .stop))) .stop)) (.heavy 3 [2,6] (.heavy 0 [2,6] (.heavy 1 [2,6] (.light 4 (.heavy 5 [6] (.light 8 (.heavy 9 [] .leaf .stop)) .stop)) .stop) (.heavy 1 [2,6] (.light 4 (.heavy 0 [2,4,6] (.heavy 5 [6] (.light 8 (.heavy 9 [] .leaf .stop)) .stop) (.heavy 5 [6] (.heavy 0 [2,4,6] (.light 8 (.heavy 9 [] .leaf .stop)) .stop) .stop))) .stop)) .stop))) .stop)))))) follows (by kernel_rfl) (by kernel_rfl) ?_
 simp +decide only[go_sem,nT,nA,nS,nM,nB,reduceIte,reduceCtorEq]
 (with_reducible and_intros)
 all_goals
  refine zC (zW8) rfl rfl ?_
  simp +decide only[go_sem,nT,nA,nS,nM,nB,reduceIte,reduceCtorEq]
  (with_reducible and_intros)
 all_goals
  first
   | refine GQ.step (Ghost.shutHd 5 0 3 (j:=4) (len:=2) rfl rfl rfl rfl (by decide) rfl rfl) (GQ.done ?_)
   | refine GQ.step (Ghost.shutHd 6 0 3 (j:=4) (len:=2) rfl rfl rfl rfl (by decide) rfl rfl) (GQ.done ?_)
   | refine GQ.step (Ghost.shutHd 7 0 3 (j:=4) (len:=2) rfl rfl rfl rfl (by decide) rfl rfl) (GQ.done ?_)
   | refine GQ.step (Ghost.shutHd 6 0 3 (j:=5) (len:=2) rfl rfl rfl rfl (by decide) rfl rfl) (GQ.done ?_)
   | refine GQ.step (Ghost.shutHd 7 0 3 (j:=5) (len:=2) rfl rfl rfl rfl (by decide) rfl rfl) (GQ.done ?_)
   | refine GQ.step (Ghost.shutHd 7 0 3 (j:=6) (len:=2) rfl rfl rfl rfl (by decide) rfl rfl) (GQ.done ?_)
  simp +decide only[go_sem,nT,nA,nS,nM,nB,reduceIte,reduceCtorEq]
  rfl
theorem zS6:HFn Tryz.prog 28 [] (ansH oneA):=by
 refine HCalls.conv (HFn.shut (R':=.ag [.sl (ints [1]),.sl (pfs [⟨loose,endA,[1,3]⟩]),.v (.slice none 0 0),.sl (ots [endA]),.v (.int .i64 0)]) zY3 (by simp only[fzo,fzoL,fzoR,zAO,zCp];rfl)) ?_
 rintro x H' rfl
 exact ⟨_,rfl,.inr ⟨rfl,Conv.ag ⟨Conv.refl _,Conv.refl _,Conv.nilSl,Conv.refl _,Conv.refl _,trivial⟩⟩⟩
def oneB:Ans:=⟨[1],[⟨loose,endA,[1]⟩],[],[endA],0⟩
def oneC:Ans:=⟨[1],[⟨loose,endA,[1,3]⟩],[endA],[endA],0⟩
def noA:Ans:=⟨[],[],[],[],0⟩
theorem zDu {a:Ans} (h:zEv bufP a=false):SmallA a:=(zHl h).2.2.1
theorem z4J:zEY bufP oneA=true:=by kernel_rfl
theorem z4I:zEY bufP oneB=false:=by kernel_rfl
theorem z4H:zEY bufP oneC=false:=by kernel_rfl
theorem z11:zEY bufP noA=true:=by kernel_rfl
end Go.Proofs.YtoknohandclcbaaGreat
namespace Go.Proofs.YtoknohandclcbaaGreat
open Go.RowKit
set_option maxRecDepth 8000
theorem z4R:∃l:List Pck,l.length=7∧zF6 bufP oneA [0]=.tu [.sl (pcks l),.v (.bool true)]:=by
 refine ⟨(zAB bufP [0] (zG bufP) [] loose).getD [],by kernel_rfl,?_⟩
 have h1:zGr oneA [0]=some ⟨loose,endA,[1,3]⟩:=by kernel_rfl
 have h2:(zAB bufP [0] (zG bufP) [] loose).isSome=true:=by kernel_rfl
 unfold zF6
 rw[h1]
 simp only
 rw[h2]
theorem z4Q:zF6 bufP oneA [3]=.tu [.v (.slice none 0 0),.v (.bool false)]:=by
 have h1:zGr oneA [3]=none:=by kernel_rfl
 unfold zF6
 rw[h1]
set_option maxHeartbeats 8000000 in
theorem zS7:HFn Tryz.prog 9 [] (.v (.bool true)):=by
 have sA:SmallA oneA:=zDu (by kernel_rfl)
 have sB:SmallA oneB:=zDu (by kernel_rfl)
 have sC:SmallA oneC:=zDu (by kernel_rfl)
 have sN:SmallA noA:=zDu (by kernel_rfl)
 have cA:=zCx bufP oneA zBi sA
 have cB:=zCx bufP oneB zBi sB
 have cC:=zCx bufP oneC zBi sC
 have cN:=zCx bufP noA zBi sN
 rw[z4J] at cA
 rw[z4I] at cB
 rw[z4H] at cC
 rw[z11] at cN
 have cB' : HFn Tryz.prog 13 [prgH bufP,.ag [.sl (ints [1]),.sl (pfs [⟨loose,endA,[1]⟩]),.v (.slice none 0 0),.sl (ots [endA]),.v (.int .i64 0)]] (.v (.bool false)) :=
  HCalls.convB cB ⟨Conv.refl _,Conv.ag ⟨Conv.refl _,Conv.refl _,Conv.nilSl,Conv.refl _,Conv.refl _,trivial⟩,trivial⟩
 have cN' : HFn Tryz.prog 13 [prgH bufP,.ag [.v (.slice none 0 0),.v (.slice none 0 0),.v (.slice none 0 0),.v (.slice none 0 0),.v (.int .i64 0)]] (.v (.bool true)) :=
  HCalls.convB cN ⟨Conv.refl _,Conv.ag ⟨Conv.nilSl,Conv.nilSl,Conv.nilSl,Conv.nilSl,Conv.refl _,trivial⟩,trivial⟩
 obtain ⟨L,hL,hb0⟩:=z4R
 have b0:=zGo bufP oneA [0] zBi sA (by simp)
 have b3:=zGo bufP oneA [3] zBi sA (by simp)
 rw[hb0] at b0
 rw[z4Q] at b3
 have hL' : ((L.length:Int)=7)=True:=by simp only[eq_iff_iff,iff_true];omega
 refine zA (fn:=Tryz.f9) 67 [0] (by kernel_rfl) rfl (by kernel_rfl) (HW.run 400 (by kernel_rfl) ?_)
 simp +decide only[go_sem,nT,nA,nS,nM,nB,reduceIte,reduceCtorEq]
 refine zC (zKM) rfl rfl ?_
 simp +decide only[go_sem,nT,nA,nS,nM,nB,reduceIte,reduceCtorEq]
 refine zC (zS6) rfl rfl ?_
 simp +decide only[go_sem,nT,nA,nS,nM,nB,reduceIte,reduceCtorEq]
 refine zC (zY3) rfl rfl ?_
 simp +decide only[go_sem,nT,nA,nS,nM,nB,reduceIte,reduceCtorEq]
 refine zC (zS6) rfl rfl ?_
 simp +decide only[go_sem,nT,nA,nS,nM,nB,reduceIte,reduceCtorEq]
 refine ⟨_,HCalls.hdGive (pre:=[prgH bufP,ansH oneA]) (post:=[]) (k:=8) (ob:=⟨3,1,ints [0]⟩) b0 rfl rfl rfl,fun y H' hq _=>?_⟩
 obtain ⟨rfl,rfl⟩:=hq
 simp +decide only[go_sem,nT,nA,nS,nM,nB,reduceIte,reduceCtorEq]
 refine ⟨_,HCalls.hdGive (pre:=[prgH bufP,ansH oneA]) (post:=[]) (k:=9) (ob:=⟨3,1,ints [3]⟩) b3 rfl rfl rfl,fun y H' hq _=>?_⟩
 obtain ⟨rfl,rfl⟩:=hq
 simp +decide only[go_sem,nT,nA,nS,nM,nB,reduceIte,reduceCtorEq]
 refine zC (cA) rfl rfl ?_
 simp +decide only[go_sem,nT,nA,nS,nM,nB,reduceIte,reduceCtorEq]
 refine zJ 4 cB' (by simp only[go_sem];rfl) rfl ?_
 simp +decide only[go_sem,nT,nA,nS,nM,nB,reduceIte,reduceCtorEq]
 refine zC (cC) rfl rfl ?_
 simp +decide only[go_sem,nT,nA,nS,nM,nB,reduceIte,reduceCtorEq,hL']
 refine zC (cN') rfl rfl ?_
 simp +decide only[go_sem,nT,nA,nS,nM,nB,reduceIte,reduceCtorEq]
end Go.Proofs.YtoknohandclcbaaGreat
namespace Go.Proofs.YtoknohandclcbaaGreat
open Go.RowKit
set_option maxRecDepth 8000
set_option maxHeartbeats 16000000 in
theorem zQb (p:Prg) (a:Ans) (g:List Int):HFn Tryz.prog 3 [prgH p,ansH a,.sl (ints g)] (.v (.bool true)):=by
 refine zA (fn:=Tryz.f3) 56 [6] (by kernel_rfl) rfl (by kernel_rfl) (HW.run 400 (by kernel_rfl) ?_)
 simp +decide only[go_sem,nT,nA,nS,nM,nB,reduceIte,reduceCtorEq]
 refine zC (zS7) rfl rfl ?_
 simp +decide only[go_sem,nT,nA,nS,nM,nB,reduceIte,reduceCtorEq]
 refine zC (zP2 p a) rfl rfl ?_
 cases hG:zEv p a with
 | true=>simp +decide only[go_sem,nT,nA,nS,nM,nB,reduceIte,reduceCtorEq]
 | false =>
 obtain ⟨hp,h4,sA,_,_,_,_,_,hx⟩:=zHl hG
 by_cases hg:60<g.length
 ·have hg' : ((60:Int)<(g.length:Int))=True:=by simp only[eq_iff_iff,iff_true];omega
  simp +decide only[go_sem,nT,nA,nS,nM,nB,reduceIte,reduceCtorEq,hg']
 have hg' : ((60:Int)<(g.length:Int))=False:=by simp only[eq_iff_iff,iff_false];omega
 have hC:=zCx p a hp sA
 have hR:=zVy p a hp sA
 have hB:=zGo p a g hp sA (by omega)
 have hQ:=zVz p a g hp sA (by omega)
 generalize zEY p a=c at hC hR
 have hcc:decide (c=c)=true:=by simp
 unfold zF6 at hB hQ
 cases hb:zGr a g with
 | none =>
  rw[hb] at hB hQ
  have hS:HFn Tryz.prog 15 [.v (.slice none 0 0),.v (.slice none 0 0)] (.v (.bool true)) :=
   HCalls.convB (zFM [] [] (by simp)) ⟨Conv.nilSl,Conv.nilSl,trivial⟩
  simp +decide only[go_sem,nT,nA,nS,nM,nB,reduceIte,reduceCtorEq,hg']
  refine zC (hB) rfl rfl ?_
  simp +decide only[go_sem,nT,nA,nS,nM,nB,reduceIte,reduceCtorEq]
  refine zC (hQ) rfl rfl ?_
  simp +decide only[go_sem,nT,nA,nS,nM,nB,reduceIte,reduceCtorEq]
  refine HW.tree 1 (.light 0 (.light 1 (.light 2 (.light 3 (.light 5 (.light 6 (.heavy 4 [5,6] (.heavy 7 [] (.light 8 (.light 9 (.light 10 (.light 11 (.light 12 (.heavy 13 [] (.light 14 (.light 15 (.light 16 (.light 17 (.light 18 (.light 19 (.light 20 .leaf))))))) .stop)))))) .stop) .stop))))))) follows (by kernel_rfl) (by kernel_rfl) ?_
  simp +decide only[go_sem,nT,nA,nS,nM,nB,reduceIte,reduceCtorEq]
  refine zC (hC) rfl rfl ?_
  simp +decide only[go_sem,nT,nA,nS,nM,nB,reduceIte,reduceCtorEq]
  refine zC (hR) rfl rfl ?_
  simp +decide only[go_sem,nT,nA,nS,nM,nB,reduceIte,reduceCtorEq,hcc]
  refine zC (hS) rfl rfl ?_
  simp +decide only[go_sem,nT,nA,nS,nM,nB,reduceIte,reduceCtorEq]
 | some x =>
  rw[hb] at hB hQ
  simp only at hB hQ
  have hxm:x∈a.proofs:=List.mem_of_find?_eq_some hb
  have hl:=zSI (p:=p) (g:=g) (l:=x.picks)
  have hx1:=(hx x hxm).1
  generalize (zAB p g (zG p) [] x.picks).isSome=b1 at hB hQ
  generalize (zAB p g (zG p) [] x.picks).getD []=L at hB hQ hl
  have hS:=zFM L L (by omega)
  rw[show decide (L=L)=true by simp] at hS
  have hbb:decide (b1=b1)=true:=by simp
  simp +decide only[go_sem,nT,nA,nS,nM,nB,reduceIte,reduceCtorEq,hg']
  refine zC (hB) rfl rfl ?_
  simp +decide only[go_sem,nT,nA,nS,nM,nB,reduceIte,reduceCtorEq]
  refine zC (hQ) rfl rfl ?_
  simp +decide only[go_sem,nT,nA,nS,nM,nB,reduceIte,reduceCtorEq]
  refine HW.tree 1 (.light 0 (.light 1 (.light 2 (.light 3 (.light 5 (.light 6 (.heavy 4 [5,6] (.heavy 7 [] (.light 8 (.light 9 (.light 10 (.light 11 (.light 12 (.heavy 13 [] (.light 14 (.light 15 (.light 16 (.light 17 (.light 18 (.light 19 (.light 20 .leaf))))))) .stop)))))) .stop) .stop))))))) follows (by kernel_rfl) (by kernel_rfl) ?_
  simp +decide only[go_sem,nT,nA,nS,nM,nB,reduceIte,reduceCtorEq]
  refine zC (hC) rfl rfl ?_
  simp +decide only[go_sem,nT,nA,nS,nM,nB,reduceIte,reduceCtorEq]
  refine zC (hR) rfl rfl ?_
  simp +decide only[go_sem,nT,nA,nS,nM,nB,reduceIte,reduceCtorEq,hcc]
  refine zC (hS) rfl rfl ?_
  simp +decide only[go_sem,nT,nA,nS,nM,nB,reduceIte,reduceCtorEq,hbb]
end Go.Proofs.YtoknohandclcbaaGreat
namespace Go.Proofs.YtoknohandclcbaaGreat
open Go.RowKit
set_option maxRecDepth 8000
theorem z2D:ownKnob Tryz.prog.godebug=none:=by kernel_rfl
theorem zEo {W:World} {b:Nat} {v:Value} (hm:W.cell? ⟨b,0,none⟩=some v):b<W.heap.size:=by
 unfold World.cell? at hm
 simp only at hm
 cases hh:W.heap[b]? with
 | none=>rw[hh] at hm;simp at hm
 | some o=>exact (Array.getElem?_eq_some_iff.1 hh).1
structure Ifcs (W:World):Prop where
 ifc:∀b,zZo b=true→∃v,W.cell? ⟨b,0,none⟩=some v∧(v=.nilIface∨∃t p,v=.iface t p)
 err:∀b,zHL b=true→∃a c t,W.cell? ⟨b,0,none⟩=some (.iface zKY (.pointer (some a)))∧W.heap[a.block]?=some (.cells c t (0,0))
 apart:∀b b' a,zHL b=true→zHL b'=true→W.cell? ⟨b,0,none⟩=some (.iface zKY (.pointer (some a)))→W.cell? ⟨b',0,none⟩=some (.iface zKY (.pointer (some a)))→b=b'
 han:∀b,zZp b=true→W.cell? ⟨b,0,none⟩=some z2o
theorem yAU (W:World):Ifcs W:=⟨fun b hb=>by simp[zZo] at hb,fun b hb=>by simp[zHL] at hb,fun b b' a hb=>by simp[zHL] at hb,fun b hb=>by simp[zZp] at hb⟩
theorem zWy {W:World} (h:W.ShapedOpen Tryz.prog) (hI:Ifcs W):Globs (fun b=>b<W.heap.size) W:=by
 refine ⟨fun b hb=>?_,fun b hb=>?_,fun b hb=>?_,hI.apart,fun b hb=>⟨zEo (hI.han b hb),hI.han b hb⟩⟩
 ·simp[z2q] at hb
 ·obtain ⟨v,hv,hv'⟩:=hI.ifc b hb
  exact ⟨zEo hv,v,hv,hv'⟩
 ·obtain ⟨a,c,t,h1,h2⟩:=hI.err b hb
  exact ⟨zEo h1,a,c,t,h1,(Array.getElem?_eq_some_iff.1 h2).1,h2⟩
theorem HFn.below {f:FuncId} {args:List HV} {x:Value} {W:World} (h:HFn Tryz.prog f args (.v x)) (hsh:W.ShapedOpen Tryz.prog) (hI:Ifcs W) (vals:List Value) (ha:RL (fun b=>b<W.heap.size) [] W args vals []) :
  Calls Tryz.prog f vals.toArray W fun e W'=>e=.returned x∧Below W.heap.size W W':=by
 refine Calls.mono (h.2 _ [] _ W vals (HInv.empty (fun _ h=>h) (zWy hsh hI)) ha) ?_
 rintro e w' ⟨v,r,H',Z',G',FP',fr,rfl,rfl,hlen,hi',hr,hnd,hfr1,hfr2,hG,hE⟩
 simp only[RV] at hr
 obtain ⟨_,rfl⟩:=hr
 exact ⟨rfl,⟨hE.os,hE.tape,hE.output,hE.size,fun b hb=>hE.keep b hb (by simp)⟩⟩
end Go.Proofs.YtoknohandclcbaaGreat
