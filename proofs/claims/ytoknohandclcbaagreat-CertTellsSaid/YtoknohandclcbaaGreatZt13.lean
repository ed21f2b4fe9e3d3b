/- Parts of the proof: Si, Sth, Sj, Sk, Sl, Sm, Sn, So, HiDk, Gr, Ga, Gf, Gb, Gm. -/
import Derived.Test.YtoknohandclcbaaGreatZt12
import Derived.Test.YtoknohandclcbaaGreatZt08
import Derived.Test.YtoknohandclcbaaGreatZt10
import Derived.Test.YtoknohandclcbaaGreatZt11
import Derived.Test.YtoknohandclcbaaGreatZt06
open Nat renaming reduceAdd → nA, reduceSub → nS, reduceMul → nM, reduceBEq → nB
open Int renaming reduceToNat → nT
set_option linter.unusedSectionVars false
set_option linter.unusedVariables false
set_option linter.unusedSimpArgs false
namespace Go.Proofs.YtoknohandclcbaaGreat
open Go.RowKit
set_option maxRecDepth 8000
def overT (p:Prg) (s:Sta) (t:Nat):Bool :=
 match s.ths[t]?,p.thr[t]? with
 | some y,some l=>decide (y.pc=l.length) && y.buf.isEmpty
 | _,_=>true
def zBO (p:Prg) (s:Sta):Bool:=(List.range s.ths.length).all (overT p s)
set_option maxHeartbeats 4000000 in
theorem zZF (p:Prg) (s:Sta) (hp:RightP p) (hs:RightS p s):HFn Tryz.prog 49 [prgH p,staH s] (.v (.bool (zBO p s))):=by
 refine zA (fn:=Tryz.f49) 36 [4] (by kernel_rfl) rfl (by kernel_rfl) (HW.run 400 (by kernel_rfl) ?_)
 simp +decide only[go_sem,nT,nA,nS,nM,nB,reduceIte,reduceCtorEq]
 have htl:s.ths.length≤1000:=by have:=hs.ths;have:=hp.thr;omega
 have hlen:=hs.ths
 refine HW.loopG (fun k T H=>∃i:Nat,k=s.ths.length-i∧i≤s.ths.length∧(∀j,j<i→overT p s j=true)∧T 2=.pt 0 1 0 0∧T 3=.pt 1 1 0 0∧T 5=.v (.int .i64 i)∧H=[some ⟨25,2,[[.sl (ints p.init),.sl (thrs p.thr)]]⟩,some ⟨79,2,[[.sl (ints s.mem),.sl (thds s.ths)]]⟩]) s.ths.length ⟨_,_,Ghost.refl,0,rfl,by omega,by simp,rfl,rfl,rfl,rfl⟩ ?_
 rintro k T H ⟨i,rfl,hi,hno,h2,h3,h5,rfl⟩
 refine HW.run 200 (by kernel_rfl) ?_
 by_cases hlt:i<s.ths.length
 ·have hlt' : ((i:Int)<(s.ths.length:Int))=True:=by rw[zO];simp[hlt]
  have hlt2:((i:Int)<(p.thr.length:Int))=True:=by rw[zO,←hlen];simp[hlt]
  have hx:s.ths[i]?=some s.ths[i]:=List.getElem?_eq_getElem hlt
  have hy:p.thr[i]?=some (p.thr[i]'(by omega)):=List.getElem?_eq_getElem (by omega)
  generalize s.ths[i]=y at hx
  generalize p.thr[i]'(by omega)=l at hy
  have ho:overT p s i=(decide (y.pc=l.length) && y.buf.isEmpty):=by unfold overT;rw[hx,hy]
  simp +decide only[go_sem,nT,nA,nS,nM,nB,reduceIte,reduceCtorEq,h2,h3,h5,hlt',hx]
  refine HW.quiet 80 follows (by kernel_rfl) ?_
  by_cases c1:y.pc=l.length
  ·by_cases c2:y.buf=[]
   ·have b0:((0:Int)<(y.buf.length:Int))=False:=by rw[c2];simp
    simp +decide only[go_sem,nT,nA,nS,nM,nB,reduceIte,reduceCtorEq,h2,h3,h5,hlt',hlt2,hx,hy,c1,b0]
    refine ⟨_,_,Ghost.refl,s.ths.length-(i+1),by omega,i+1,rfl,by omega,?_,?_,?_,?_,rfl⟩
    ·intro j hj
     rcases Nat.lt_or_ge j i with h | h
     ·exact hno j h
     ·obtain rfl:j=i:=by omega
      rw[ho,c2];simp[c1]
    all_goals first | (simp +decide only[go_sem,nB,reduceIte,h2,h3];done) | (simp +decide only[go_sem,nB,reduceIte];rw[w64 (by omega) (by omega)];rfl)
   ·have b0:((0:Int)<(y.buf.length:Int))=True:=by
     have:=List.length_pos_iff.mpr c2
     simp only[eq_iff_iff,iff_true];omega
    simp +decide only[go_sem,nT,nA,nS,nM,nB,reduceIte,reduceCtorEq,h2,h3,h5,hlt',hlt2,hx,hy,c1,b0]
    have:zBO p s=false:=by
     unfold zBO
     rw[List.all_eq_false]
     exact ⟨i,by simpa using hlt,by rw[ho];simp[c2]⟩
    exact vb this.symm
  ·simp +decide only[go_sem,nT,nA,nS,nM,nB,reduceIte,reduceCtorEq,h2,h3,h5,hlt',hlt2,hx,hy,c1]
   have:zBO p s=false:=by
    unfold zBO
    rw[List.all_eq_false]
    exact ⟨i,by simpa using hlt,by rw[ho];simp[c1]⟩
   exact vb this.symm
 ·have hlt' : ((i:Int)<(s.ths.length:Int))=False:=by rw[zO];simp[hlt]
  have:zBO p s=true:=by
   unfold zBO
   rw[List.all_eq_true]
   intro j hj
   exact hno j (by simp at hj;omega)
  simp +decide only[go_sem,nT,nA,nS,nM,nB,reduceIte,reduceCtorEq,h2,h3,h5,hlt']
  exact vb this.symm
end Go.Proofs.YtoknohandclcbaaGreat
namespace Go.Proofs.YtoknohandclcbaaGreat
open Go.RowKit
set_option maxRecDepth 8000
end Go.Proofs.YtoknohandclcbaaGreat
namespace Go.Proofs.YtoknohandclcbaaGreat
open Go.RowKit
set_option maxRecDepth 8000
def putS (n:Int) (st:List Int×Bool) (x:Int):List Int×Bool:=if st.2=false∧n≤x then ((if n=x then st.1 else st.1++[n])++[x],true) else (st.1++[x],st.2)
def putB (l:List Int) (n:Int):List Int:=if (l.foldl (putS n) ([],false)).2=true then (l.foldl (putS n) ([],false)).1 else (l.foldl (putS n) ([],false)).1++[n]
theorem zNf (n:Int):∀(l:List Int) (st:List Int×Bool),(l.foldl (putS n) st).1.length≤st.1.length+2*l.length
 | [],st=>by simp
 | x::l,st=>by
  have ih:=zNf n l (putS n st x)
  have h1:(putS n st x).1.length≤st.1.length+2:=by
   unfold putS
   split
   ·split <;> simp
   ·simp
  simp only[List.foldl_cons,List.length_cons];omega
set_option maxHeartbeats 4000000 in
theorem z2J (l:List Int) (n:Int) (hl:l.length≤100000):HFn Tryz.prog 115 [.sl (ints l),.v (.int .i64 n)] (zB1 (putB l n)):=by
 refine zA (fn:=Tryz.f115) 48 [4] (by kernel_rfl) rfl (by kernel_rfl) (HW.run 400 (by kernel_rfl) ?_)
 simp +decide only[go_sem,nT,nA,nS,nM,nB,reduceIte,reduceCtorEq]
 refine HW.loopG (fun k T H=>∃i:Nat,k=l.length-i∧i≤l.length∧T 0=.sl (ints l)∧T 1=.v (.int .i64 n)∧T 5=.hd 0 0 ((l.take i).foldl (putS n) ([],false)).1.length∧T 6=.v (.bool ((l.take i).foldl (putS n) ([],false)).2)∧T 7=.v (.int .i64 i)∧H=[some ⟨3,1,ints ((l.take i).foldl (putS n) ([],false)).1⟩]) l.length ⟨_,_,Ghost.nil 5 3 1 rfl,0,rfl,by omega,rfl,rfl,rfl,rfl,rfl,rfl⟩ ?_
 rintro k T H ⟨i,rfl,hi,h0,h1,h5,h6,h7,rfl⟩
 refine HW.run 200 (by kernel_rfl) ?_
 have hle:=zNf n (l.take i) ([],false)
 rw[List.length_take] at hle
 simp only[List.length_nil] at hle
 by_cases hlt:i<l.length
 ·have hlt' : ((i:Int)<(l.length:Int))=True:=by rw[zO];simp[hlt]
  have hx:l[i]?=some l[i]:=List.getElem?_eq_getElem hlt
  have htk:(l.take (i+1)).foldl (putS n) ([],false)=putS n ((l.take i).foldl (putS n) ([],false)) l[i]:=by
   rw[List.take_add_one,hx,List.foldl_append];rfl
  generalize (l.take i).foldl (putS n) ([],false)=st at h5 h6 hle htk⊢
  generalize l[i]=x at hx htk
  obtain ⟨out,dn⟩:=st
  simp only at h5 h6 hle
  cases dn with
  | true =>
   have hp:putS n (out,true) x=(out++[x],true):=by simp[putS]
   rw[hp] at htk
   simp +decide only[go_sem,nT,nA,nS,nM,nB,reduceIte,reduceCtorEq,h0,h1,h5,h6,h7,hlt',hx]
   repeat (with_reducible refine And.intro ?_ ?_;·(with_reducible and_intros) <;> omega)
   refine ⟨_,_,Ghost.trunc [0,1,5,6,7] 1 (by omega) ?_ ?_,l.length-(i+1),by omega,i+1,rfl,by omega,?_,?_,?_,?_,?_,?_⟩
   all_goals first | (simp +decide only[go_sem,nB,reduceIte,h0,h1,h6,htk];done) | (simp +decide only[go_sem,nB,reduceIte,htk,List.length_append,List.length_singleton];done) | (simp +decide only[go_sem,nB,reduceIte];rw[w64 (by omega) (by omega)];rfl) | (simp +decide only[go_sem,nT,nA,nS,nM,nB,reduceIte,reduceCtorEq,htk];done)
  | false =>
   by_cases c1:n≤x
   ·by_cases c2:n=x
    ·have hp:putS n (out,false) x=(out++[x],true):=by simp[putS,c1,c2]
     rw[hp] at htk
     have c1' : (x≤x)=True:=by simp
     subst c2
     simp +decide only[go_sem,nT,nA,nS,nM,nB,reduceIte,reduceCtorEq,h0,h1,h5,h6,h7,hlt',hx,c1']
     repeat (with_reducible refine And.intro ?_ ?_;·(with_reducible and_intros) <;> omega)
     refine ⟨_,_,Ghost.trunc [0,1,5,6,7] 1 (by omega) ?_ ?_,l.length-(i+1),by omega,i+1,rfl,by omega,?_,?_,?_,?_,?_,?_⟩
     all_goals first | (simp +decide only[go_sem,nB,reduceIte,h0,h1,h6,htk];done) | (simp +decide only[go_sem,nB,reduceIte,htk,List.length_append,List.length_singleton];done) | (simp +decide only[go_sem,nB,reduceIte];rw[w64 (by omega) (by omega)];rfl) | (simp +decide only[go_sem,nT,nA,nS,nM,nB,reduceIte,reduceCtorEq,htk];done)
    ·have hp:putS n (out,false) x=(out++[n]++[x],true):=by simp[putS,c1,c2]
     rw[hp] at htk
     have c1' : (n≤x)=True:=by simp[c1]
     simp +decide only[go_sem,nT,nA,nS,nM,nB,reduceIte,reduceCtorEq,h0,h1,h5,h6,h7,hlt',hx,c1',c2]
     repeat (with_reducible refine And.intro ?_ ?_;·(with_reducible and_intros) <;> omega)
     refine ⟨_,_,Ghost.trunc [0,1,5,6,7] 1 (by omega) ?_ ?_,l.length-(i+1),by omega,i+1,rfl,by omega,?_,?_,?_,?_,?_,?_⟩
     all_goals first | (simp +decide only[go_sem,nB,reduceIte,h0,h1,h6,htk];done) | (simp +decide only[go_sem,nB,reduceIte,htk,List.length_append,List.length_singleton];done) | (simp +decide only[go_sem,nB,reduceIte];rw[w64 (by omega) (by omega)];rfl) | (simp +decide only[go_sem,nT,nA,nS,nM,nB,reduceIte,reduceCtorEq,htk];done)
   ·have hp:putS n (out,false) x=(out++[x],false):=by simp[putS,c1]
    rw[hp] at htk
    have c1' : (n≤x)=False:=by simp[c1]
    simp +decide only[go_sem,nT,nA,nS,nM,nB,reduceIte,reduceCtorEq,h0,h1,h5,h6,h7,hlt',hx,c1']
    repeat (with_reducible refine And.intro ?_ ?_;·(with_reducible and_intros) <;> omega)
    refine ⟨_,_,Ghost.trunc [0,1,5,6,7] 1 (by omega) ?_ ?_,l.length-(i+1),by omega,i+1,rfl,by omega,?_,?_,?_,?_,?_,?_⟩
    all_goals first | (simp +decide only[go_sem,nB,reduceIte,h0,h1,h6,htk];done) | (simp +decide only[go_sem,nB,reduceIte,htk,List.length_append,List.length_singleton];done) | (simp +decide only[go_sem,nB,reduceIte];rw[w64 (by omega) (by omega)];rfl) | (simp +decide only[go_sem,nT,nA,nS,nM,nB,reduceIte,reduceCtorEq,htk];done)
 ·have hlt' : ((i:Int)<(l.length:Int))=False:=by rw[zO];simp[hlt]
  have htk:l.take i=l:=List.take_of_length_le (by omega)
  rw[htk] at h5 h6 hle⊢
  cases hd:(l.foldl (putS n) ([],false)).2 with
  | true =>
   have e:putB l n=(l.foldl (putS n) ([],false)).1:=by unfold putB;rw[if_pos hd]
   rw[e]
   simp +decide only[go_sem,nT,nA,nS,nM,nB,reduceIte,reduceCtorEq,h0,h1,h5,h6,h7,hlt',hd]
  | false =>
   have e:putB l n=(l.foldl (putS n) ([],false)).1++[n]:=by unfold putB;rw[if_neg (by simp[hd])]
   rw[e]
   simp +decide only[go_sem,nT,nA,nS,nM,nB,reduceIte,reduceCtorEq,h0,h1,h5,h6,h7,hlt',hd]
   (with_reducible and_intros) <;> first | omega | rfl
end Go.Proofs.YtoknohandclcbaaGreat
namespace Go.Proofs.YtoknohandclcbaaGreat
open Go.RowKit
set_option maxRecDepth 8000
end Go.Proofs.YtoknohandclcbaaGreat
namespace Go.Proofs.YtoknohandclcbaaGreat
open Go.RowKit
set_option maxRecDepth 8000
def zAS (p:Prg):Sta→List Int→List Pck→Option (List Int)
 | _,out,[]=>some out
 | s,out,k::r=>if (zAG p s k).2=true then zAS p (zAG p s k).1 (if k.dr=false∧(thAt s k.th).buf≠[] then putB out (numS p k.th (thAt s k.th).pc) else out) r else none
theorem zJz (n:Int):∀(l:List Int) (st:List Int×Bool),(l.foldl (putS n) st).1.length+(!(l.foldl (putS n) st).2).toNat≤st.1.length+l.length+(!st.2).toNat
 | [],st=>Nat.le_refl _
 | x::l,st=>by
  have ih:=zJz n l (putS n st x)
  have h1:(putS n st x).1.length+(!(putS n st x).2).toNat≤st.1.length+1+(!st.2).toNat:=by
   obtain ⟨a,b⟩:=st
   unfold putS
   cases b with
   | true=>simp
   | false =>
    by_cases c:n≤x
    ·by_cases c2:n=x <;> simp[c,c2]
    ·simp[c]
  rw[List.foldl_cons,List.length_cons];omega
theorem zNh (l:List Int) (n:Int):(putB l n).length≤l.length+1:=by
 have:=zJz n l ([],false)
 simp only[List.length_nil,Bool.not_false,Bool.toNat_true] at this
 unfold putB
 cases h:(l.foldl (putS n) ([],false)).2 with
 | true=>rw[if_pos rfl];omega
 | false =>
  rw[h] at this
  simp only[Bool.not_false,Bool.toNat_true] at this
  rw[if_neg (by simp)]
  simp;omega
theorem Conv.nilTu (b:HV):Conv (.tu [.v (.slice none 0 0),b]) (.tu [.sl [],b]):=fun Z G w y h=>by
 simp only[RV,RL] at h⊢
 obtain ⟨ys,rfl,y1,ys',f1,f2,e1,e2,⟨rfl,rfl⟩,h2⟩:=h
 exact ⟨_,rfl,_,_,[],f2,e1,by simpa using e2,⟨rfl,none,0,rfl,by simp,by simp[maxLen],.inl trivial⟩,h2⟩
theorem zN1 {p:Prg} {s:Sta} {k:Pck} (h:(zAG p s k).2=true):0≤k.th∧k.th<s.ths.length:=by
 unfold zAG at h
 split at h
 ·cases h
 ·rename_i hc;exact Decidable.not_not.1 hc
set_option maxHeartbeats 8000000 in
theorem zVx (p:Prg) (l:List Pck) (hp:RightP p) (hl:l.length≤10000):HFn Tryz.prog 77 [prgH p,.sl (pcks l)]
  (.tu [.sl (ints ((zAS p (zG p) [] l).getD [])),.v (.bool (zAS p (zG p) [] l).isSome)]):=by
 refine HCalls.conv (Q:=fun x _=>x=.tu [.sl (ints ((zAS p (zG p) [] l).getD [])),.v (.bool (zAS p (zG p) [] l).isSome)]∨(zAS p (zG p) [] l=none∧x=.tu [.v (.slice none 0 0),.v (.bool false)])) ?_ ?_
 rotate_left
 ·rintro x H' (rfl | ⟨h,rfl⟩)
  ·exact ⟨_,rfl,.inl rfl⟩
  ·rw[h];exact ⟨_,rfl,.inr ⟨rfl,Conv.nilTu _⟩⟩
 refine zA (fn:=Tryz.f77) 66 [4,5] (by kernel_rfl) rfl (by kernel_rfl) (HW.run 400 (by kernel_rfl) ?_)
 simp +decide only[go_sem,nT,nA,nS,nM,nB,reduceIte,reduceCtorEq]
 refine zC (zI5 p (by have:=hp.thr;omega) (by have:=hp.init;omega)) rfl rfl ?_
 generalize hR:zAS p (zG p) [] l=R
 simp +decide only[go_sem,nT,nA,nS,nM,nB,reduceIte,reduceCtorEq]
 refine HW.loopG (fun k T H=>∃(i:Nat) (s:Sta) (out:List Int),k=l.length-i∧i≤l.length∧RightS p s∧Few s i∧out.length≤i∧R=zAS p s out (l.drop i)∧
  T 1=.sl (pcks l)∧T 2=.pt 0 1 0 0∧T 6=.pt 1 1 0 0∧T 7=.sl (ints out)∧T 8=.v (.int .i64 i)∧
  H=[some ⟨25,2,[[.sl (ints p.init),.sl (thrs p.thr)]]⟩,some ⟨79,2,[[.sl (ints s.mem),.sl (thds s.ths)]]⟩]) l.length
  ⟨_,_,Ghost.tmp 7 (.sl []) Conv.nilSl,0,zG p,[],rfl,by omega,zAk,zE2,by simp,by rw[List.drop_zero,hR],rfl,rfl,rfl,rfl,rfl,rfl⟩ ?_
 rintro k T H ⟨i,s,out,rfl,hi,hs,hf,hout,hRi,h1,h2,h6,h7,h8,rfl⟩
 refine HW.run 200 (by kernel_rfl) ?_
 by_cases hlt:i<l.length
 ·have hlt' : ((i:Int)<(l.length:Int))=True:=by rw[zO];simp[hlt]
  have hx:l[i]?=some l[i]:=List.getElem?_eq_getElem hlt
  have hdr:l.drop i=l[i]::l.drop (i+1):=List.drop_eq_getElem_cons hlt
  generalize l[i]=x at hx hdr
  rw[hdr] at hRi
  have hst:=zI3 p s x hp hs (fun t ht=>by have:=hf t ht;omega)
  have hr':=zCY (k:=x) hp hs
  have hf':=zDr (p:=p) (k:=x) hf
  have hin:=zN1 (p:=p) (s:=s) (k:=x)
  simp only[zAS] at hRi
  simp +decide only[go_sem,nT,nA,nS,nM,nB,reduceIte,reduceCtorEq,h1,h2,h6,h7,h8,hlt',hx]
  refine HW.mixed 80 13 (2,0) [10,11] follows (by kernel_rfl) (by decide) ?_
  simp +decide only[go_sem,nT,nA,nS,nM,nB,reduceIte,reduceCtorEq,h1,h2,h6,h7,h8,hlt',hx]
  refine zBc (hst) rfl rfl ?_
  generalize zAG p s x=z at hRi hr' hf' hin⊢
  obtain ⟨s',ok⟩:=z
  simp only at hRi hr' hf' hin
  cases ok with
  | false =>
   rw[if_neg (by simp)] at hRi
   simp +decide only[go_sem,nT,nA,nS,nM,nB,reduceIte,reduceCtorEq,h1,h2,h6,h7,h8,hlt',hx]
   exact .inr hRi
  | true =>
   rw[if_pos rfl] at hRi
   obtain ⟨i1,i2⟩:=hin rfl
   obtain ⟨th,dr⟩:=x
   simp only at i1 i2 hRi
   obtain ⟨t,rfl⟩:∃t:Nat,th=t:=⟨th.toNat,by omega⟩
   have ht:t<s.ths.length:=by omega
   have hy:s.ths[t]?=some s.ths[t]:=List.getElem?_eq_getElem ht
   have htA:thAt s (t:Int)=s.ths[t]:=by unfold thAt;rw[Int.toNat_natCast,hy];rfl
   have hc2:((t:Int)<(s.ths.length:Int))=True:=by rw[zO];simp[ht]
   rw[htA] at hRi
   generalize s.ths[t]=y at hy htA hRi
   simp +decide only[go_sem,nT,nA,nS,nM,nB,reduceIte,reduceCtorEq,h1,h2,h6,h7,h8,hlt',hx]
   refine HW.mixed 80 10 (3,0) [9] follows (by kernel_rfl) (by decide) ?_
   cases dr with
   | true =>
    rw[if_neg (by simp)] at hRi
    simp +decide only[go_sem,nT,nA,nS,nM,nB,reduceIte,reduceCtorEq,h1,h2,h6,h7,h8,hlt',hx,hy,hc2]
    refine ⟨_,_,Ghost.trunc [1,2,6,7,8] 2 (by omega) ?_ ?_,l.length-(i+1),by omega,i+1,s',out,rfl,by omega,hr',hf',by omega,hRi,?_,?_,?_,?_,?_,?_⟩
    all_goals first | (simp +decide only[go_sem,nB,reduceIte,h1,h2,h6,h7];done) | (simp +decide only[go_sem,nB,reduceIte];rw[w64 (by omega) (by omega)];rfl) | (simp +decide only[go_sem,nT,nA,nS,nM,nB,reduceIte,reduceCtorEq];done)
   | false =>
    by_cases hbe:y.buf=[]
    ·rw[if_neg (by simp[hbe])] at hRi
     have b0:((0:Int)<(y.buf.length:Int))=False:=by rw[hbe];simp
     simp +decide only[go_sem,nT,nA,nS,nM,nB,reduceIte,reduceCtorEq,h1,h2,h6,h7,h8,hlt',hx,hy,hc2,b0]
     refine ⟨_,_,Ghost.trunc [1,2,6,7,8] 2 (by omega) ?_ ?_,l.length-(i+1),by omega,i+1,s',out,rfl,by omega,hr',hf',by omega,hRi,?_,?_,?_,?_,?_,?_⟩
     all_goals first | (simp +decide only[go_sem,nB,reduceIte,h1,h2,h6,h7];done) | (simp +decide only[go_sem,nB,reduceIte];rw[w64 (by omega) (by omega)];rfl) | (simp +decide only[go_sem,nT,nA,nS,nM,nB,reduceIte,reduceCtorEq];done)
    ·rw[if_pos ⟨rfl,hbe⟩] at hRi
     have b0:((0:Int)<(y.buf.length:Int))=True:=by
      have:=List.length_pos_iff.mpr hbe
      simp only[eq_iff_iff,iff_true];omega
     simp +decide only[go_sem,nT,nA,nS,nM,nB,reduceIte,reduceCtorEq,h1,h2,h6,h7,h8,hlt',hx,hy,hc2,b0]
     refine HW.quiet 80 follows (by kernel_rfl) ?_
     simp +decide only[go_sem,nT,nA,nS,nM,nB,reduceIte,reduceCtorEq,h1,h2,h6,h7,h8,hlt',hx,hy,hc2,b0]
     refine zE1 3 (zYV p t y.pc hp.small) (by simp only[go_sem]) rfl rfl ?_
     simp +decide only[go_sem,nT,nA,nS,nM,nB,reduceIte,reduceCtorEq,h1,h2,h6,h7,h8,hlt',hx,hy,hc2,b0]
     refine zOP (z2J out (numS p t y.pc) (by omega)) rfl rfl ?_
     simp +decide only[go_sem,nT,nA,nS,nM,nB,reduceIte,reduceCtorEq,h1,h2,h6,h7,h8,hlt',hx,hy,hc2,b0]
     refine ⟨_,_,Ghost.trunc [1,2,6,7,8] 2 (by omega) ?_ ?_,l.length-(i+1),by omega,i+1,s',_,rfl,by omega,hr',hf',by have:=zNh out (numS p t y.pc);omega,hRi,?_,?_,?_,?_,?_,?_⟩
     all_goals first | (simp +decide only[go_sem,nB,reduceIte,h1,h2,h6,h7];done) | (simp +decide only[go_sem,nB,reduceIte];rw[w64 (by omega) (by omega)];rfl) | (simp +decide only[go_sem,nT,nA,nS,nM,nB,reduceIte,reduceCtorEq];done)
 ·have hlt' : ((i:Int)<(l.length:Int))=False:=by rw[zO];simp[hlt]
  have e:i=l.length:=by omega
  subst e
  rw[List.drop_length] at hRi
  simp only[zAS] at hRi
  subst hRi
  simp +decide only[go_sem,nT,nA,nS,nM,nB,reduceIte,reduceCtorEq,h1,h2,h6,h7,h8,hlt']
end Go.Proofs.YtoknohandclcbaaGreat
namespace Go.Proofs.YtoknohandclcbaaGreat
open Go.RowKit
set_option maxRecDepth 8000
def zAB (p:Prg) (g:List Int):Sta→List Pck→List Pck→Option (List Pck)
 | _,out,[]=>some out
 | s,out,k::r=>if (zAG p s k).2=true then
   (if k.dr=false∧hasB g (numS p k.th (thAt s k.th).pc)=true then (if (thAt s k.th).buf≠[] then none else zAB p g (zAG p s k).1 (out++[⟨k.th,false⟩]++[k]) r) else zAB p g (zAG p s k).1 (out++[k]) r)
  else none
theorem Conv.nilTuOw (e:TypeId) (sz:Nat) (b:HV):Conv (.tu [.v (.slice none 0 0),b]) (.tu [.ow e sz [],b]):=fun Z G w y h=>by
 simp only[RV,RL] at h⊢
 obtain ⟨ys,rfl,y1,ys',f1,f2,e1,e2,⟨rfl,rfl⟩,h2⟩:=h
 exact ⟨_,rfl,_,_,[],f2,e1,by simpa using e2,.inl ⟨trivial,rfl,rfl⟩,h2⟩
set_option maxHeartbeats 8000000 in
theorem zVr (p:Prg) (g:List Int) (l:List Pck) (hp:RightP p) (hg:g.length≤10000) (hl:l.length≤10000):HFn Tryz.prog 36 [prgH p,.sl (ints g),.sl (pcks l)]
  (.tu [zKE ((zAB p g (zG p) [] l).getD []),.v (.bool (zAB p g (zG p) [] l).isSome)]):=by
 refine HCalls.conv (Q:=fun x _=>x=.tu [zKE ((zAB p g (zG p) [] l).getD []),.v (.bool (zAB p g (zG p) [] l).isSome)]∨(zAB p g (zG p) [] l=none∧x=.tu [.v (.slice none 0 0),.v (.bool false)])) ?_ ?_
 rotate_left
 ·rintro x H' (rfl | ⟨h,rfl⟩)
  ·exact ⟨_,rfl,.inl rfl⟩
  ·rw[h];exact ⟨_,rfl,.inr ⟨rfl,Conv.nilTuOw _ _ _⟩⟩
 refine zA (fn:=Tryz.f36) 84 [6,7] (by kernel_rfl) rfl (by kernel_rfl) (HW.run 400 (by kernel_rfl) ?_)
 simp +decide only[go_sem,nT,nA,nS,nM,nB,reduceIte,reduceCtorEq]
 refine zC (zI5 p (by have:=hp.thr;omega) (by have:=hp.init;omega)) rfl rfl ?_
 generalize hR:zAB p g (zG p) [] l=R
 simp +decide only[go_sem,nT,nA,nS,nM,nB,reduceIte,reduceCtorEq]
 refine HW.loopG (fun k T H=>∃(i:Nat) (s:Sta) (out:List Pck),k=l.length-i∧i≤l.length∧RightS p s∧Few s i∧out.length≤2*i∧R=zAB p g s out (l.drop i)∧
  T 1=.sl (ints g)∧T 2=.sl (pcks l)∧T 3=.pt 0 1 0 0∧T 8=.pt 1 1 0 0∧T 9=.hd 2 0 out.length∧T 10=.v (.int .i64 i)∧
  H=[some ⟨25,2,[[.sl (ints p.init),.sl (thrs p.thr)]]⟩,some ⟨79,2,[[.sl (ints s.mem),.sl (thds s.ths)]]⟩,some ⟨74,2,pcks out⟩]) l.length
  ⟨_,_,Ghost.nil 9 74 2 rfl,0,zG p,[],rfl,by omega,zAk,zE2,by simp,by rw[List.drop_zero,hR],rfl,rfl,rfl,rfl,rfl,rfl,rfl⟩ ?_
 rintro k T H ⟨i,s,out,rfl,hi,hs,hf,hout,hRi,h1,h2,h3,h8,h9,h10,rfl⟩
 refine HW.run 200 (by kernel_rfl) ?_
 by_cases hlt:i<l.length
 ·have hlt' : ((i:Int)<(l.length:Int))=True:=by rw[zO];simp[hlt]
  have hx:l[i]?=some l[i]:=List.getElem?_eq_getElem hlt
  have hdr:l.drop i=l[i]::l.drop (i+1):=List.drop_eq_getElem_cons hlt
  generalize l[i]=x at hx hdr
  rw[hdr] at hRi
  have hst:=zI3 p s x hp hs (fun t ht=>by have:=hf t ht;omega)
  have hr':=zCY (k:=x) hp hs
  have hf':=zDr (p:=p) (k:=x) hf
  have hin:=zN1 (p:=p) (s:=s) (k:=x)
  simp only[zAB] at hRi
  simp +decide only[go_sem,nT,nA,nS,nM,nB,reduceIte,reduceCtorEq,h1,h2,h3,h8,h9,h10,hlt',hx]
  refine HW.mixed 80 13 (3,0) [10,11] follows (by kernel_rfl) (by decide) ?_
  simp +decide only[go_sem,nT,nA,nS,nM,nB,reduceIte,reduceCtorEq,h1,h2,h3,h8,h9,h10,hlt',hx]
  refine zBc (hst) rfl rfl ?_
  generalize zAG p s x=z at hRi hr' hf' hin⊢
  obtain ⟨s',ok⟩:=z
  simp only at hRi hr' hf' hin
  cases ok with
  | false =>
   rw[if_neg (by simp)] at hRi
   simp +decide only[go_sem,nT,nA,nS,nM,nB,reduceIte,reduceCtorEq,h1,h2,h3,h8,h9,h10,hlt',hx]
   exact .inr hRi
  | true =>
   rw[if_pos rfl] at hRi
   obtain ⟨i1,i2⟩:=hin rfl
   obtain ⟨th,dr⟩:=x
   simp only at i1 i2 hRi
   obtain ⟨t,rfl⟩:∃t:Nat,th=t:=⟨th.toNat,by omega⟩
   have ht:t<s.ths.length:=by omega
   have hy:s.ths[t]?=some s.ths[t]:=List.getElem?_eq_getElem ht
   have htA:thAt s (t:Int)=s.ths[t]:=by unfold thAt;rw[Int.toNat_natCast,hy];rfl
   have hc2:((t:Int)<(s.ths.length:Int))=True:=by rw[zO];simp[ht]
   rw[htA] at hRi
   generalize s.ths[t]=y at hy htA hRi
   simp +decide only[go_sem,nT,nA,nS,nM,nB,reduceIte,reduceCtorEq,h1,h2,h3,h8,h9,h10,hlt',hx]
   refine HW.mixed 80 10 (4,0) [9] follows (by kernel_rfl) (by decide) ?_
   cases dr with
   | true =>
    rw[if_neg (by simp)] at hRi
    simp +decide only[go_sem,nT,nA,nS,nM,nB,reduceIte,reduceCtorEq,h1,h2,h3,h8,h9,h10,hlt',hx,hy,hc2]
    refine HW.quiet 80 follows (by kernel_rfl) ?_
    simp +decide only[go_sem,nT,nA,nS,nM,nB,reduceIte,reduceCtorEq,h1,h2,h3,h8,h9,h10,hlt',hx,hy,hc2]
    repeat (with_reducible refine And.intro ?_ ?_;·(with_reducible and_intros) <;> omega)
    refine ⟨_,_,Ghost.trunc [1,2,3,8,9,10] 3 (by omega) ?_ ?_,l.length-(i+1),by omega,i+1,s',_,rfl,by omega,hr',hf',by simp only[List.length_append,List.length_singleton];omega,hRi,?_,?_,?_,?_,?_,?_,?_⟩
    all_goals first | (simp +decide only[go_sem,nB,reduceIte,h1,h2,h3,h8,List.length_append,List.length_singleton,zBC];done) | (simp +decide only[go_sem,nB,reduceIte];rw[w64 (by omega) (by omega)];rfl) | (simp +decide only[go_sem,nT,nA,nS,nM,nB,reduceIte,reduceCtorEq,List.length_append,List.length_singleton];done)
   | false =>
    simp +decide only[go_sem,nT,nA,nS,nM,nB,reduceIte,reduceCtorEq,h1,h2,h3,h8,h9,h10,hlt',hx,hy,hc2]
    refine HW.quiet 80 follows (by kernel_rfl) ?_
    simp +decide only[go_sem,nT,nA,nS,nM,nB,reduceIte,reduceCtorEq,h1,h2,h3,h8,h9,h10,hlt',hx,hy,hc2]
    refine zE1 3 (zYV p t y.pc hp.small) (by simp only[go_sem]) rfl rfl ?_
    simp +decide only[go_sem,nT,nA,nS,nM,nB,reduceIte,reduceCtorEq,h1,h2,h3,h8,h9,h10,hlt',hx,hy,hc2]
    refine zE1 3 (zRz g (numS p t y.pc) (by omega)) (by simp only[go_sem]) rfl rfl ?_
    cases hh:hasB g (numS p t y.pc) with
    | false =>
     rw[hh,if_neg (by simp)] at hRi
     simp +decide only[go_sem,nT,nA,nS,nM,nB,reduceIte,reduceCtorEq,h1,h2,h3,h8,h9,h10,hlt',hx,hy,hc2]
     repeat (with_reducible refine And.intro ?_ ?_;·(with_reducible and_intros) <;> omega)
     refine ⟨_,_,Ghost.trunc [1,2,3,8,9,10] 3 (by omega) ?_ ?_,l.length-(i+1),by omega,i+1,s',_,rfl,by omega,hr',hf',by simp only[List.length_append,List.length_singleton];omega,hRi,?_,?_,?_,?_,?_,?_,?_⟩
     all_goals first | (simp +decide only[go_sem,nB,reduceIte,h1,h2,h3,h8,List.length_append,List.length_singleton,zBC];done) | (simp +decide only[go_sem,nB,reduceIte];rw[w64 (by omega) (by omega)];rfl) | (simp +decide only[go_sem,nT,nA,nS,nM,nB,reduceIte,reduceCtorEq,List.length_append,List.length_singleton];done)
    | true =>
     rw[hh,if_pos ⟨rfl,rfl⟩] at hRi
     by_cases hbe:y.buf=[]
     ·rw[if_neg (by simp[hbe])] at hRi
      have b0:((0:Int)<(y.buf.length:Int))=False:=by rw[hbe];simp
      simp +decide only[go_sem,nT,nA,nS,nM,nB,reduceIte,reduceCtorEq,h1,h2,h3,h8,h9,h10,hlt',hx,hy,hc2,b0,List.length_append,List.length_singleton]
      repeat (with_reducible refine And.intro ?_ ?_;·(with_reducible and_intros) <;> omega)
      refine ⟨_,_,Ghost.trunc [1,2,3,8,9,10] 3 (by omega) ?_ ?_,l.length-(i+1),by omega,i+1,s',_,rfl,by omega,hr',hf',by simp only[List.length_append,List.length_singleton];omega,hRi,?_,?_,?_,?_,?_,?_,?_⟩
      all_goals first | (simp +decide only[go_sem,nB,reduceIte,h1,h2,h3,h8,List.length_append,List.length_singleton,zBC];done) | (simp +decide only[go_sem,nB,reduceIte];rw[w64 (by omega) (by omega)];rfl) | (simp +decide only[go_sem,nT,nA,nS,nM,nB,reduceIte,reduceCtorEq,List.length_append,List.length_singleton];done)
     ·rw[if_pos hbe] at hRi
      have b0:((0:Int)<(y.buf.length:Int))=True:=by
       have:=List.length_pos_iff.mpr hbe
       simp only[eq_iff_iff,iff_true];omega
      simp +decide only[go_sem,nT,nA,nS,nM,nB,reduceIte,reduceCtorEq,h1,h2,h3,h8,h9,h10,hlt',hx,hy,hc2,b0]
      exact .inr hRi
 ·have hlt' : ((i:Int)<(l.length:Int))=False:=by rw[zO];simp[hlt]
  have e:i=l.length:=by omega
  subst e
  rw[List.drop_length] at hRi
  simp only[zAB] at hRi
  subst hRi
  simp +decide only[go_sem,nT,nA,nS,nM,nB,reduceIte,reduceCtorEq,h1,h2,h3,h8,h9,h10,hlt']
end Go.Proofs.YtoknohandclcbaaGreat
namespace Go.Proofs.YtoknohandclcbaaGreat
open Go.RowKit
set_option maxRecDepth 8000
end Go.Proofs.YtoknohandclcbaaGreat
namespace Go.Proofs.YtoknohandclcbaaGreat
open Go.RowKit
set_option maxRecDepth 8000
def zF0 (s:Sta):List Int:=s.ths.flatMap (·.regs)
set_option maxHeartbeats 4000000 in
theorem z2K (s:Sta) (hm:s.mem.length≤100000) (ht:s.ths.length≤1000) (hr:∀t∈s.ths,t.regs.length≤1000):HFn Tryz.prog 50 [staH s] (.ag [.ow 3 1 (ints s.mem),.ow 3 1 (ints (zF0 s))]):=by
 refine zS (fn:=Tryz.f50) 28 [.cell 2 44] (by kernel_rfl) rfl rfl (by kernel_rfl) (HW.weaken (Q':=fun e=>GQ _ _ (endC _ _ _ _ e)) (HW.run 400 (by kernel_rfl) ?_) (fun _ _ _ h=>h))
 simp +decide only[go_sem,nT,nA,nS,nM,nB,reduceIte,reduceCtorEq]
 repeat (with_reducible refine And.intro ?_ ?_;·(with_reducible and_intros) <;> omega)
 have hfl:∀i,((s.ths.take i).flatMap (·.regs)).length≤1000*i:=by
  intro i
  induction i with
  | zero=>simp
  | succ i ih =>
   rw[List.take_add_one,List.flatMap_append,List.length_append]
   cases hx:s.ths[i]? with
   | none=>simp only[Option.toList_none,List.flatMap_nil,List.length_nil];omega
   | some x=>have:=hr x (List.mem_of_getElem? hx);simp only[Option.toList_some,List.flatMap_cons,List.flatMap_nil,List.append_nil];omega
 refine HW.loopG (fun k T H=>∃i:Nat,k=s.ths.length-i∧i≤s.ths.length∧T 1=.pt 0 1 0 0∧T 2=.pt 1 1 0 0∧T 3=.pt 3 1 0 0∧T 4=.v (.int .i64 i)∧
  H=[some ⟨79,2,[[.sl (ints s.mem),.sl (thds s.ths)]]⟩,some ⟨44,2,[[.v (.slice none 0 0),.v (.slice none 0 0)]]⟩,some ⟨3,1,ints s.mem⟩,some ⟨44,2,[[.hd 2 0 s.mem.length,.hd 4 0 ((s.ths.take i).flatMap (·.regs)).length]]⟩,some ⟨3,1,ints ((s.ths.take i).flatMap (·.regs))⟩]) s.ths.length
  ⟨_,_,(Ghost.cell 3 0 1 (.ow 3 1 []) rfl rfl rfl rfl (Conv.nilOw _ _) (by simp)).trans (Ghost.open 3 0 1),0,rfl,by omega,rfl,rfl,rfl,rfl,rfl⟩ ?_
 rintro k T H ⟨i,rfl,hi,h1,h2,h3,h4,rfl⟩
 refine HW.run 200 (by kernel_rfl) ?_
 have hfi:=hfl i
 by_cases hlt:i<s.ths.length
 ·have hlt' : ((i:Int)<(s.ths.length:Int))=True:=by rw[zO];simp[hlt]
  have hx:s.ths[i]?=some s.ths[i]:=List.getElem?_eq_getElem hlt
  have hxr:=hr _ (List.getElem_mem hlt)
  have htk:(s.ths.take (i+1)).flatMap (·.regs)=(s.ths.take i).flatMap (·.regs)++(s.ths[i]).regs:=by rw[List.take_add_one,hx,List.flatMap_append];simp
  generalize s.ths[i]=x at hx hxr htk
  generalize (s.ths.take i).flatMap (·.regs)=o at hfi htk⊢
  simp +decide only[go_sem,nT,nA,nS,nM,nB,reduceIte,reduceCtorEq,h1,h2,h3,h4,hlt',hx]
  refine HW.mixed 80 8 (5,0) [] follows (by kernel_rfl) (by decide) ?_
  simp +decide only[go_sem,nT,nA,nS,nM,nB,reduceIte,reduceCtorEq,h1,h2,h3,h4,hlt',hx]
  repeat (with_reducible refine And.intro ?_ ?_;·(with_reducible and_intros) <;> omega)
  refine ⟨_,_,Ghost.trunc [1,2,3,4] 5 (by omega) ?_ ?_,s.ths.length-(i+1),by omega,i+1,rfl,by omega,?_,?_,?_,?_,?_⟩
  all_goals first | (simp +decide only[go_sem,nB,reduceIte,h1,h2,h3];done) | (simp +decide only[go_sem,nB,reduceIte];rw[w64 (by omega) (by omega)];rfl) | (simp +decide only[go_sem,nT,nA,nS,nM,nB,reduceIte,reduceCtorEq,htk,List.length_append];done)
 ·have hlt' : ((i:Int)<(s.ths.length:Int))=False:=by rw[zO];simp[hlt]
  have e:s.ths.take i=s.ths:=List.take_of_length_le (by omega)
  simp +decide only[go_sem,nT,nA,nS,nM,nB,reduceIte,reduceCtorEq,h1,h2,h3,h4,hlt',e]
  refine GQ.done ?_
  simp +decide only[go_sem,nT,nA,nS,nM,nB,reduceIte,reduceCtorEq,h2]
  try rfl
end Go.Proofs.YtoknohandclcbaaGreat
namespace Go.Proofs.YtoknohandclcbaaGreat
open Go.RowKit
section
variable {N L:Nat} {T:Nat→HV} {H:Heap}
theorem Ghost.freezeHd (i n len:Nat) {ob:HObj} (hi:T i=.hd n 0 len) (ho:H[n]?=some (some ob)) (hl:len=ob.rows.length):Ghost N L T H (upd T i (.sl (fzoR ob.rows))) (H.set n none):=fun B Z G FP ds a w hL hs=>by
 have hk:=hs.inv.freeze n
 have hG:GLe G (G.set n none):=GLe.kill n
 have hE:Evo Z FP w (Zid Z FP n) (fun j=>if j=n then [] else FP j) w:=zDK n
 have hs':=hs.evo hk hG hE
 refine ⟨_,_,_,⟨hs'.inv,hs'.size,fun c hc=>?_,hs'.defers,hs'.dsn,hs'.dsat⟩,GLt.of hL hG,hE⟩
 unfold upd
 split
 ·rename_i e
  subst e
  have h0:=hs.tmps c hc
  rw[hi] at h0
  obtain ⟨g,hg,hOB,hV⟩:=zEM hs.inv ho (by omega) h0
  unfold View at hV
  simp only[RV]
  cases hb:g.blk with
  | none =>
   rw[hb] at hV
   obtain ⟨hy,_,h2⟩:=hV
   have hr:ob.rows=[]:=List.length_eq_zero_iff.1 (by omega)
   refine ⟨trivial,none,0,?_,?_,by simp[maxLen],.inl ?_⟩
   ·rw[hy,hr];rfl
   ·rw[hr];exact Nat.le_refl _
   ·rw[hr];rfl
  | some b =>
   rw[hb] at hV
   obtain ⟨ad,hy,ha⟩:=hV
   obtain ⟨b',cells,f,q1,q2,q3,q4,q5,q6,q7⟩:=hOB.cells_ hb
   rw[hb] at q1
   cases q1
   have ha':=ha (.inr rfl)
   refine ⟨trivial,some ad,g.cap,?_,by rw[zA3];exact q5,q6,?_⟩
   ·rw[hy,zA3,hl];rfl
   ·right
    refine ⟨b,0,by rw[ha',Nat.zero_mul],.inr (by rw[q2];simp),?_,?_⟩
    ·refine zCF (sz:=ob.sz) fun r hr=>?_
     rw[zCC] at hr
     obtain ⟨r',hr',rfl⟩:=List.mem_map.1 hr
     rw[zA4];exact hOB.len r' hr'
    ·exact zCS ob.rows G b 0 f ⟨fun b hb=>.inl hb,fun b hb=>.inr (by rw[q2];simp[hb])⟩ q7
 ·exact hs'.tmps c hc
end
end Go.Proofs.YtoknohandclcbaaGreat
namespace Go.Proofs.YtoknohandclcbaaGreat
open Go.RowKit
set_option maxRecDepth 8000
abbrev zGI (p:Prg):HV:=.fp [[.sl (ints p.init),.sl (thrs p.thr)]] 0 0
set_option maxHeartbeats 4000000 in
theorem zPB (p:Prg) (s:Sta) (k:Pck) (hp:RightP p) (hs:RightS p s) (hb:∀t∈s.ths,t.buf.length≤100000):HFn Tryz.prog 196 [staH s,pckH k,zGI p] (.tu [staH (zAG p s k).1,.v (.bool (zAG p s k).2)]):=by
 have hst:HFn Tryz.prog 94 [prgH p,staH s,pckH k] (.tu [staH (zAG p s k).1,.v (.bool (zAG p s k).2)]):=HFn.shut (zRA p s k hp hs hb) (by simp only[fzo,fzoL,zAO,zCL])
 generalize zAG p s k=z at hst
 obtain ⟨s',ok⟩:=z
 refine zS (fn:=Tryz.f196) 13 [.cell 5 79,.tmp 6] (by kernel_rfl) rfl rfl (by kernel_rfl) (HW.run 400 (by kernel_rfl) ?_)
 simp +decide only[go_sem,nT,nA,nS,nM,nB,reduceIte,reduceCtorEq]
 refine zC (hst) rfl rfl ?_
 simp +decide only[go_sem,nT,nA,nS,nM,nB,reduceIte,reduceCtorEq]
theorem zYr (s:Sta) (k:Pck):HFn Tryz.prog 166 [staH s,pckH k] (.tu []):=by
 refine zA (fn:=Tryz.f166) 4 [] (by kernel_rfl) rfl (by kernel_rfl) (HW.run 400 (by kernel_rfl) ?_)
 simp +decide only[go_sem,nT,nA,nS,nM,nB,reduceIte,reduceCtorEq]
end Go.Proofs.YtoknohandclcbaaGreat
namespace Go.Proofs.YtoknohandclcbaaGreat
open Go.RowKit
set_option maxRecDepth 8000
structure Ot where
 mem:List Int
 regs:List Int
 deriving DecidableEq
structure Fnd where
 out:Ot
 picks:List Pck
 deriving DecidableEq
structure Prf where
 picks:List Pck
 out:Ot
 slots:List Int
 deriving DecidableEq
structure Ans where
 fences:List Int
 proofs:List Prf
 ends:List Ot
 loose:List Ot
 states:Int
 deriving DecidableEq
def orow (x:Ot):List HV:=[.sl (ints x.mem),.sl (ints x.regs)]
def ots (l:List Ot):List (List HV):=l.map orow
theorem ots_flat:Plain orow 2:=⟨fun _=>rfl,fun _=>rfl⟩
theorem zZU:ots []=[]:=rfl
theorem zPY {a b:List Ot}:ots a++ots b=ots (a++b):=by simp[ots]
theorem zHe {l:List Ot}:(ots l).length=l.length:=by simp[ots]
theorem zZV {l:List Ot} {i:Nat}:(ots l)[i]?=l[i]?.map orow:=by simp[ots]
theorem zWZ {l:List Ot} {i:Nat}:(ots l).drop i=ots (l.drop i):=by simp[ots,List.map_drop]
theorem zWX {l:List Ot} {i:Nat}:(ots l).take i=ots (l.take i):=by simp[ots,List.map_take]
theorem zSS {l:List Ot} {i:Nat} {x:Ot}:(ots l).set i (orow x)=ots (l.set i x):=by simp[ots,List.map_set]
theorem zMK {l:List Ot}:zZ (ots l) 2=True:=ots_flat.rowsLen l
theorem zZT {l:List Ot}:tvs (ots l).flatten=true:=ots_flat.tvs l
theorem zST {l:List Ot} {m:Nat}:nmR m (ots l)=true:=ots_flat.nmR l
theorem z2S {l:List Ot} {k:Nat} {H:Heap}:(ots l).map (fun r=>r.map (fz k H))=ots l:=ots_flat.fz l
theorem zWY {l:List Ot}:fzoR (ots l)=ots l:=ots_flat.fzoR l
attribute [go_sem] zZU zPY zHe zZV zWZ zWX zMK zZT zST z2S zWY orow
def zXH (x:Fnd):List HV:=[.sl (ints x.out.mem),.sl (ints x.out.regs),.sl (pcks x.picks)]
def fds (l:List Fnd):List (List HV):=l.map zXH
theorem fds_flat:Plain zXH 3:=⟨fun _=>rfl,fun _=>rfl⟩
theorem z0w:fds []=[]:=rfl
theorem zPq {a b:List Fnd}:fds a++fds b=fds (a++b):=by simp[fds]
theorem zPp {l:List Fnd}:(fds l).length=l.length:=by simp[fds]
theorem z0x {l:List Fnd} {i:Nat}:(fds l)[i]?=l[i]?.map zXH:=by simp[fds]
theorem zXG {l:List Fnd} {i:Nat}:(fds l).drop i=fds (l.drop i):=by simp[fds,List.map_drop]
theorem zXE {l:List Fnd} {i:Nat}:(fds l).take i=fds (l.take i):=by simp[fds,List.map_take]
theorem zM5 {l:List Fnd}:zZ (fds l) 3=True:=fds_flat.rowsLen l
theorem z0u {l:List Fnd}:tvs (fds l).flatten=true:=fds_flat.tvs l
theorem z0v {l:List Fnd} {m:Nat}:nmR m (fds l)=true:=fds_flat.nmR l
theorem z3t {l:List Fnd} {k:Nat} {H:Heap}:(fds l).map (fun r=>r.map (fz k H))=fds l:=fds_flat.fz l
theorem zXF {l:List Fnd}:fzoR (fds l)=fds l:=fds_flat.fzoR l
attribute [go_sem] z0w zPq zPp z0x zXG zXE zM5 z0u z0v z3t zXF zXH
def zPU (x:Prf):List HV:=[.sl (pcks x.picks),.sl (ints x.out.mem),.sl (ints x.out.regs),.sl (ints x.slots)]
def pfs (l:List Prf):List (List HV):=l.map zPU
theorem pfs_flat:Plain zPU 4:=⟨fun _=>rfl,fun _=>rfl⟩
theorem zZQ:pfs []=[]:=rfl
theorem zPT {a b:List Prf}:pfs a++pfs b=pfs (a++b):=by simp[pfs]
theorem zPS {l:List Prf}:(pfs l).length=l.length:=by simp[pfs]
theorem zZR {l:List Prf} {i:Nat}:(pfs l)[i]?=l[i]?.map zPU:=by simp[pfs]
theorem zWP {l:List Prf} {i:Nat}:(pfs l).drop i=pfs (l.drop i):=by simp[pfs,List.map_drop]
theorem zWN {l:List Prf} {i:Nat}:(pfs l).take i=pfs (l.take i):=by simp[pfs,List.map_take]
theorem zMG {l:List Prf}:zZ (pfs l) 4=True:=pfs_flat.rowsLen l
theorem zZP {l:List Prf}:tvs (pfs l).flatten=true:=pfs_flat.tvs l
theorem zSK {l:List Prf} {m:Nat}:nmR m (pfs l)=true:=pfs_flat.nmR l
theorem z2Q {l:List Prf} {k:Nat} {H:Heap}:(pfs l).map (fun r=>r.map (fz k H))=pfs l:=pfs_flat.fz l
theorem zWO {l:List Prf}:fzoR (pfs l)=pfs l:=pfs_flat.fzoR l
attribute [go_sem] zZQ zPT zPS zZR zWP zWN zMG zZP zSK z2Q zWO zPU
def zR6 (x:List Int):List HV:=[.sl (ints x)]
def rws (l:List (List Int)):List (List HV):=l.map zR6
theorem rws_flat:Plain zR6 1:=⟨fun _=>rfl,fun _=>rfl⟩
theorem zYo:rws []=[]:=rfl
theorem zOx {a b:List (List Int)}:rws a++rws b=rws (a++b):=by simp[rws]
theorem zOw {l:List (List Int)}:(rws l).length=l.length:=by simp[rws]
theorem zYp {l:List (List Int)} {i:Nat}:(rws l)[i]?=l[i]?.map zR6:=by simp[rws]
theorem zV6 {l:List (List Int)} {i:Nat}:(rws l).drop i=rws (l.drop i):=by simp[rws,List.map_drop]
theorem zV5 {l:List (List Int)} {i:Nat}:(rws l).take i=rws (l.take i):=by simp[rws,List.map_take]
theorem zLs {l:List (List Int)}:zZ (rws l) 1=True:=rws_flat.rowsLen l
theorem zYn {l:List (List Int)}:tvs (rws l).flatten=true:=rws_flat.tvs l
theorem zR5 {l:List (List Int)} {m:Nat}:nmR m (rws l)=true:=rws_flat.nmR l
theorem z2A {l:List (List Int)} {k:Nat} {H:Heap}:(rws l).map (fun r=>r.map (fz k H))=rws l:=rws_flat.fz l
theorem zIR {l:List (List Int)}:fzoR (rws l)=rws l:=rws_flat.fzoR l
attribute [go_sem] zYo zOx zOw zYp zV6 zV5 zLs zYn zR5 z2A zIR zR6
abbrev otH (o:Ot):HV:=.ag [.sl (ints o.mem),.sl (ints o.regs)]
abbrev prfH (x:Prf):HV:=.ag [.sl (pcks x.picks),.sl (ints x.out.mem),.sl (ints x.out.regs),.sl (ints x.slots)]
abbrev ansH (a:Ans):HV:=.ag [.sl (ints a.fences),.sl (pfs a.proofs),.sl (ots a.ends),.sl (ots a.loose),.v (.int .i64 a.states)]
theorem zSR {l:List Ot} {a b:List Int}:ots l++[[.sl (ints a),.sl (ints b)]]=ots (l++[⟨a,b⟩]):=by simp[ots,orow]
theorem zR4 {l:List (List Int)} {a:List Int}:rws l++[[.sl (ints a)]]=rws (l++[a]):=by simp[rws,zR6]
theorem zSJ {l:List Prf} {a:List Pck} {b c d:List Int}:pfs l++[[.sl (pcks a),.sl (ints b),.sl (ints c),.sl (ints d)]]=pfs (l++[⟨a,⟨b,c⟩,d⟩]):=by simp[pfs,zPU]
attribute [go_sem] zSR zR4 zSJ
end Go.Proofs.YtoknohandclcbaaGreat
namespace Go.Proofs.YtoknohandclcbaaGreat
open Go.RowKit
set_option maxRecDepth 8000
def idxF {α:Type} (pred:α→Bool) (l:List α):Int:=match l.findIdx? pred with | some i=>(i:Int) | none => -1
section
variable {α:Type} {pred:α→Bool} {l:List α}
theorem zEK {i:Nat} {x:α} (hx:l[i]?=some x) (hp:∀(j:Nat) y,j<i→l[j]?=some y→pred y=false) (h:pred x=true):idxF pred l=(i:Int):=by
 have:l.findIdx? pred=some i:=by
  rw[List.findIdx?_eq_some_iff_getElem]
  obtain ⟨hlt,he⟩:=List.getElem?_eq_some_iff.1 hx
  refine ⟨hlt,by rw[he];exact h,fun j hj=>?_⟩
  rw[hp j _ hj (List.getElem?_eq_getElem (by omega))];simp
 unfold idxF
 rw[this]
theorem zCs (hp:∀(j:Nat) y,l[j]?=some y→pred y=false):idxF pred l = -1:=by
 have:l.findIdx? pred=none:=by
  rw[List.findIdx?_eq_none_iff]
  intro x hx
  obtain ⟨j,hj⟩:=List.getElem?_of_mem hx
  exact hp j x hj
 unfold idxF
 rw[this]
theorem zGX:decide (0≤idxF pred l)=l.any pred:=by
 unfold idxF
 cases h:l.findIdx? pred with
 | none =>
  rw[List.findIdx?_eq_none_iff] at h
  have:l.any pred=false:=by
   rw[List.any_eq_false]
   intro x hx
   rw[h x hx];simp
  rw[this];rfl
 | some i =>
  rw[List.findIdx?_eq_some_iff_getElem] at h
  obtain ⟨h1,h2,_⟩:=h
  have:l.any pred=true:=List.any_eq_true.2 ⟨_,List.getElem_mem h1,h2⟩
  rw[this];simp
theorem zEs:-1≤idxF pred l∧idxF pred l≤l.length:=by
 unfold idxF
 cases h:l.findIdx? pred with
 | none=>simp
 | some i =>
  rw[List.findIdx?_eq_some_iff_getElem] at h
  obtain ⟨h1,h2,_⟩:=h
  simp;try omega
theorem tfE' (p:Prop):(p∧p=True)∨(¬p∧p=False):=by by_cases h:p <;> simp[h]
end
set_option maxHeartbeats 4000000 in
theorem idxI (l:List Int) (f:Nat) (caps:List HV) (pred:Int→Bool) (hl:l.length≤1000000) (hn:∀x∈l,nmL 0 (fnA f .any [.v (.int .i64 x)] caps)=true)
  (h:∀(i:Nat) x,l[i]?=some x→(∀(j:Nat) y,j<i→l[j]?=some y→pred y=false)→HFn Tryz.prog (fnF f) (fnA f .any [.v (.int .i64 x)] caps) (.v (.bool (pred x)))) :
  HFn Tryz.prog 124 [.sl (ints l),.fn f caps] (.v (.int .i64 (idxF pred l))):=by
 refine zA (fn:=Tryz.f124) 19 [4] (by kernel_rfl) rfl (by kernel_rfl) (HW.run 400 (by kernel_rfl) ?_)
 simp +decide only[go_sem,nT,nA,nS,nM,nB,reduceIte,reduceCtorEq]
 refine HW.loopG (fun k T H=>∃i:Nat,k=l.length-i∧i≤l.length∧(∀(j:Nat) y,j<i→l[j]?=some y→pred y=false)∧T 0=.sl (ints l)∧T 1=.fn f caps∧T 7=.v (.int .i64 l.length)∧T 8=.v (.int .i64 i)∧H=[]) l.length ⟨_,_,Ghost.refl,0,rfl,by omega,by simp,rfl,rfl,rfl,rfl,rfl⟩ ?_
 rintro k T H ⟨i,rfl,hil,hp,h0,h1,h7,h8,rfl⟩
 refine HW.run 200 (by kernel_rfl) ?_
 by_cases hlt:i<l.length
 ·have hlt' : ((i:Int)<(l.length:Int))=True:=by simp only[eq_iff_iff,iff_true];omega
  have hx:l[i]?=some l[i]:=List.getElem?_eq_getElem hlt
  have hm:=List.getElem_mem hlt
  generalize l[i]=x at hx hm
  have hc:=h i x hx hp
  have hnn:=hn x hm
  simp +decide only[go_sem,nT,nA,nS,nM,nB,reduceIte,reduceCtorEq,h0,h1,h7,h8,hlt',hx]
  refine zC hc rfl hnn ?_
  cases hb:pred x with
  | true =>
   rw[zEK hx hp hb]
   simp +decide only[go_sem,nT,nA,nS,nM,nB,reduceIte,reduceCtorEq,h0,h1,h7,h8]
  | false =>
   simp +decide only[go_sem,nT,nA,nS,nM,nB,reduceIte,reduceCtorEq,h0,h1,h7,h8]
   refine ⟨_,_,Ghost.refl,l.length-(i+1),by omega,i+1,rfl,by omega,?_,?_,?_,?_,?_,?_⟩
   ·intro j y hj hy
    rcases Nat.lt_or_ge j i with hji | hji
    ·exact hp j y hji hy
    ·obtain rfl:j=i:=by omega
     rw[hx] at hy;cases hy;exact hb
   all_goals first | (simp +decide only[go_sem,nB,reduceIte,h0,h1,h7];done) | (simp +decide only[go_sem,nB,reduceIte];rw[w64 (by omega) (by omega)];rfl) | rfl
 ·have hlt' : ((i:Int)<(l.length:Int))=False:=by simp only[eq_iff_iff,iff_false];omega
  rw[zCs fun j y hy=>hp j y (by have:=(List.getElem?_eq_some_iff.1 hy).1;omega) hy]
  simp +decide only[go_sem,nT,nA,nS,nM,nB,reduceIte,reduceCtorEq,h0,h1,h7,h8,hlt']
theorem conI (l:List Int) (f:Nat) (caps:List HV) (pred:Int→Bool) (hl:l.length≤1000000) (hn:∀x∈l,nmL 0 (fnA f .any [.v (.int .i64 x)] caps)=true) (hc:nmL 0 caps=true)
  (h:∀(i:Nat) x,l[i]?=some x→(∀(j:Nat) y,j<i→l[j]?=some y→pred y=false)→HFn Tryz.prog (fnF f) (fnA f .any [.v (.int .i64 x)] caps) (.v (.bool (pred x)))) :
  HFn Tryz.prog 89 [.sl (ints l),.fn f caps] (.v (.bool (l.any pred))):=by
 have hi:=idxI l f caps pred hl hn h
 rw[←zGX]
 have hr:=zEs (pred:=pred) (l:=l)
 generalize idxF pred l=n at hi hr
 refine zA (fn:=Tryz.f89) 9 [4] (by kernel_rfl) rfl (by kernel_rfl) (HW.run 400 (by kernel_rfl) ?_)
 simp +decide only[go_sem,nT,nA,nS,nM,nB,reduceIte,reduceCtorEq]
 refine zC hi rfl (by simp only[nmL,nm,zEJ,hc,Bool.and_self]) ?_
 rcases tfE' (0≤n) with ⟨d,c⟩ | ⟨d,c⟩
 ·simp +decide only[go_sem,nT,nA,nS,nM,nB,reduceIte,reduceCtorEq,c]
 ·simp +decide only[go_sem,nT,nA,nS,nM,nB,reduceIte,reduceCtorEq,c]
set_option maxHeartbeats 4000000 in
theorem idxR (l:List (List Int)) (f:Nat) (caps:List HV) (pred:(List Int)→Bool) (hl:l.length≤1000000) (hn:∀x∈l,nmL 0 (fnA f .any [.sl (ints x)] caps)=true)
  (h:∀(i:Nat) x,l[i]?=some x→(∀(j:Nat) y,j<i→l[j]?=some y→pred y=false)→HFn Tryz.prog (fnF f) (fnA f .any [.sl (ints x)] caps) (.v (.bool (pred x)))) :
  HFn Tryz.prog 88 [.sl (rws l),.fn f caps] (.v (.int .i64 (idxF pred l))):=by
 refine zA (fn:=Tryz.f88) 19 [4] (by kernel_rfl) rfl (by kernel_rfl) (HW.run 400 (by kernel_rfl) ?_)
 simp +decide only[go_sem,nT,nA,nS,nM,nB,reduceIte,reduceCtorEq]
 refine HW.loopG (fun k T H=>∃i:Nat,k=l.length-i∧i≤l.length∧(∀(j:Nat) y,j<i→l[j]?=some y→pred y=false)∧T 0=.sl (rws l)∧T 1=.fn f caps∧T 7=.v (.int .i64 l.length)∧T 8=.v (.int .i64 i)∧H=[]) l.length ⟨_,_,Ghost.refl,0,rfl,by omega,by simp,rfl,rfl,rfl,rfl,rfl⟩ ?_
 rintro k T H ⟨i,rfl,hil,hp,h0,h1,h7,h8,rfl⟩
 refine HW.run 200 (by kernel_rfl) ?_
 by_cases hlt:i<l.length
 ·have hlt' : ((i:Int)<(l.length:Int))=True:=by simp only[eq_iff_iff,iff_true];omega
  have hx:l[i]?=some l[i]:=List.getElem?_eq_getElem hlt
  have hm:=List.getElem_mem hlt
  generalize l[i]=x at hx hm
  have hc:=h i x hx hp
  have hnn:=hn x hm
  simp +decide only[go_sem,nT,nA,nS,nM,nB,reduceIte,reduceCtorEq,h0,h1,h7,h8,hlt',hx]
  refine zC hc rfl hnn ?_
  cases hb:pred x with
  | true =>
   rw[zEK hx hp hb]
   simp +decide only[go_sem,nT,nA,nS,nM,nB,reduceIte,reduceCtorEq,h0,h1,h7,h8]
  | false =>
   simp +decide only[go_sem,nT,nA,nS,nM,nB,reduceIte,reduceCtorEq,h0,h1,h7,h8]
   refine ⟨_,_,Ghost.refl,l.length-(i+1),by omega,i+1,rfl,by omega,?_,?_,?_,?_,?_,?_⟩
   ·intro j y hj hy
    rcases Nat.lt_or_ge j i with hji | hji
    ·exact hp j y hji hy
    ·obtain rfl:j=i:=by omega
     rw[hx] at hy;cases hy;exact hb
   all_goals first | (simp +decide only[go_sem,nB,reduceIte,h0,h1,h7];done) | (simp +decide only[go_sem,nB,reduceIte];rw[w64 (by omega) (by omega)];rfl) | rfl
 ·have hlt' : ((i:Int)<(l.length:Int))=False:=by simp only[eq_iff_iff,iff_false];omega
  rw[zCs fun j y hy=>hp j y (by have:=(List.getElem?_eq_some_iff.1 hy).1;omega) hy]
  simp +decide only[go_sem,nT,nA,nS,nM,nB,reduceIte,reduceCtorEq,h0,h1,h7,h8,hlt']
theorem conR (l:List (List Int)) (f:Nat) (caps:List HV) (pred:(List Int)→Bool) (hl:l.length≤1000000) (hn:∀x∈l,nmL 0 (fnA f .any [.sl (ints x)] caps)=true) (hc:nmL 0 caps=true)
  (h:∀(i:Nat) x,l[i]?=some x→(∀(j:Nat) y,j<i→l[j]?=some y→pred y=false)→HFn Tryz.prog (fnF f) (fnA f .any [.sl (ints x)] caps) (.v (.bool (pred x)))) :
  HFn Tryz.prog 56 [.sl (rws l),.fn f caps] (.v (.bool (l.any pred))):=by
 have hi:=idxR l f caps pred hl hn h
 rw[←zGX]
 have hr:=zEs (pred:=pred) (l:=l)
 generalize idxF pred l=n at hi hr
 refine zA (fn:=Tryz.f56) 9 [4] (by kernel_rfl) rfl (by kernel_rfl) (HW.run 400 (by kernel_rfl) ?_)
 simp +decide only[go_sem,nT,nA,nS,nM,nB,reduceIte,reduceCtorEq]
 refine zC hi rfl (by simp only[nmL,nm,zR5,hc,Bool.and_self]) ?_
 rcases tfE' (0≤n) with ⟨d,c⟩ | ⟨d,c⟩
 ·simp +decide only[go_sem,nT,nA,nS,nM,nB,reduceIte,reduceCtorEq,c]
 ·simp +decide only[go_sem,nT,nA,nS,nM,nB,reduceIte,reduceCtorEq,c]
set_option maxHeartbeats 4000000 in
theorem idxP (l:List Prf) (f:Nat) (caps:List HV) (pred:Prf→Bool) (hl:l.length≤1000000) (hn:∀x∈l,nmL 0 (fnA f .any [prfH x] caps)=true)
  (h:∀(i:Nat) x,l[i]?=some x→(∀(j:Nat) y,j<i→l[j]?=some y→pred y=false)→HFn Tryz.prog (fnF f) (fnA f .any [prfH x] caps) (.v (.bool (pred x)))) :
  HFn Tryz.prog 31 [.sl (pfs l),.fn f caps] (.v (.int .i64 (idxF pred l))):=by
 refine zA (fn:=Tryz.f31) 19 [4] (by kernel_rfl) rfl (by kernel_rfl) (HW.run 400 (by kernel_rfl) ?_)
 simp +decide only[go_sem,nT,nA,nS,nM,nB,reduceIte,reduceCtorEq]
 refine HW.loopG (fun k T H=>∃i:Nat,k=l.length-i∧i≤l.length∧(∀(j:Nat) y,j<i→l[j]?=some y→pred y=false)∧T 0=.sl (pfs l)∧T 1=.fn f caps∧T 7=.v (.int .i64 l.length)∧T 8=.v (.int .i64 i)∧H=[]) l.length ⟨_,_,Ghost.refl,0,rfl,by omega,by simp,rfl,rfl,rfl,rfl,rfl⟩ ?_
 rintro k T H ⟨i,rfl,hil,hp,h0,h1,h7,h8,rfl⟩
 refine HW.run 200 (by kernel_rfl) ?_
 by_cases hlt:i<l.length
 ·have hlt' : ((i:Int)<(l.length:Int))=True:=by simp only[eq_iff_iff,iff_true];omega
  have hx:l[i]?=some l[i]:=List.getElem?_eq_getElem hlt
  have hm:=List.getElem_mem hlt
  generalize l[i]=x at hx hm
  have hc:=h i x hx hp
  have hnn:=hn x hm
  simp +decide only[go_sem,nT,nA,nS,nM,nB,reduceIte,reduceCtorEq,h0,h1,h7,h8,hlt',hx]
  refine zC hc rfl hnn ?_
  cases hb:pred x with
  | true =>
   rw[zEK hx hp hb]
   simp +decide only[go_sem,nT,nA,nS,nM,nB,reduceIte,reduceCtorEq,h0,h1,h7,h8]
  | false =>
   simp +decide only[go_sem,nT,nA,nS,nM,nB,reduceIte,reduceCtorEq,h0,h1,h7,h8]
   refine ⟨_,_,Ghost.refl,l.length-(i+1),by omega,i+1,rfl,by omega,?_,?_,?_,?_,?_,?_⟩
   ·intro j y hj hy
    rcases Nat.lt_or_ge j i with hji | hji
    ·exact hp j y hji hy
    ·obtain rfl:j=i:=by omega
     rw[hx] at hy;cases hy;exact hb
   all_goals first | (simp +decide only[go_sem,nB,reduceIte,h0,h1,h7];done) | (simp +decide only[go_sem,nB,reduceIte];rw[w64 (by omega) (by omega)];rfl) | rfl
 ·have hlt' : ((i:Int)<(l.length:Int))=False:=by simp only[eq_iff_iff,iff_false];omega
  rw[zCs fun j y hy=>hp j y (by have:=(List.getElem?_eq_some_iff.1 hy).1;omega) hy]
  simp +decide only[go_sem,nT,nA,nS,nM,nB,reduceIte,reduceCtorEq,h0,h1,h7,h8,hlt']
theorem conP (l:List Prf) (f:Nat) (caps:List HV) (pred:Prf→Bool) (hl:l.length≤1000000) (hn:∀x∈l,nmL 0 (fnA f .any [prfH x] caps)=true) (hc:nmL 0 caps=true)
  (h:∀(i:Nat) x,l[i]?=some x→(∀(j:Nat) y,j<i→l[j]?=some y→pred y=false)→HFn Tryz.prog (fnF f) (fnA f .any [prfH x] caps) (.v (.bool (pred x)))) :
  HFn Tryz.prog 69 [.sl (pfs l),.fn f caps] (.v (.bool (l.any pred))):=by
 have hi:=idxP l f caps pred hl hn h
 rw[←zGX]
 have hr:=zEs (pred:=pred) (l:=l)
 generalize idxF pred l=n at hi hr
 refine zA (fn:=Tryz.f69) 9 [4] (by kernel_rfl) rfl (by kernel_rfl) (HW.run 400 (by kernel_rfl) ?_)
 simp +decide only[go_sem,nT,nA,nS,nM,nB,reduceIte,reduceCtorEq]
 refine zC hi rfl (by simp only[nmL,nm,zSK,hc,Bool.and_self]) ?_
 rcases tfE' (0≤n) with ⟨d,c⟩ | ⟨d,c⟩
 ·simp +decide only[go_sem,nT,nA,nS,nM,nB,reduceIte,reduceCtorEq,c]
 ·simp +decide only[go_sem,nT,nA,nS,nM,nB,reduceIte,reduceCtorEq,c]
set_option maxHeartbeats 4000000 in
theorem idxO (l:List Ot) (f:Nat) (caps:List HV) (pred:Ot→Bool) (hl:l.length≤1000000) (hn:∀x∈l,nmL 0 (fnA f .any [otH x] caps)=true)
  (h:∀(i:Nat) x,l[i]?=some x→(∀(j:Nat) y,j<i→l[j]?=some y→pred y=false)→HFn Tryz.prog (fnF f) (fnA f .any [otH x] caps) (.v (.bool (pred x)))) :
  HFn Tryz.prog 133 [.sl (ots l),.fn f caps] (.v (.int .i64 (idxF pred l))):=by
 refine zA (fn:=Tryz.f133) 19 [4] (by kernel_rfl) rfl (by kernel_rfl) (HW.run 400 (by kernel_rfl) ?_)
 simp +decide only[go_sem,nT,nA,nS,nM,nB,reduceIte,reduceCtorEq]
 refine HW.loopG (fun k T H=>∃i:Nat,k=l.length-i∧i≤l.length∧(∀(j:Nat) y,j<i→l[j]?=some y→pred y=false)∧T 0=.sl (ots l)∧T 1=.fn f caps∧T 7=.v (.int .i64 l.length)∧T 8=.v (.int .i64 i)∧H=[]) l.length ⟨_,_,Ghost.refl,0,rfl,by omega,by simp,rfl,rfl,rfl,rfl,rfl⟩ ?_
 rintro k T H ⟨i,rfl,hil,hp,h0,h1,h7,h8,rfl⟩
 refine HW.run 200 (by kernel_rfl) ?_
 by_cases hlt:i<l.length
 ·have hlt' : ((i:Int)<(l.length:Int))=True:=by simp only[eq_iff_iff,iff_true];omega
  have hx:l[i]?=some l[i]:=List.getElem?_eq_getElem hlt
  have hm:=List.getElem_mem hlt
  generalize l[i]=x at hx hm
  have hc:=h i x hx hp
  have hnn:=hn x hm
  simp +decide only[go_sem,nT,nA,nS,nM,nB,reduceIte,reduceCtorEq,h0,h1,h7,h8,hlt',hx]
  refine zC hc rfl hnn ?_
  cases hb:pred x with
  | true =>
   rw[zEK hx hp hb]
   simp +decide only[go_sem,nT,nA,nS,nM,nB,reduceIte,reduceCtorEq,h0,h1,h7,h8]
  | false =>
   simp +decide only[go_sem,nT,nA,nS,nM,nB,reduceIte,reduceCtorEq,h0,h1,h7,h8]
   refine ⟨_,_,Ghost.refl,l.length-(i+1),by omega,i+1,rfl,by omega,?_,?_,?_,?_,?_,?_⟩
   ·intro j y hj hy
    rcases Nat.lt_or_ge j i with hji | hji
    ·exact hp j y hji hy
    ·obtain rfl:j=i:=by omega
     rw[hx] at hy;cases hy;exact hb
   all_goals first | (simp +decide only[go_sem,nB,reduceIte,h0,h1,h7];done) | (simp +decide only[go_sem,nB,reduceIte];rw[w64 (by omega) (by omega)];rfl) | rfl
 ·have hlt' : ((i:Int)<(l.length:Int))=False:=by simp only[eq_iff_iff,iff_false];omega
  rw[zCs fun j y hy=>hp j y (by have:=(List.getElem?_eq_some_iff.1 hy).1;omega) hy]
  simp +decide only[go_sem,nT,nA,nS,nM,nB,reduceIte,reduceCtorEq,h0,h1,h7,h8,hlt']
end Go.Proofs.YtoknohandclcbaaGreat
namespace Go.Proofs.YtoknohandclcbaaGreat
set_option maxRecDepth 8000
def zAV:List Int→List Int→Bool
 | [],[]=>false
 | [],_::_=>true
 | _::_,[]=>false
 | a::x,b::y=>if a=b then zAV x y else decide (a<b)
def cmpI (a b:Int):Int:=if a<b then -1 else if b<a then 1 else 0
def cmpL:List Int→List Int→Int
 | [],[]=>0
 | [],_::_ => -1
 | _::_,[]=>1
 | a::x,b::y=>if cmpI a b≠0 then cmpI a b else cmpL x y
theorem zEX {a b:Int}:cmpI a b=0↔a=b:=by
 unfold cmpI
 split
 ·constructor
  ·intro h;cases h
  ·intro h;omega
 ·split
  ·constructor
   ·intro h;cases h
   ·intro h;omega
  ·constructor <;> omega
theorem zXq {a b:Int}:cmpI a b<0↔a<b:=by
 unfold cmpI
 split
 ·simp;omega
 ·split
  ·simp;omega
  ·simp;omega
theorem zBt:∀{a b:List Int},cmpL a b=0↔a=b
 | [],[]=>by simp[cmpL]
 | [],_::_=>by simp[cmpL]
 | _::_,[]=>by simp[cmpL]
 | a::x,b::y=>by
  unfold cmpL
  by_cases h:cmpI a b=0
  ·rw[if_neg (by simp[h]),zBt (a:=x) (b:=y)]
   have:=zEX.1 h
   subst this;simp
  ·rw[if_pos h]
   constructor
   ·intro e;exact absurd e h
   ·intro e;simp at e;exact absurd (zEX.2 e.1) h
theorem zJB:∀{a b:List Int},cmpL a b<0↔zAV a b=true
 | [],[]=>by simp[cmpL,zAV]
 | [],_::_=>by simp[cmpL,zAV]
 | _::_,[]=>by simp[cmpL,zAV]
 | a::x,b::y=>by
  unfold cmpL zAV
  by_cases h:cmpI a b=0
  ·have e:=zEX.1 h
   subst e
   rw[if_neg (by simp[h]),zJB (a:=x) (b:=y),if_pos rfl]
  ·have e:a≠b:=fun e=>h (zEX.2 e)
   rw[if_pos h,if_neg e,zXq];simp
theorem zGv:∀a:List Int,zAV a a=false
 | []=>rfl
 | a::x=>by unfold zAV;rw[if_pos rfl];exact zGv x
theorem zDk:∀{a b c:List Int},zAV a b=true→zAV b c=true→zAV a c=true
 | [],[],c,h,_=>by simp[zAV] at h
 | [],_::_,[],_,h=>by simp[zAV] at h
 | [],_::_,_::_,_,_=>rfl
 | _::_,[],c,h,_=>by simp[zAV] at h
 | _::_,_::_,[],_,h=>by simp[zAV] at h
 | a::x,b::y,c::z,h1,h2=>by
  unfold zAV at h1 h2⊢
  by_cases e1:a=b
  ·subst e1
   rw[if_pos rfl] at h1
   by_cases e2:a=c
   ·subst e2
    rw[if_pos rfl] at h2⊢
    exact zDk h1 h2
   ·rw[if_neg e2] at h2⊢;exact h2
  ·rw[if_neg e1] at h1
   have h1:a<b:=by simpa using h1
   by_cases e2:b=c
   ·subst e2
    rw[if_neg e1];simpa using h1
   ·rw[if_neg e2] at h2
    have h2:b<c:=by simpa using h2
    rw[if_neg (by omega)];simp;omega
theorem zGu:∀(a b:List Int),zAV a b=true∨a=b∨zAV b a=true
 | [],[]=>.inr (.inl rfl)
 | [],_::_=>.inl rfl
 | _::_,[]=>.inr (.inr rfl)
 | a::x,b::y=>by
  unfold zAV
  by_cases e:a=b
  ·subst e
   rw[if_pos rfl,if_pos rfl]
   rcases zGu x y with h | h | h
   ·exact .inl h
   ·exact .inr (.inl (by rw[h]))
   ·exact .inr (.inr h)
  ·rw[if_neg e,if_neg (fun h=>e h.symm)]
   rcases Int.lt_or_gt_of_ne e with h | h
   ·exact .inl (by simpa using h)
   ·exact .inr (.inr (by simpa using h))
def zBL (a b:Ot):Bool:=if a.mem=b.mem then zAV a.regs b.regs else zAV a.mem b.mem
def cmpO (a b:Ot):Int:=if cmpL a.mem b.mem≠0 then cmpL a.mem b.mem else cmpL a.regs b.regs
theorem zON {a b:Ot}:cmpO a b<0↔zBL a b=true:=by
 unfold cmpO zBL
 by_cases h:a.mem=b.mem
 ·rw[if_neg (by simp[zBt,h]),if_pos h,zJB]
 ·rw[if_pos (by simp[zBt,h]),if_neg h,zJB]
theorem zUR {a b:Ot}:cmpO a b=0↔a=b:=by
 obtain ⟨am,ar⟩:=a
 obtain ⟨bm,br⟩:=b
 unfold cmpO
 by_cases h:am=bm
 ·subst h
  rw[if_neg (by simp[zBt]),zBt];simp
 ·rw[if_pos (by simp[zBt,h]),zBt];simp[h]
theorem zEH (a:Ot):zBL a a=false:=by unfold zBL;rw[if_pos rfl];exact zGv _
theorem zGP {a b c:Ot} (h1:zBL a b=true) (h2:zBL b c=true):zBL a c=true:=by
 unfold zBL at h1 h2⊢
 by_cases e1:a.mem=b.mem
 ·rw[if_pos e1] at h1
  rw[e1]
  by_cases e2:b.mem=c.mem
  ·rw[if_pos e2] at h2⊢;exact zDk h1 h2
  ·rw[if_neg e2] at h2⊢;exact h2
 ·rw[if_neg e1] at h1
  by_cases e2:b.mem=c.mem
  ·rw[←e2,if_neg e1];exact h1
  ·rw[if_neg e2] at h2
   have h3:=zDk h1 h2
   rw[if_neg (fun e=>by rw[e,zGv] at h3;cases h3)];exact h3
theorem zS5 (a b:Ot):zBL a b=true∨a=b∨zBL b a=true:=by
 obtain ⟨am,ar⟩:=a
 obtain ⟨bm,br⟩:=b
 unfold zBL
 by_cases e:am=bm
 ·subst e
  rw[if_pos rfl,if_pos rfl]
  rcases zGu ar br with h | h | h
  ·exact .inl h
  ·exact .inr (.inl (by rw[h]))
  ·exact .inr (.inr h)
 ·have e' : ¬bm=am:=fun h=>e h.symm
  rw[if_neg e,if_neg e']
  rcases zGu am bm with h | h | h
  ·exact .inl h
  ·exact absurd h e
  ·exact .inr (.inr h)
def setO:List Ot→Bool
 | []=>true
 | [_]=>true
 | a::b::r=>zBL a b && setO (b::r)
def hasO (l:List Ot) (o:Ot):Bool:=decide (o∈l)
def zBM (a b:List Ot):List Ot:=a.filter fun o=>!hasO b o
def SetO (l:List Ot):Prop:=l.Pairwise fun a b=>zBL a b=true
theorem zF8:∀{l:List Ot},setO l=true↔SetO l
 | []=>by simp[setO,SetO]
 | [a]=>by simp[setO,SetO]
 | a::b::r=>by
  have ih:=zF8 (l:=b::r)
  unfold setO
  rw[Bool.and_eq_true,ih]
  constructor
  ·rintro ⟨h1,h2⟩
   refine List.pairwise_cons.2 ⟨fun x hx=>?_,h2⟩
   rcases List.mem_cons.1 hx with rfl | hx
   ·exact h1
   ·exact zGP h1 ((List.pairwise_cons.1 h2).1 x hx)
  ·intro h
   have:=List.pairwise_cons.1 h
   exact ⟨this.1 b (by simp),this.2⟩
def posO (l:List Ot) (o:Ot):Nat:=(l.takeWhile fun x=>zBL x o).length
theorem zZO (l:List Ot) (o:Ot):posO l o≤l.length:=List.takeWhile_sublist _ |>.length_le
theorem zI6 {o:Ot}:∀{l:List Ot},SetO l→∀(i:Nat) (x:Ot),l[i]?=some x→(zBL x o=true↔i<posO l o)
 | [],_,i,x,h=>by simp at h
 | a::l,hs,i,x,h=>by
  obtain ⟨h1,h2⟩:=List.pairwise_cons.1 hs
  have ih:=zI6 (o:=o) h2
  by_cases ha:zBL a o=true
  ·have e:posO (a::l) o=posO l o+1:=by simp[posO,List.takeWhile_cons,ha]
   rw[e]
   cases i with
   | zero=>simp at h;subst h;simp[ha]
   | succ i=>rw[ih i x (by simpa using h)];omega
  ·have e:posO (a::l) o=0:=by simp[posO,List.takeWhile_cons,ha]
   rw[e]
   cases i with
   | zero=>simp at h;subst h;simp[ha]
   | succ i =>
    have hm:x∈l:=List.mem_of_getElem? (by simpa using h)
    constructor
    ·intro hx;exact absurd (zGP (h1 x hm) hx) ha
    ·intro hx;omega
theorem zWM {o:Ot} {l:List Ot} (hs:SetO l):hasO l o=true↔l[posO l o]?=some o:=by
 unfold hasO
 rw[decide_eq_true_iff]
 constructor
 ·intro hm
  obtain ⟨i,hi⟩:=List.getElem?_of_mem hm
  have h1:=zI6 (o:=o) hs i o hi
  rw[zEH] at h1
  have hge:posO l o≤i:=by
   rcases Nat.lt_or_ge i (posO l o) with h | h
   ·exact absurd (h1.2 h) (by simp)
   ·exact h
  rcases Nat.lt_or_ge (posO l o) i with h | h
  ·have hlt:posO l o<l.length:=by have:=(List.getElem?_eq_some_iff.1 hi).1;omega
   have hy:l[posO l o]?=some l[posO l o]:=List.getElem?_eq_getElem hlt
   have h2:=zI6 (o:=o) hs _ _ hy
   have hp:=List.pairwise_iff_getElem.1 hs (posO l o) i hlt (List.getElem?_eq_some_iff.1 hi).1 h
   rw[(List.getElem?_eq_some_iff.1 hi).2] at hp
   have:=h2.1 hp
   omega
  ·have:i=posO l o:=by omega
   rw[←this];exact hi
 ·intro h;exact List.mem_of_getElem? h
end Go.Proofs.YtoknohandclcbaaGreat
namespace Go.Proofs.YtoknohandclcbaaGreat
open Go.RowKit
set_option maxRecDepth 8000
theorem zY5 (n:Int):HFn Tryz.prog 203 [.v (.int .i64 n)] (.v (.bool false)):=by
 refine zA (fn:=Tryz.f203) 6 [2] (by kernel_rfl) rfl (by kernel_rfl) (HW.run 400 (by kernel_rfl) ?_)
 simp +decide only[go_sem,nT,nA,nS,nM,nB,reduceIte,reduceCtorEq]
theorem zQa (a b:Int):HFn Tryz.prog 207 [.v (.int .i64 a),.v (.int .i64 b)] (.v (.int .i64 (cmpI a b))):=by
 refine zA (fn:=Tryz.f207) 20 [4] (by kernel_rfl) rfl (by kernel_rfl) (HW.run 400 (by kernel_rfl) ?_)
 simp +decide only[go_sem,nT,nA,nS,nM,nB,reduceIte,reduceCtorEq]
 refine zC (zY5 a) rfl rfl ?_
 simp +decide only[go_sem,nT,nA,nS,nM,nB,reduceIte,reduceCtorEq]
 refine zC (zY5 b) rfl rfl ?_
 unfold cmpI
 rcases tfE' (a<b) with ⟨d,c⟩ | ⟨d,c⟩
 ·simp +decide only[go_sem,nT,nA,nS,nM,nB,reduceIte,reduceCtorEq,c]
 ·rcases tfE' (b<a) with ⟨d1,c1⟩ | ⟨d1,c1⟩
  ·simp +decide only[go_sem,nT,nA,nS,nM,nB,reduceIte,reduceCtorEq,c,c1]
  ·simp +decide only[go_sem,nT,nA,nS,nM,nB,reduceIte,reduceCtorEq,c,c1]
set_option maxHeartbeats 4000000 in
theorem zDv (a b:List Int) (ha:a.length≤1000000) (hb:b.length≤1000000):HFn Tryz.prog 194 [.sl (ints a),.sl (ints b)] (.v (.int .i64 (cmpL a b))):=by
 refine zA (fn:=Tryz.f194) 36 [4] (by kernel_rfl) rfl (by kernel_rfl) (HW.run 400 (by kernel_rfl) ?_)
 simp +decide only[go_sem,nT,nA,nS,nM,nB,reduceIte,reduceCtorEq]
 refine HW.loopG (fun k T H=>∃i:Nat,k=a.length-i∧i≤a.length∧i≤b.length∧cmpL a b=cmpL (a.drop i) (b.drop i)∧T 0=.sl (ints a)∧T 1=.sl (ints b)∧T 9=.sl (ints a)∧T 10=.v (.int .i64 a.length)∧T 11=.v (.int .i64 i)∧H=[]) a.length ⟨_,_,Ghost.refl,0,rfl,by omega,by omega,rfl,rfl,rfl,rfl,rfl,rfl,rfl⟩ ?_
 rintro k T H ⟨i,rfl,hia,hib,hI,h0,h1,h9,h10,h11,rfl⟩
 refine HW.run 200 (by kernel_rfl) ?_
 by_cases hlt:i<a.length
 ·have hlt' : ((i:Int)<(a.length:Int))=True:=by simp only[eq_iff_iff,iff_true];omega
  have hx:a[i]?=some a[i]:=List.getElem?_eq_getElem hlt
  have hdr:a.drop i=a[i]::a.drop (i+1):=List.drop_eq_getElem_cons hlt
  generalize a[i]=x at hx hdr
  by_cases hlb:i<b.length
  ·have hlb' : ((b.length:Int)≤(i:Int))=False:=by simp only[eq_iff_iff,iff_false];omega
   have hlb2:((i:Int)<(b.length:Int))=True:=by simp only[eq_iff_iff,iff_true];omega
   have hy:b[i]?=some b[i]:=List.getElem?_eq_getElem hlb
   have hdb:b.drop i=b[i]::b.drop (i+1):=List.drop_eq_getElem_cons hlb
   generalize b[i]=y at hy hdb
   rw[hdr,hdb,cmpL] at hI
   have hc:=zQa x y
   simp +decide only[go_sem,nT,nA,nS,nM,nB,reduceIte,reduceCtorEq,h0,h1,h9,h10,h11,hlt',hx,hlb',hlb2,hy]
   refine zC (hc) rfl rfl ?_
   by_cases hz:cmpI x y=0
   ·rw[if_neg (by simp[hz])] at hI
    simp +decide only[go_sem,nT,nA,nS,nM,nB,reduceIte,reduceCtorEq,h0,h1,h9,h10,h11,hz]
    refine ⟨_,_,Ghost.refl,a.length-(i+1),by omega,i+1,rfl,by omega,by omega,hI,?_,?_,?_,?_,?_,?_⟩
    all_goals first | (simp +decide only[go_sem,nB,reduceIte,h0,h1,h9,h10];done) | (simp +decide only[go_sem,nB,reduceIte];rw[w64 (by omega) (by omega)];rfl) | rfl
   ·rw[if_pos hz] at hI
    rw[hI]
    have hz' : (cmpI x y=0)=False:=eq_false hz
    simp +decide only[go_sem,nT,nA,nS,nM,nB,reduceIte,reduceCtorEq,h0,h1,h9,h10,h11,hz']
  ·have hlb' : ((b.length:Int)≤(i:Int))=True:=by simp only[eq_iff_iff,iff_true];omega
   rw[hdr,List.drop_of_length_le (by omega:b.length≤i),cmpL] at hI
   rw[hI]
   simp +decide only[go_sem,nT,nA,nS,nM,nB,reduceIte,reduceCtorEq,h0,h1,h9,h10,h11,hlt',hx,hlb']
 ·have hlt' : ((i:Int)<(a.length:Int))=False:=by simp only[eq_iff_iff,iff_false];omega
  rw[List.drop_of_length_le (by omega:a.length≤i)] at hI
  rw[hI]
  by_cases hlb:a.length<b.length
  ·have hlb' : ((a.length:Int)<(b.length:Int))=True:=by simp only[eq_iff_iff,iff_true];omega
   have:b.drop i≠[]:=by
    intro e
    have:=congrArg List.length e
    simp at this;omega
   have e:cmpL [] (b.drop i) = -1:=by
    cases hd:b.drop i with
    | nil=>exact absurd hd this
    | cons=>rfl
   rw[e]
   simp +decide only[go_sem,nT,nA,nS,nM,nB,reduceIte,reduceCtorEq,h0,h1,h9,h10,h11,hlt',hlb']
  ·have hlb' : ((a.length:Int)<(b.length:Int))=False:=by simp only[eq_iff_iff,iff_false];omega
   rw[List.drop_of_length_le (by omega:b.length≤i)]
   simp +decide only[go_sem,nT,nA,nS,nM,nB,reduceIte,reduceCtorEq,h0,h1,h9,h10,h11,hlt',hlb']
   rfl
def orF:List Int→Int
 | []=>0
 | x::l=>if x=0 then orF l else x
set_option maxHeartbeats 4000000 in
theorem yBQ (l:List Int) (hl:l.length≤1000000):HFn Tryz.prog 193 [.sl (ints l)] (.v (.int .i64 (orF l))):=by
 refine zA (fn:=Tryz.f193) 18 [2] (by kernel_rfl) rfl (by kernel_rfl) (HW.run 400 (by kernel_rfl) ?_)
 simp +decide only[go_sem,nT,nA,nS,nM,nB,reduceIte,reduceCtorEq]
 refine HW.loopG (fun k T H=>∃i:Nat,k=l.length-i∧i≤l.length∧orF l=orF (l.drop i)∧T 3=.v (.int .i64 0)∧T 6=.sl (ints l)∧T 7=.v (.int .i64 l.length)∧T 8=.v (.int .i64 i)∧H=[]) l.length ⟨_,_,Ghost.refl,0,rfl,by omega,rfl,rfl,rfl,rfl,rfl,rfl⟩ ?_
 rintro k T H ⟨i,rfl,hil,hI,h3,h6,h7,h8,rfl⟩
 refine HW.run 200 (by kernel_rfl) ?_
 by_cases hlt:i<l.length
 ·have hlt' : ((i:Int)<(l.length:Int))=True:=by simp only[eq_iff_iff,iff_true];omega
  have hx:l[i]?=some l[i]:=List.getElem?_eq_getElem hlt
  have hdr:l.drop i=l[i]::l.drop (i+1):=List.drop_eq_getElem_cons hlt
  generalize l[i]=x at hx hdr
  rw[hdr,orF] at hI
  by_cases hz:x=0
  ·rw[if_pos hz] at hI
   simp +decide only[go_sem,nT,nA,nS,nM,nB,reduceIte,reduceCtorEq,h3,h6,h7,h8,hlt',hx,hz]
   refine ⟨_,_,Ghost.refl,l.length-(i+1),by omega,i+1,rfl,by omega,hI,?_,?_,?_,?_,?_⟩
   all_goals first | (simp +decide only[go_sem,nB,reduceIte,h3,h6,h7];done) | (simp +decide only[go_sem,nB,reduceIte];rw[w64 (by omega) (by omega)];rfl) | rfl
  ·rw[if_neg hz] at hI
   rw[hI]
   have hz' : (x=0)=False:=eq_false hz
   simp +decide only[go_sem,nT,nA,nS,nM,nB,reduceIte,reduceCtorEq,h3,h6,h7,h8,hlt',hx,hz']
 ·have hlt' : ((i:Int)<(l.length:Int))=False:=by simp only[eq_iff_iff,iff_false];omega
  rw[List.drop_of_length_le (by omega)] at hI
  rw[hI]
  simp +decide only[go_sem,nT,nA,nS,nM,nB,reduceIte,reduceCtorEq,h3,h6,h7,h8,hlt']
  rfl
structure SmallO (o:Ot):Prop where
 mem:o.mem.length≤1000000
 regs:o.regs.length≤1000000
theorem zZW {a b:Ot}:orF [cmpL a.mem b.mem,cmpL a.regs b.regs]=cmpO a b:=by
 unfold cmpO orF
 by_cases h:cmpL a.mem b.mem=0
 ·rw[if_pos h,if_neg (by simp[h])]
  unfold orF
  split
  ·rename_i h2;rw[h2];rfl
  ·rfl
 ·rw[if_neg h,if_pos h]
set_option maxHeartbeats 4000000 in
theorem zOL (a b:Ot) (ha:SmallO a) (hb:SmallO b):HFn Tryz.prog 162 [otH a,otH b] (.v (.int .i64 (cmpO a b))):=by
 have h1:=zDv a.mem b.mem ha.mem hb.mem
 have h2:=zDv a.regs b.regs ha.regs hb.regs
 have h3:=yBQ [cmpL a.mem b.mem,cmpL a.regs b.regs] (by simp)
 rw[zZW] at h3
 generalize cmpL a.mem b.mem=x at h1 h3
 generalize cmpL a.regs b.regs=y at h2 h3
 generalize cmpO a b=z at h3
 refine zA (fn:=Tryz.f162) 21 [4] (by kernel_rfl) rfl (by kernel_rfl) (HW.run 400 (by kernel_rfl) ?_)
 simp +decide only[go_sem,nT,nA,nS,nM,nB,reduceIte,reduceCtorEq]
 refine HW.tree 1 (.light 0 (.light 1 (.light 2 (.light 3 (.light 4 (.light 5 (.light 7 (.light 8 (.light 9 (.light 10 (.light 11 (.light 12 (.heavy 6 [7,8,9,10,11,12] (.heavy 13 [] (.heavy 14 [] (.heavy 15 [] (.light 16 .leaf) .stop) .stop) .stop) .stop))))))))))))) follows (by kernel_rfl) (by kernel_rfl) ?_
 simp +decide only[go_sem,nT,nA,nS,nM,nB,reduceIte,reduceCtorEq]
 refine zC (h1) rfl rfl ?_
 simp +decide only[go_sem,nT,nA,nS,nM,nB,reduceIte,reduceCtorEq]
 refine zC (h2) rfl rfl ?_
 simp +decide only[go_sem,nT,nA,nS,nM,nB,reduceIte,reduceCtorEq]
 refine zJ 3 h3 (by simp only[go_sem];rfl) rfl ?_
 simp +decide only[go_sem,nT,nA,nS,nM,nB,reduceIte,reduceCtorEq]
theorem zKF (a b:Ot) (ha:SmallO a) (hb:SmallO b):HFn Tryz.prog 135 [otH a,otH b] (.v (.int .i64 (cmpO a b))):=by
 refine zA (fn:=Tryz.f135) 10 [4] (by kernel_rfl) rfl (by kernel_rfl) (HW.run 400 (by kernel_rfl) ?_)
 simp +decide only[go_sem,nT,nA,nS,nM,nB,reduceIte,reduceCtorEq]
 refine zC (zOL a b ha hb) rfl rfl ?_
 simp +decide only[go_sem,nT,nA,nS,nM,nB,reduceIte,reduceCtorEq]
theorem z10 (a b:Ot):decide (cmpO a b<0)=zBL a b:=by
 rw[Bool.eq_iff_iff,decide_eq_true_iff,zON]
theorem zSQ (a b:Ot) (ha:SmallO a) (hb:SmallO b):HFn Tryz.prog 132 [.ic 168 (otH a),otH b] (.v (.bool (zBL a b))):=by
 have he:=zOL a b ha hb
 rw[←z10]
 generalize cmpO a b=z at he
 refine zA (fn:=Tryz.f132) 9 [4] (by kernel_rfl) rfl (by kernel_rfl) (HW.run 400 (by kernel_rfl) ?_)
 simp +decide only[go_sem,nT,nA,nS,nM,nB,reduceIte,reduceCtorEq]
 refine zC (he) rfl rfl ?_
 rcases tfE' (z<0) with ⟨d,c⟩ | ⟨d,c⟩
 ·simp +decide only[go_sem,nT,nA,nS,nM,nB,reduceIte,reduceCtorEq,c]
 ·simp +decide only[go_sem,nT,nA,nS,nM,nB,reduceIte,reduceCtorEq,c]
theorem zI7 (a b:Ot) (ha:SmallO a) (hb:SmallO b):HFn Tryz.prog 103 [otH a,otH b] (.v (.bool (zBL a b))):=by
 refine zA (fn:=Tryz.f103) 11 [4] (by kernel_rfl) rfl (by kernel_rfl) (HW.run 400 (by kernel_rfl) ?_)
 simp +decide only[go_sem,nT,nA,nS,nM,nB,reduceIte,reduceCtorEq]
 refine zC (zSQ a b ha hb) rfl rfl ?_
 simp +decide only[go_sem,nT,nA,nS,nM,nB,reduceIte,reduceCtorEq]
theorem zJh {l:List Ot}:∀{i:Nat} {x y:Ot},l[i]?=some x→l[i+1]?=some y→setO (l.drop i)=(zBL x y && setO (l.drop (i+1))):=by
 intro i x y hx hy
 have h1:l.drop i=x::l.drop (i+1):=by
  obtain ⟨h,e⟩:=List.getElem?_eq_some_iff.1 hx
  rw[←e];exact List.drop_eq_getElem_cons h
 have h2:l.drop (i+1)=y::l.drop (i+2):=by
  obtain ⟨h,e⟩:=List.getElem?_eq_some_iff.1 hy
  rw[←e];exact List.drop_eq_getElem_cons h
 rw[h1,h2,setO]
set_option maxHeartbeats 4000000 in
theorem zSO (l:List Ot) (hl:l.length≤1000000) (ho:∀o∈l,SmallO o):HFn Tryz.prog 67 [.sl (ots l)] (.v (.bool (setO l))):=by
 refine zA (fn:=Tryz.f67) 21 [2] (by kernel_rfl) rfl (by kernel_rfl) (HW.run 400 (by kernel_rfl) ?_)
 simp +decide only[go_sem,nT,nA,nS,nM,nB,reduceIte,reduceCtorEq]
 refine HW.loopG (fun k T H=>∃i:Nat,k=l.length-i∧i≤l.length+1∧1≤i∧setO l=setO (l.drop (i-1))∧T 0=.sl (ots l)∧T 3=.v (.int .i64 i)∧H=[]) (l.length-1) ⟨_,_,Ghost.refl,1,rfl,by omega,by omega,rfl,rfl,rfl,rfl⟩ ?_
 rintro k T H ⟨i,rfl,hil,hi1,hI,h0,h3,rfl⟩
 refine HW.run 200 (by kernel_rfl) ?_
 by_cases hlt:i<l.length
 ·have hlt' : ((i:Int)<(l.length:Int))=True:=by simp only[eq_iff_iff,iff_true];omega
  have w1:IntKind.i64.wrap ((i:Int)-1)=((i-1:Nat):Int):=by rw[w64 (by omega) (by omega)];omega
  have hlt2:(((i-1:Nat):Int)<(l.length:Int))=True:=by simp only[eq_iff_iff,iff_true];omega
  have hx:l[i]?=some l[i]:=List.getElem?_eq_getElem hlt
  have hy:l[i-1]?=some (l[i-1]'(by omega)):=List.getElem?_eq_getElem (by omega)
  have ho1:=ho _ (List.getElem_mem hlt)
  have ho2:=ho _ (List.getElem_mem (by omega:i-1<l.length))
  generalize l[i]=x at hx ho1
  generalize l[i-1]'(by omega)=y at hy ho2
  have hs:=zJh hy (by rw[show i-1+1=i by omega];exact hx)
  rw[show i-1+1=i by omega] at hs
  rw[hs] at hI
  have hL:=zI7 y x ho2 ho1
  simp +decide only[go_sem,nT,nA,nS,nM,nB,reduceIte,reduceCtorEq,h0,h3,hlt']
  refine HW.tree 1 (.light 0 (.light 1 (.light 2 (.light 3 (.light 4 (.light 5 (.light 6 (.light 7 (.light 8 (.heavy 9 [] (.light 10 .leaf) .stop)))))))))) follows (by kernel_rfl) (by kernel_rfl) ?_
  simp +decide only[go_sem,nT,nA,nS,nM,nB,reduceIte,reduceCtorEq,h0,h3,hlt',w1,hlt2,hx,hy]
  refine zC (hL) rfl rfl ?_
  cases hb:zBL y x with
  | true =>
   rw[hb,Bool.true_and] at hI
   simp +decide only[go_sem,nT,nA,nS,nM,nB,reduceIte,reduceCtorEq,h0,h3]
   refine ⟨_,_,Ghost.refl,l.length-(i+1),by omega,i+1,rfl,by omega,by omega,by rw[hI,Nat.add_sub_cancel],?_,?_,rfl⟩
   all_goals first | (simp +decide only[go_sem,nB,reduceIte,h0];done) | (simp +decide only[go_sem,nB,reduceIte];rw[w64 (by omega) (by omega)];rfl)
  | false =>
   rw[hb,Bool.false_and] at hI
   rw[hI]
   simp +decide only[go_sem,nT,nA,nS,nM,nB,reduceIte,reduceCtorEq,h0,h3]
 ·have hlt' : ((i:Int)<(l.length:Int))=False:=by simp only[eq_iff_iff,iff_false];omega
  have:setO l=true:=by
   rw[hI]
   have hlen:(l.drop (i-1)).length≤1:=by simp;omega
   match hd:l.drop (i-1),hlen with
   | [],_=>rfl
   | [_],_=>rfl
   | _::_::_,h=>simp at h
  rw[this]
  simp +decide only[go_sem,nT,nA,nS,nM,nB,reduceIte,reduceCtorEq,h0,h3,hlt']
end Go.Proofs.YtoknohandclcbaaGreat
