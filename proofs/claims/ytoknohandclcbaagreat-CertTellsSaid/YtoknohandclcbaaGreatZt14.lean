/- Parts of the proof: Gt, Ic, Gn, Gc, Gg, Gp, Gq, Gh. -/
import Derived.Test.YtoknohandclcbaaGreatZt13
import Derived.Test.YtoknohandclcbaaGreatZt08
import Derived.Test.YtoknohandclcbaaGreatZt12
import Derived.WalkSmall
import Derived.Test.YtoknohandclcbaaGreatZt09
open Nat renaming reduceAdd → nA, reduceSub → nS, reduceMul → nM, reduceBEq → nB
open Int renaming reduceToNat → nT
set_option linter.unusedSectionVars false
set_option linter.unusedVariables false
set_option linter.unusedSimpArgs false
namespace Go.Proofs.YtoknohandclcbaaGreat
open Go.RowKit
set_option maxRecDepth 8000
theorem zJo (p:Prg) (s:Sta) (k:Pck) (hp:RightP p) (hs:RightS p s) (hb:∀t∈s.ths,t.buf.length≤100000):HFn Tryz.prog 195 [staH s,pckH k,zGI p] (.tu [staH (zAU p s k false).1,.v (.bool (zAU p s k false).2)]):=by
 have hst:HFn Tryz.prog 158 [prgH p,staH s,.v (.int .i64 k.th)] (.tu [staH (zCk p s k.th).1,.v (.bool (zCk p s k.th).2)]):=HFn.shut (zYR p s k.th hp hs hb) (by simp only[fzo,fzoL,zAO,zCL])
 have e:zAU p s k false=if k.dr=true then (s,false) else zCk p s k.th:=by unfold zAU;rw[if_neg (by simp)]
 rw[e]
 generalize zCk p s k.th=z at hst
 obtain ⟨s',ok⟩:=z
 refine zS (fn:=Tryz.f195) 17 [.cell 5 79,.tmp 6] (by kernel_rfl) rfl rfl (by kernel_rfl) (HW.run 400 (by kernel_rfl) ?_)
 cases hd:k.dr with
 | true =>
  simp +decide only[go_sem,nT,nA,nS,nM,nB,reduceIte,reduceCtorEq,hd]
 | false =>
  simp +decide only[go_sem,nT,nA,nS,nM,nB,reduceIte,reduceCtorEq,hd]
  refine zC (hst) rfl rfl ?_
  simp +decide only[go_sem,nT,nA,nS,nM,nB,reduceIte,reduceCtorEq,hd]
theorem zV8 (p:Prg) (s:Sta) (k:Pck) (hp:RightP p) (hs:RightS p s) (hb:∀t∈s.ths,t.buf.length≤100000):HFn Tryz.prog 196 [staH s,pckH k,zGI p] (.tu [staH (zAU p s k true).1,.v (.bool (zAU p s k true).2)]):=by
 have e:zAU p s k true=zAG p s k:=by unfold zAU;rw[if_pos rfl]
 rw[e]
 exact zPB p s k hp hs hb
set_option maxHeartbeats 4000000 in
theorem zYs (p:Prg) (l:List Pck) (weak:Bool) (f:Nat) (hp:RightP p) (hl:l.length≤100000) (hlt:f<4294967296)
  (hF:∀s k,RightS p s→(∀t∈s.ths,t.buf.length≤100000)→HFn Tryz.prog f [staH s,pckH k,zGI p] (.tu [staH (zAU p s k weak).1,.v (.bool (zAU p s k weak).2)])) :
  HFn Tryz.prog 165 [prgH p,.sl (pcks l),.fn f [zGI p],.fn 166 []]
  (.tu [staH (runF (fun s k=>zAU p s k weak) (zG p) l).1,.v (.int .i64 ((runF (fun s k=>zAU p s k weak) (zG p) l).2.1:Nat)),.v (.bool (runF (fun s k=>zAU p s k weak) (zG p) l).2.2)]):=by
 refine zAq (fn:=Tryz.f165) 3 45 [.cell 8 79,.tmp 9,.tmp 10] (by kernel_rfl) rfl rfl (by kernel_rfl) (HW.run 400 (by kernel_rfl) ?_)
 simp +decide only[go_sem,nT,nA,nS,nM,nB,reduceIte,reduceCtorEq]
 refine zC (zR3 p (by have:=hp.thr;omega) (by have:=hp.init;omega)) rfl rfl ?_
 generalize hR:runF (fun s k=>zAU p s k weak) (zG p) l=R
 simp +decide only[go_sem,nT,nA,nS,nM,nB,reduceIte,reduceCtorEq]
 refine HW.loopG (fun k T H=>∃(i:Nat) (s:Sta),k=l.length-i∧i≤l.length∧RightS p s∧Few s i∧R=((runF (fun s k=>zAU p s k weak) s (l.drop i)).1,i+(runF (fun s k=>zAU p s k weak) s (l.drop i)).2.1,(runF (fun s k=>zAU p s k weak) s (l.drop i)).2.2)∧
  T 1=.sl (pcks l)∧T 2=.fn f [zGI p]∧T 3=.fn 166 []∧T 8=.pt 1 1 0 0∧T 11=.pt 2 1 0 0∧T 18=.sl (pcks l)∧T 19=.v (.int .i64 l.length)∧T 20=.v (.int .i64 i)∧
  H=[some ⟨25,2,[[.sl (ints p.init),.sl (thrs p.thr)]]⟩,some ⟨79,2,[[.v (.slice none 0 0),.v (.slice none 0 0)]]⟩,some ⟨79,2,[[.sl (ints s.mem),.sl (thds s.ths)]]⟩]) l.length
  ⟨_,_,Ghost.refl,0,zG p,rfl,by omega,zAk,zE2,?_,rfl,rfl,rfl,rfl,rfl,rfl,rfl,rfl,?_⟩ ?_
 ·rw[List.drop_zero,hR];simp
 ·rfl
 rintro k T H ⟨i,s,rfl,hi,hs,hf,hRi,h1,h2,h3,h8,h11,h18,h19,h20,rfl⟩
 refine HW.run 200 (by kernel_rfl) ?_
 by_cases hlt:i<l.length
 ·have hlt' : ((i:Int)<(l.length:Int))=True:=by rw[zO];simp[hlt]
  have hx:l[i]?=some l[i]:=List.getElem?_eq_getElem hlt
  have hdr:l.drop i=l[i]::l.drop (i+1):=List.drop_eq_getElem_cons hlt
  generalize l[i]=x at hx hdr
  rw[hdr] at hRi
  have hr':=zD5 (k:=x) (weak:=weak) hp hs
  have hf':=zJa (p:=p) (k:=x) (weak:=weak) hf
  have hst:=hF s x hs (fun t ht=>by have:=hf t ht;omega)
  have hst' : HFn Tryz.prog (fnF f) (fnA f .any [staH s,pckH x] [zGI p]) (.tu [staH (zAU p s x weak).1,.v (.bool (zAU p s x weak).2)]):=by
   rw[zG3 (by assumption),zFP (by assumption)];exact hst
  have hnm:nmL 0 (fnA f .any [staH s,pckH x] [zGI p])=true:=by
   rw[zFP (by assumption)];simp only[List.cons_append,List.nil_append,nmL,nm,zEJ,zNX,zNW,Bool.and_self,nmR]
  simp only[runF] at hRi
  simp +decide only[go_sem,nT,nA,nS,nM,nB,reduceIte,reduceCtorEq,h1,h2,h3,h8,h11,h18,h19,h20,hlt',hx]
  refine zC hst' rfl hnm ?_
  generalize zAU p s x weak=z at hRi hr' hf'⊢
  obtain ⟨s',ok⟩:=z
  simp only at hRi hr' hf'
  cases ok with
  | true =>
   rw[if_pos rfl] at hRi
   simp +decide only[go_sem,nT,nA,nS,nM,nB,reduceIte,reduceCtorEq,h1,h2,h3,h8,h11,h18,h19,h20,hlt',hx]
   refine zC (zYr s x) rfl rfl ?_
   simp +decide only[go_sem,nT,nA,nS,nM,nB,reduceIte,reduceCtorEq,h1,h2,h3,h8,h11,h18,h19,h20,hlt',hx]
   refine ⟨_,_,Ghost.trunc [1,2,3,8,11,18,19,20] 3 (by omega) ?_ ?_,l.length-(i+1),by omega,i+1,s',rfl,by omega,hr',hf',?_,?_,?_,?_,?_,?_,?_,?_,?_,?_⟩
   ·simp +decide only[go_sem,nB,reduceIte,h1,h2,h3,h8,h11,h18,h19]
   ·simp +decide only[go_sem,nB,reduceIte]
   ·rw[hRi];simp only[Prod.mk.injEq,true_and,and_true];omega
   iterate 7 simp +decide only[go_sem,nB,reduceIte,h1,h2,h3,h8,h11,h18,h19]
   ·simp +decide only[go_sem,nB,reduceIte];rw[w64 (by omega) (by omega)];rfl
   ·simp +decide only[go_sem,nT,nA,nS,nM,nB,reduceIte,reduceCtorEq]
  | false =>
   rw[if_neg (by simp)] at hRi
   subst hRi
   simp +decide only[go_sem,nT,nA,nS,nM,nB,reduceIte,reduceCtorEq,h1,h2,h3,h8,h11,h18,h19,h20,hlt',hx]
 ·have hlt' : ((i:Int)<(l.length:Int))=False:=by rw[zO];simp[hlt]
  have e:i=l.length:=by omega
  subst e
  rw[List.drop_length] at hRi
  simp only[runF,Nat.add_zero] at hRi
  subst hRi
  simp +decide only[go_sem,nT,nA,nS,nM,nB,reduceIte,reduceCtorEq,h1,h2,h3,h8,h11,h18,h19,h20,hlt']
theorem zLu (p:Prg):HFn Tryz.prog 163 [prgH p] (.fn 195 [zGI p]):=by
 refine HFn.shut (R:=.fn 195 [.bx 25 2 [.sl (ints p.init),.sl (thrs p.thr)]]) ?_ (by simp only[fzo,fzoL,fzoR,zAO,zFi])
 refine zA (fn:=Tryz.f163) 4 [2] (by kernel_rfl) rfl (by kernel_rfl) (HW.run 400 (by kernel_rfl) ?_)
 simp +decide only[go_sem,nT,nA,nS,nM,nB,reduceIte,reduceCtorEq]
theorem zR7 (p:Prg):HFn Tryz.prog 164 [prgH p] (.fn 196 [zGI p]):=by
 refine HFn.shut (R:=.fn 196 [.bx 25 2 [.sl (ints p.init),.sl (thrs p.thr)]]) ?_ (by simp only[fzo,fzoL,fzoR,zAO,zFi])
 refine zA (fn:=Tryz.f164) 4 [2] (by kernel_rfl) rfl (by kernel_rfl) (HW.run 400 (by kernel_rfl) ?_)
 simp +decide only[go_sem,nT,nA,nS,nM,nB,reduceIte,reduceCtorEq]
theorem z2B (p:Prg) (l:List Pck) (weak:Bool) (hp:RightP p) (hl:l.length≤100000) :
  HFn Tryz.prog 136 [prgH p,.sl (pcks l),.v (.bool weak)]
  (.tu [staH (runF (fun s k=>zAU p s k weak) (zG p) l).1,.v (.int .i64 ((runF (fun s k=>zAU p s k weak) (zG p) l).2.1:Nat)),.v (.bool (runF (fun s k=>zAU p s k weak) (zG p) l).2.2)]):=by
 have hg:HFn Tryz.prog 165 [prgH p,.sl (pcks l),.fn (if weak=true then 196 else 195) [zGI p],.fn 166 []] _ :=
  zYs p l weak (if weak=true then 196 else 195) hp hl (by split <;> decide) (fun s k hs hb=>by
   cases weak with
   | true=>exact zV8 p s k hp hs hb
   | false=>exact zJo p s k hp hs hb)
 generalize runF (fun s k=>zAU p s k weak) (zG p) l=R at hg
 refine zAq (fn:=Tryz.f136) 3 22 [.cell 6 79,.tmp 7,.tmp 8] (by kernel_rfl) rfl rfl (by kernel_rfl) (HW.run 400 (by kernel_rfl) ?_)
 simp +decide only[go_sem,nT,nA,nS,nM,nB,reduceIte,reduceCtorEq]
 refine zC (zLu p) rfl rfl ?_
 cases weak with
 | true =>
  rw[if_pos rfl] at hg
  simp +decide only[go_sem,nT,nA,nS,nM,nB,reduceIte,reduceCtorEq]
  refine zC (zR7 p) rfl rfl ?_
  simp +decide only[go_sem,nT,nA,nS,nM,nB,reduceIte,reduceCtorEq]
  refine zC (hg) rfl rfl ?_
  simp +decide only[go_sem,nT,nA,nS,nM,nB,reduceIte,reduceCtorEq]
 | false =>
  rw[if_neg (by simp)] at hg
  simp +decide only[go_sem,nT,nA,nS,nM,nB,reduceIte,reduceCtorEq]
  refine zC (hg) rfl rfl ?_
  simp +decide only[go_sem,nT,nA,nS,nM,nB,reduceIte,reduceCtorEq]
theorem zWW {p:Prg} {s:Sta} (hs:RightS p s) {i:Nat} {y:Thd} {l:List Stp} (hx:s.ths[i]?=some y) (hy:p.thr[i]?=some l):(y.pc<l.length)=(¬y.pc=l.length):=by
 have:=(hs.t i l y hy hx).pc
 simp only[eq_iff_iff];omega
set_option maxHeartbeats 4000000 in
theorem zYq (p:Prg) (s:Sta) (hp:RightP p) (hs:RightS p s):HFn Tryz.prog 137 [prgH p,staH s] (.v (.bool (zBO p s))):=by
 refine zA (fn:=Tryz.f137) 31 [4] (by kernel_rfl) rfl (by kernel_rfl) (HW.run 400 (by kernel_rfl) ?_)
 simp +decide only[go_sem,nT,nA,nS,nM,nB,reduceIte,reduceCtorEq]
 have htl:s.ths.length≤1000:=by have:=hs.ths;have:=hp.thr;omega
 have hlen:=hs.ths
 refine HW.loopG (fun k T H=>∃i:Nat,k=s.ths.length-i∧i≤s.ths.length∧(∀j,j<i→overT p s j=true)∧T 2=.pt 0 1 0 0∧T 3=.pt 1 1 0 0∧T 8=.sl (thds s.ths)∧T 9=.v (.int .i64 s.ths.length)∧T 10=.v (.int .i64 i)∧H=[some ⟨25,2,[[.sl (ints p.init),.sl (thrs p.thr)]]⟩,some ⟨79,2,[[.sl (ints s.mem),.sl (thds s.ths)]]⟩]) s.ths.length ⟨_,_,Ghost.refl,0,rfl,by omega,by simp,rfl,rfl,rfl,rfl,rfl,rfl⟩ ?_
 rintro k T H ⟨i,rfl,hi,hno,h2,h3,h8,h9,h10,rfl⟩
 refine HW.run 200 (by kernel_rfl) ?_
 by_cases hlt:i<s.ths.length
 ·have hlt' : ((i:Int)<(s.ths.length:Int))=True:=by rw[zO];simp[hlt]
  have hlt2:((i:Int)<(p.thr.length:Int))=True:=by rw[zO,←hlen];simp[hlt]
  have hx:s.ths[i]?=some s.ths[i]:=List.getElem?_eq_getElem hlt
  have hy:p.thr[i]?=some (p.thr[i]'(by omega)):=List.getElem?_eq_getElem (by omega)
  generalize s.ths[i]=y at hx
  generalize p.thr[i]'(by omega)=l at hy
  have ho:overT p s i=(decide (y.pc=l.length) && y.buf.isEmpty):=by unfold overT;rw[hx,hy]
  have hpc:=zWW hs hx hy
  simp +decide only[go_sem,nT,nA,nS,nM,nB,reduceIte,reduceCtorEq,h2,h3,h8,h9,h10,hlt',hx]
  refine HW.tree 1 (.light 0 (.light 1 (.light 2 (.light 3 (.light 4 (.light 5 (.light 6 (.light 7 (.light 8 (.light 9 (.light 10 (.light 11 (.light 12 (.light 13 (.light 14 .leaf))))))))))))))) follows (by kernel_rfl) (by kernel_rfl) ?_
  by_cases c1:y.pc=l.length
  ·have c1' : (y.pc<l.length)=False:=by rw[hpc];simp[c1]
   by_cases c2:y.buf=[]
   ·have b0:((0:Int)<(y.buf.length:Int))=False:=by rw[c2];simp
    simp +decide only[go_sem,nT,nA,nS,nM,nB,reduceIte,reduceCtorEq,h2,h3,h8,h9,h10,hlt',hlt2,hx,hy,c1',b0]
    refine ⟨_,_,Ghost.trunc [2,3,8,9,10] 2 (by omega) ?_ ?_,s.ths.length-(i+1),by omega,i+1,rfl,by omega,?_,?_,?_,?_,?_,?_,?_⟩
    ·simp +decide only[go_sem,nB,reduceIte,h2,h3,h8,h9]
    ·simp +decide only[go_sem,nB,reduceIte]
    ·intro j hj
     rcases Nat.lt_or_ge j i with h | h
     ·exact hno j h
     ·obtain rfl:j=i:=by omega
      rw[ho,c2];simp[c1]
    all_goals first | (simp +decide only[go_sem,nB,reduceIte,h2,h3,h8,h9];done) | (simp +decide only[go_sem,nB,reduceIte];rw[w64 (by omega) (by omega)];rfl) | (simp +decide only[go_sem,nT,nA,nS,nM,nB,reduceIte,reduceCtorEq];done)
   ·have b0:((0:Int)<(y.buf.length:Int))=True:=by
     have:=List.length_pos_iff.mpr c2
     simp only[eq_iff_iff,iff_true];omega
    simp +decide only[go_sem,nT,nA,nS,nM,nB,reduceIte,reduceCtorEq,h2,h3,h8,h9,h10,hlt',hlt2,hx,hy,c1',b0]
    have:zBO p s=false:=by
     unfold zBO
     rw[List.all_eq_false]
     exact ⟨i,by simpa using hlt,by rw[ho];simp[c2]⟩
    exact vb this.symm
  ·have c1' : (y.pc<l.length)=True:=by rw[hpc];simp[c1]
   simp +decide only[go_sem,nT,nA,nS,nM,nB,reduceIte,reduceCtorEq,h2,h3,h8,h9,h10,hlt',hlt2,hx,hy,c1']
   have:zBO p s=false:=by
    unfold zBO
    rw[List.all_eq_false]
    exact ⟨i,by simpa using hlt,by rw[ho];simp[c1]⟩
   exact vb this.symm
 ·have hlt' : ((i:Int)<(s.ths.length:Int))=False:=by rw[zO];simp[hlt]
  have:zBO p s=true:=by
   unfold zBO
   rw[List.all_eq_true]
   intro j hj
   exact hno j (by simp at hj;omega)
  simp +decide only[go_sem,nT,nA,nS,nM,nB,reduceIte,reduceCtorEq,h2,h3,h8,h9,h10,hlt']
  exact vb this.symm
set_option maxHeartbeats 4000000 in
theorem z2C (s:Sta) (hm:s.mem.length≤100000) (ht:s.ths.length≤1000) (hr:∀t∈s.ths,t.regs.length≤1000):HFn Tryz.prog 138 [staH s] (.ag [.ow 3 1 (ints s.mem),.ow 3 1 (ints (zF0 s))]):=by
 refine zS (fn:=Tryz.f138) 25 [.cell 2 44] (by kernel_rfl) rfl rfl (by kernel_rfl) (HW.weaken (Q':=fun e=>GQ _ _ (endC _ _ _ _ e)) (HW.run 400 (by kernel_rfl) ?_) (fun _ _ _ h=>h))
 simp +decide only[go_sem,nT,nA,nS,nM,nB,reduceIte,reduceCtorEq]
 refine zC (zAj s.mem (by omega)) rfl rfl ?_
 simp +decide only[go_sem,nT,nA,nS,nM,nB,reduceIte,reduceCtorEq]
 repeat (with_reducible refine And.intro ?_ ?_;·(with_reducible and_intros) <;> omega)
 have hfl:∀i,((s.ths.take i).flatMap (·.regs)).length≤1000*i:=by
  intro i
  induction i with
  | zero=>simp
  | succ i ih =>
   rw[List.take_add_one,List.flatMap_append,List.length_append]
   cases hx:s.ths[i]? with
   | none=>simp only[Option.toList_none,List.flatMap_nil,List.length_nil];omega
   | some x=>have:=hr x (List.mem_of_getElem? hx);simp only[Option.toList_some,List.flatMap_cons,List.flatMap_nil,List.append_nil];omega
 refine HW.loopG (fun k T H=>∃i:Nat,k=s.ths.length-i∧i≤s.ths.length∧T 2=.pt 1 1 0 0∧T 3=.pt 3 1 0 0∧T 11=.sl (thds s.ths)∧T 12=.v (.int .i64 s.ths.length)∧T 13=.v (.int .i64 i)∧
  H=[some ⟨79,2,[[.sl (ints s.mem),.sl (thds s.ths)]]⟩,some ⟨44,2,[[.v (.slice none 0 0),.v (.slice none 0 0)]]⟩,some ⟨3,1,ints s.mem⟩,some ⟨44,2,[[.hd 2 0 s.mem.length,.hd 4 0 ((s.ths.take i).flatMap (·.regs)).length]]⟩,some ⟨3,1,ints ((s.ths.take i).flatMap (·.regs))⟩]) s.ths.length
  ⟨_,_,(Ghost.cell 3 0 1 (.ow 3 1 []) rfl rfl rfl rfl (Conv.nilOw _ _) (by simp)).trans (Ghost.open 3 0 1),0,rfl,by omega,rfl,rfl,rfl,?_,rfl,?_⟩ ?_
 ·simp +decide only[go_sem,nT,nA,nS,nM,nB,reduceIte,reduceCtorEq]
 ·simp +decide only[go_sem,nT,nA,nS,nM,nB,reduceIte,reduceCtorEq]
  rfl
 rintro k T H ⟨i,rfl,hi,h2,h3,h11,h12,h13,rfl⟩
 refine HW.run 200 (by kernel_rfl) ?_
 have hfi:=hfl i
 by_cases hlt:i<s.ths.length
 ·have hlt' : ((i:Int)<(s.ths.length:Int))=True:=by rw[zO];simp[hlt]
  have hx:s.ths[i]?=some s.ths[i]:=List.getElem?_eq_getElem hlt
  have hxr:=hr _ (List.getElem_mem hlt)
  have htk:(s.ths.take (i+1)).flatMap (·.regs)=(s.ths.take i).flatMap (·.regs)++(s.ths[i]).regs:=by rw[List.take_add_one,hx,List.flatMap_append];simp
  generalize s.ths[i]=x at hx hxr htk
  generalize (s.ths.take i).flatMap (·.regs)=o at hfi htk⊢
  simp +decide only[go_sem,nT,nA,nS,nM,nB,reduceIte,reduceCtorEq,h2,h3,h11,h12,h13,hlt',hx]
  repeat (with_reducible refine And.intro ?_ ?_;·(with_reducible and_intros) <;> omega)
  refine ⟨_,_,Ghost.trunc [2,3,11,12,13] 5 (by omega) ?_ ?_,s.ths.length-(i+1),by omega,i+1,rfl,by omega,?_,?_,?_,?_,?_,?_⟩
  all_goals first | (simp +decide only[go_sem,nB,reduceIte,h2,h3,h11,h12];done) | (simp +decide only[go_sem,nB,reduceIte];rw[w64 (by omega) (by omega)];rfl) | (simp +decide only[go_sem,nT,nA,nS,nM,nB,reduceIte,reduceCtorEq,htk,List.length_append];done)
 ·have hlt' : ((i:Int)<(s.ths.length:Int))=False:=by rw[zO];simp[hlt]
  have e:s.ths.take i=s.ths:=List.take_of_length_le (by omega)
  simp +decide only[go_sem,nT,nA,nS,nM,nB,reduceIte,reduceCtorEq,h2,h3,h11,h12,h13,hlt',e]
  refine GQ.done ?_
  simp +decide only[go_sem,nT,nA,nS,nM,nB,reduceIte,reduceCtorEq,h2]
  try rfl
def zXk (p:Prg) (l:List Pck) (weak:Bool):Option Ot:=if ((runF (fun s k=>zAU p s k weak) (zG p) l).2.2 && zBO p (runF (fun s k=>zAU p s k weak) (zG p) l).1)=true then some ⟨(runF (fun s k=>zAU p s k weak) (zG p) l).1.mem,zF0 (runF (fun s k=>zAU p s k weak) (zG p) l).1⟩ else none
theorem zDC {p:Prg} {weak:Bool} (hp:RightP p):∀(l:List Pck) (s:Sta),RightS p s→RightS p (runF (fun s k=>zAU p s k weak) s l).1
 | [],s,hs=>hs
 | k::l,s,hs=>by
  unfold runF
  split
  ·exact zDC hp l _ (zD5 hp hs)
  ·exact hs
theorem zEf {p:Prg} {s:Sta} (hs:RightS p s):∀t∈s.ths,t.regs.length≤1000:=fun t ht=>by
 obtain ⟨i,hi⟩:=List.getElem?_of_mem ht
 have hil:=(List.getElem?_eq_some_iff.1 hi).1
 have hl:=hs.ths
 have:=(hs.t i _ t (List.getElem?_eq_getElem (by omega)) hi).regs
 omega
def endR:Option Ot→HV
 | none=>.tu [.ag [.v (.slice none 0 0),.v (.slice none 0 0)],.v (.bool false)]
 | some o=>.tu [otH o,.v (.bool true)]
theorem zYt (p:Prg) (l:List Pck) (weak:Bool) (hp:RightP p) (hl:l.length≤100000) :
  HFn Tryz.prog 108 [prgH p,.sl (pcks l),.v (.bool weak)] (endR (zXk p l weak)):=by
 have hR:=z2B p l weak hp hl
 have hrs:=zDC (weak:=weak) hp l (zG p) zAk
 unfold zXk
 generalize runF (fun s k=>zAU p s k weak) (zG p) l=R at hR hrs
 obtain ⟨s,n,ok⟩:=R
 simp only at hrs hR
 have hO:=zYq p s hp hrs
 have hE:HFn Tryz.prog 138 [staH s] (otH ⟨s.mem,zF0 s⟩):=HFn.shut (z2C s (by have:=hrs.mem;have:=hp.init;omega) (by have:=hrs.ths;have:=hp.thr;omega) (zEf hrs)) (by simp only[fzo,fzoL,zAO])
 generalize zBO p s=ov at hO
 have hne:HV.tu [.ag [.v (.slice none 0 0),.v (.slice none 0 0)],.v (.bool false)]=endR none:=rfl
 refine zAq (fn:=Tryz.f108) 3 30 [.cell 6 44,.tmp 7] (by kernel_rfl) rfl rfl (by kernel_rfl) (HW.run 400 (by kernel_rfl) ?_)
 simp +decide only[go_sem,nT,nA,nS,nM,nB,reduceIte,reduceCtorEq]
 refine zC (hR) rfl rfl ?_
 cases ok with
 | false =>
  rw[Bool.false_and,if_neg (by simp)]
  simp +decide only[go_sem,nT,nA,nS,nM,nB,reduceIte,reduceCtorEq]
  rfl
 | true =>
  simp +decide only[go_sem,nT,nA,nS,nM,nB,reduceIte,reduceCtorEq]
  refine zC (hO) rfl rfl ?_
  cases ov with
  | false =>
   simp +decide only[go_sem,nT,nA,nS,nM,nB,reduceIte,reduceCtorEq]
   rfl
  | true =>
   simp +decide only[go_sem,nT,nA,nS,nM,nB,reduceIte,reduceCtorEq]
   refine zC (hE) rfl rfl ?_
   simp +decide only[go_sem,nT,nA,nS,nM,nB,reduceIte,reduceCtorEq]
   rfl
end Go.Proofs.YtoknohandclcbaaGreat
namespace Go.Proofs.YtoknohandclcbaaGreat
open Go.RowKit
set_option maxRecDepth 8000
theorem zZK (p:Prg) (l:List Pck) (weak:Bool) (hp:RightP p) (hl:l.length≤100000) :
  HFn Tryz.prog 19 [prgH p,.sl (pcks l),.v (.bool weak)] (endR (zXk p l weak)):=by
 have hR:=z2I p l weak hp hl
 have hrs:=zDC (weak:=weak) hp l (zG p) zAk
 unfold zXk
 generalize runF (fun s k=>zAU p s k weak) (zG p) l=R at hR hrs
 obtain ⟨s,n,ok⟩:=R
 simp only at hrs hR
 have hO:=zZF p s hp hrs
 have hE:HFn Tryz.prog 50 [staH s] (otH ⟨s.mem,zF0 s⟩):=HFn.shut (z2K s (by have:=hrs.mem;have:=hp.init;omega) (by have:=hrs.ths;have:=hp.thr;omega) (zEf hrs)) (by simp only[fzo,fzoL,zAO])
 generalize zBO p s=ov at hO
 refine zAq (fn:=Tryz.f19) 3 30 [.cell 6 44,.tmp 7] (by kernel_rfl) rfl rfl (by kernel_rfl) (HW.run 400 (by kernel_rfl) ?_)
 simp +decide only[go_sem,nT,nA,nS,nM,nB,reduceIte,reduceCtorEq]
 refine zC (hR) rfl rfl ?_
 cases ok with
 | false =>
  rw[Bool.false_and,if_neg (by simp)]
  simp +decide only[go_sem,nT,nA,nS,nM,nB,reduceIte,reduceCtorEq]
  rfl
 | true =>
  simp +decide only[go_sem,nT,nA,nS,nM,nB,reduceIte,reduceCtorEq]
  refine zC (hO) rfl rfl ?_
  cases ov with
  | false =>
   simp +decide only[go_sem,nT,nA,nS,nM,nB,reduceIte,reduceCtorEq]
   rfl
  | true =>
   simp +decide only[go_sem,nT,nA,nS,nM,nB,reduceIte,reduceCtorEq]
   refine zC (hE) rfl rfl ?_
   simp +decide only[go_sem,nT,nA,nS,nM,nB,reduceIte,reduceCtorEq]
   rfl
theorem zEg (a b:Ot) (ha:SmallO a) (hb:SmallO b):HFn Tryz.prog 53 [otH a,otH b] (.v (.bool (decide (a=b)))):=by
 have h1:=zBn a.mem b.mem (by have:=ha.mem;omega)
 have h2:=zBn a.regs b.regs (by have:=ha.regs;omega)
 have e:decide (a=b)=(decide (a.mem=b.mem) && decide (a.regs=b.regs)):=by
  obtain ⟨am,ar⟩:=a
  obtain ⟨bm,br⟩:=b
  simp
 rw[e]
 generalize decide (a.mem=b.mem)=x at h1
 generalize decide (a.regs=b.regs)=y at h2
 refine zA (fn:=Tryz.f53) 17 [4] (by kernel_rfl) rfl (by kernel_rfl) (HW.run 400 (by kernel_rfl) ?_)
 simp +decide only[go_sem,nT,nA,nS,nM,nB,reduceIte,reduceCtorEq]
 refine zC (h1) rfl rfl ?_
 cases x with
 | false =>
  simp +decide only[go_sem,nT,nA,nS,nM,nB,reduceIte,reduceCtorEq]
  rfl
 | true =>
  simp +decide only[go_sem,nT,nA,nS,nM,nB,reduceIte,reduceCtorEq]
  refine zC (h2) rfl rfl ?_
  simp +decide only[go_sem,nT,nA,nS,nM,nB,reduceIte,reduceCtorEq]
theorem zQk {a b:List Int} {i:Nat} {x y:Int} (hx:a[i]?=some x) (hy:b[i]?=some y):zAV (a.drop i) (b.drop i)=if x=y then zAV (a.drop (i+1)) (b.drop (i+1)) else decide (x<y):=by
 obtain ⟨h1,e1⟩:=List.getElem?_eq_some_iff.1 hx
 obtain ⟨h2,e2⟩:=List.getElem?_eq_some_iff.1 hy
 rw[List.drop_eq_getElem_cons h1,List.drop_eq_getElem_cons h2,e1,e2,zAV]
set_option maxHeartbeats 4000000 in
theorem zNd (a b:List Int) (ha:a.length≤1000000) (hb:b.length≤1000000):HFn Tryz.prog 87 [.sl (ints a),.sl (ints b)] (.v (.bool (zAV a b))):=by
 refine zA (fn:=Tryz.f87) 41 [4] (by kernel_rfl) rfl (by kernel_rfl) (HW.run 400 (by kernel_rfl) ?_)
 simp +decide only[go_sem,nT,nA,nS,nM,nB,reduceIte,reduceCtorEq]
 refine HW.loopG (fun k T H=>∃i:Nat,k=a.length-i∧i≤a.length∧i≤b.length∧zAV a b=zAV (a.drop i) (b.drop i)∧T 0=.sl (ints a)∧T 1=.sl (ints b)∧T 5=.v (.int .i64 i)∧H=[]) a.length ⟨_,_,Ghost.refl,0,rfl,by omega,by omega,rfl,rfl,rfl,rfl,rfl⟩ ?_
 rintro k T H ⟨i,rfl,hi,hib,hI,h0,h1,h5,rfl⟩
 refine HW.run 200 (by kernel_rfl) ?_
 by_cases hlt:i<a.length
 ·have hlt' : ((i:Int)<(a.length:Int))=True:=by simp only[eq_iff_iff,iff_true];omega
  by_cases hlb:i<b.length
  ·have hlb' : ((i:Int)<(b.length:Int))=True:=by simp only[eq_iff_iff,iff_true];omega
   have hx:a[i]?=some a[i]:=List.getElem?_eq_getElem hlt
   have hy:b[i]?=some b[i]:=List.getElem?_eq_getElem hlb
   generalize a[i]=x at hx
   generalize b[i]=y at hy
   rw[zQk hx hy] at hI
   simp +decide only[go_sem,nT,nA,nS,nM,nB,reduceIte,reduceCtorEq,h0,h1,h5,hlt',hlb']
   refine HW.tree 1 (.light 0 (.light 1 (.light 2 (.light 3 (.light 4 (.light 5 (.light 6 (.light 7 (.light 8 .leaf))))))))) follows (by kernel_rfl) (by kernel_rfl) ?_
   simp +decide only[go_sem,nT,nA,nS,nM,nB,reduceIte,reduceCtorEq,h0,h1,h5,hlt',hlb',hx,hy]
   by_cases hxy:x=y
   ·subst hxy
    rw[if_pos rfl] at hI
    simp +decide only[go_sem,nT,nA,nS,nM,nB,reduceIte,reduceCtorEq,h0,h1,h5]
    refine ⟨_,_,Ghost.refl,a.length-(i+1),by omega,i+1,rfl,by omega,by omega,hI,?_,?_,?_,rfl⟩
    all_goals first | (simp +decide only[go_sem,nB,reduceIte,h0,h1];done) | (simp +decide only[go_sem,nB,reduceIte];rw[w64 (by omega) (by omega)];rfl)
   ·rw[if_neg hxy] at hI
    have hxy' : (x=y)=False:=eq_false hxy
    rw[hI]
    simp +decide only[go_sem,nT,nA,nS,nM,nB,reduceIte,reduceCtorEq,h0,h1,h5,hxy']
    refine HW.tree 1 (.light 0 (.light 1 (.light 2 (.light 3 (.light 4 (.light 5 (.light 6 (.light 7 (.light 8 (.light 9 .leaf)))))))))) follows (by kernel_rfl) (by kernel_rfl) ?_
    simp +decide only[go_sem,nT,nA,nS,nM,nB,reduceIte,reduceCtorEq,h0,h1,h5,hlt',hlb',hx,hy]
  ·have hlb' : ((i:Int)<(b.length:Int))=False:=by simp only[eq_iff_iff,iff_false];omega
   have hge:((a.length:Int)<(b.length:Int))=False:=by simp only[eq_iff_iff,iff_false];omega
   have e:zAV (a.drop i) (b.drop i)=false:=by
    rw[List.drop_of_length_le (by omega:b.length≤i)]
    cases a.drop i <;> rfl
   rw[hI,e]
   simp +decide only[go_sem,nT,nA,nS,nM,nB,reduceIte,reduceCtorEq,h0,h1,h5,hlt',hlb',hge]
 ·have hlt' : ((i:Int)<(a.length:Int))=False:=by simp only[eq_iff_iff,iff_false];omega
  have e:zAV (a.drop i) (b.drop i)=decide ((a.length:Int)<(b.length:Int)):=by
   rw[List.drop_of_length_le (by omega:a.length≤i)]
   by_cases hlb:i<b.length
   ·rw[List.drop_eq_getElem_cons hlb]
    symm;apply decide_eq_true;omega
   ·rw[List.drop_of_length_le (by omega)]
    symm;apply decide_eq_false;omega
  rw[hI,e]
  simp +decide only[go_sem,nT,nA,nS,nM,nB,reduceIte,reduceCtorEq,h0,h1,h5,hlt']
theorem zZH (a b:Ot) (ha:SmallO a) (hb:SmallO b):HFn Tryz.prog 54 [otH a,otH b] (.v (.bool (zBL a b))):=by
 have h1:=zBn a.mem b.mem (by have:=ha.mem;omega)
 have h2:=zNd a.mem b.mem ha.mem hb.mem
 have h3:=zNd a.regs b.regs ha.regs hb.regs
 unfold zBL
 generalize zAV a.mem b.mem=x at h2
 generalize zAV a.regs b.regs=y at h3
 refine zA (fn:=Tryz.f54) 21 [4] (by kernel_rfl) rfl (by kernel_rfl) (HW.run 400 (by kernel_rfl) ?_)
 by_cases hm:a.mem=b.mem
 ·rw[show decide (a.mem=b.mem)=true from decide_eq_true hm] at h1
  rw[if_pos hm]
  simp +decide only[go_sem,nT,nA,nS,nM,nB,reduceIte,reduceCtorEq]
  refine zC (h1) rfl rfl ?_
  simp +decide only[go_sem,nT,nA,nS,nM,nB,reduceIte,reduceCtorEq]
  refine zC (h3) rfl rfl ?_
  simp +decide only[go_sem,nT,nA,nS,nM,nB,reduceIte,reduceCtorEq]
 ·rw[show decide (a.mem=b.mem)=false from decide_eq_false hm] at h1
  rw[if_neg hm]
  simp +decide only[go_sem,nT,nA,nS,nM,nB,reduceIte,reduceCtorEq]
  refine zC (h1) rfl rfl ?_
  simp +decide only[go_sem,nT,nA,nS,nM,nB,reduceIte,reduceCtorEq]
  refine zC (h2) rfl rfl ?_
  simp +decide only[go_sem,nT,nA,nS,nM,nB,reduceIte,reduceCtorEq]
set_option maxHeartbeats 4000000 in
theorem zMC (l:List Ot) (o:Ot) (hl:l.length≤1000000) (hsl:∀x∈l,SmallO x) (ho:SmallO o):HFn Tryz.prog 21 [.sl (ots l),otH o] (.v (.bool (hasO l o))):=by
 refine zA (fn:=Tryz.f21) 18 [4] (by kernel_rfl) rfl (by kernel_rfl) (HW.run 400 (by kernel_rfl) ?_)
 simp +decide only[go_sem,nT,nA,nS,nM,nB,reduceIte,reduceCtorEq]
 refine HW.loopG (fun k T H=>∃i:Nat,k=l.length-i∧i≤l.length∧o∉l.take i∧T 0=.sl (ots l)∧T 3=.pt 0 1 0 0∧T 5=.v (.int .i64 i)∧H=[some ⟨44,2,[[.sl (ints o.mem),.sl (ints o.regs)]]⟩]) l.length ⟨_,_,Ghost.refl,0,rfl,by omega,by simp,rfl,rfl,rfl,rfl⟩ ?_
 rintro k T H ⟨i,rfl,hi,hno,h0,h3,h5,rfl⟩
 refine HW.run 200 (by kernel_rfl) ?_
 by_cases hlt:i<l.length
 ·have hlt' : ((i:Int)<(l.length:Int))=True:=by simp only[eq_iff_iff,iff_true];omega
  have hx:l[i]?=some l[i]:=List.getElem?_eq_getElem hlt
  have hc:=zEg _ o (hsl _ (List.getElem_mem hlt)) ho
  generalize l[i]=x at hx hc
  simp +decide only[go_sem,nT,nA,nS,nM,nB,reduceIte,reduceCtorEq,h0,h3,h5,hlt']
  refine HW.tree 1 (.light 0 (.light 1 (.light 2 (.light 3 (.light 4 (.heavy 5 [] .leaf .stop)))))) follows (by kernel_rfl) (by kernel_rfl) ?_
  simp +decide only[go_sem,nT,nA,nS,nM,nB,reduceIte,reduceCtorEq,h0,h3,h5,hlt',hx]
  refine zC (hc) rfl rfl ?_
  by_cases hxo:x=o
  ·rw[show hasO l o=true from decide_eq_true (by rw[←hxo];exact List.mem_of_getElem? hx)]
   have e:decide (x=o)=true:=decide_eq_true hxo
   simp +decide only[go_sem,nT,nA,nS,nM,nB,reduceIte,reduceCtorEq,h0,h3,h5,e]
  ·have e:decide (x=o)=false:=decide_eq_false hxo
   simp +decide only[go_sem,nT,nA,nS,nM,nB,reduceIte,reduceCtorEq,h0,h3,h5,e]
   refine ⟨_,_,Ghost.refl,l.length-(i+1),by omega,i+1,rfl,by omega,?_,?_,?_,?_,rfl⟩
   ·rw[List.take_add_one,hx]
    simp only[Option.toList_some,List.mem_append,List.mem_singleton,not_or]
    exact ⟨hno,fun e=>hxo e.symm⟩
   all_goals first | (simp +decide only[go_sem,nB,reduceIte,h0,h3];done) | (simp +decide only[go_sem,nB,reduceIte];rw[w64 (by omega) (by omega)];rfl)
 ·have hlt' : ((i:Int)<(l.length:Int))=False:=by simp only[eq_iff_iff,iff_false];omega
  rw[List.take_of_length_le (by omega)] at hno
  rw[show hasO l o=false from decide_eq_false hno]
  simp +decide only[go_sem,nT,nA,nS,nM,nB,reduceIte,reduceCtorEq,h0,h3,h5,hlt']
set_option maxHeartbeats 4000000 in
theorem zRu (l:List Ot) (hl:l.length≤1000000) (ho:∀o∈l,SmallO o):HFn Tryz.prog 23 [.sl (ots l)] (.v (.bool (setO l))):=by
 refine zA (fn:=Tryz.f23) 21 [2] (by kernel_rfl) rfl (by kernel_rfl) (HW.run 400 (by kernel_rfl) ?_)
 simp +decide only[go_sem,nT,nA,nS,nM,nB,reduceIte,reduceCtorEq]
 refine HW.loopG (fun k T H=>∃i:Nat,k=l.length-i∧i≤l.length+1∧1≤i∧setO l=setO (l.drop (i-1))∧T 0=.sl (ots l)∧T 3=.v (.int .i64 i)∧H=[]) (l.length-1) ⟨_,_,Ghost.refl,1,rfl,by omega,by omega,rfl,rfl,rfl,rfl⟩ ?_
 rintro k T H ⟨i,rfl,hil,hi1,hI,h0,h3,rfl⟩
 refine HW.run 200 (by kernel_rfl) ?_
 by_cases hlt:i<l.length
 ·have hlt' : ((i:Int)<(l.length:Int))=True:=by simp only[eq_iff_iff,iff_true];omega
  have w1:IntKind.i64.wrap ((i:Int)-1)=((i-1:Nat):Int):=by rw[w64 (by omega) (by omega)];omega
  have hlt2:(((i-1:Nat):Int)<(l.length:Int))=True:=by simp only[eq_iff_iff,iff_true];omega
  have hx:l[i]?=some l[i]:=List.getElem?_eq_getElem hlt
  have hy:l[i-1]?=some (l[i-1]'(by omega)):=List.getElem?_eq_getElem (by omega)
  have ho1:=ho _ (List.getElem_mem hlt)
  have ho2:=ho _ (List.getElem_mem (by omega:i-1<l.length))
  generalize l[i]=x at hx ho1
  generalize l[i-1]'(by omega)=y at hy ho2
  have hs:=zJh hy (by rw[show i-1+1=i by omega];exact hx)
  rw[show i-1+1=i by omega] at hs
  rw[hs] at hI
  have hL:=zZH y x ho2 ho1
  simp +decide only[go_sem,nT,nA,nS,nM,nB,reduceIte,reduceCtorEq,h0,h3,hlt']
  refine HW.tree 1 (.light 0 (.light 1 (.light 2 (.light 3 (.light 4 (.light 5 (.light 6 (.light 7 (.light 8 (.heavy 9 [] (.light 10 .leaf) .stop)))))))))) follows (by kernel_rfl) (by kernel_rfl) ?_
  simp +decide only[go_sem,nT,nA,nS,nM,nB,reduceIte,reduceCtorEq,h0,h3,hlt',w1,hlt2,hx,hy]
  refine zC (hL) rfl rfl ?_
  cases hb:zBL y x with
  | true =>
   rw[hb,Bool.true_and] at hI
   simp +decide only[go_sem,nT,nA,nS,nM,nB,reduceIte,reduceCtorEq,h0,h3]
   refine ⟨_,_,Ghost.refl,l.length-(i+1),by omega,i+1,rfl,by omega,by omega,by rw[hI,Nat.add_sub_cancel],?_,?_,rfl⟩
   all_goals first | (simp +decide only[go_sem,nB,reduceIte,h0];done) | (simp +decide only[go_sem,nB,reduceIte];rw[w64 (by omega) (by omega)];rfl)
  | false =>
   rw[hb,Bool.false_and] at hI
   rw[hI]
   simp +decide only[go_sem,nT,nA,nS,nM,nB,reduceIte,reduceCtorEq,h0,h3]
 ·have hlt' : ((i:Int)<(l.length:Int))=False:=by simp only[eq_iff_iff,iff_false];omega
  have:setO l=true:=by
   rw[hI]
   have hlen:(l.drop (i-1)).length≤1:=by simp;omega
   match hd:l.drop (i-1),hlen with
   | [],_=>rfl
   | [_],_=>rfl
   | _::_::_,h=>simp at h
  rw[this]
  simp +decide only[go_sem,nT,nA,nS,nM,nB,reduceIte,reduceCtorEq,h0,h3,hlt']
set_option maxHeartbeats 4000000 in
theorem zVq (a b:List Ot) (ha:a.length≤1000000) (hb:b.length≤1000000) (hsa:∀x∈a,SmallO x) (hsb:∀x∈b,SmallO x):HFn Tryz.prog 24 [.sl (ots a),.sl (ots b)] (.v (.bool (decide (a=b)))):=by
 refine zA (fn:=Tryz.f24) 27 [4] (by kernel_rfl) rfl (by kernel_rfl) (HW.run 400 (by kernel_rfl) ?_)
 by_cases hn:a.length=b.length
 ·have hn' : ((a.length:Int)=(b.length:Int))=True:=by simp only[eq_iff_iff,iff_true];omega
  simp +decide only[go_sem,nT,nA,nS,nM,nB,reduceIte,reduceCtorEq,hn']
  refine HW.loopG (fun k T H=>∃i:Nat,k=a.length-i∧i≤a.length∧a.take i=b.take i∧T 0=.sl (ots a)∧T 1=.sl (ots b)∧T 5=.v (.int .i64 i)∧H=[]) a.length ⟨_,_,Ghost.refl,0,rfl,by omega,rfl,rfl,rfl,rfl,rfl⟩ ?_
  rintro k T H ⟨i,rfl,hi,he,h0,h1,h5,rfl⟩
  refine HW.run 200 (by kernel_rfl) ?_
  by_cases hlt:i<a.length
  ·have hlt' : ((i:Int)<(a.length:Int))=True:=by simp only[eq_iff_iff,iff_true];omega
   have hlt2:((i:Int)<(b.length:Int))=True:=by simp only[eq_iff_iff,iff_true];omega
   have hx:a[i]?=some a[i]:=List.getElem?_eq_getElem hlt
   have hy:b[i]?=some (b[i]'(by omega)):=List.getElem?_eq_getElem (by omega)
   have hc:=zEg _ _ (hsa _ (List.getElem_mem hlt)) (hsb _ (List.getElem_mem (by omega:i<b.length)))
   generalize a[i]=x at hx hc
   generalize b[i]'(by omega)=y at hy hc
   simp +decide only[go_sem,nT,nA,nS,nM,nB,reduceIte,reduceCtorEq,h0,h1,h5,hlt']
   refine HW.tree 1 (.light 0 (.light 1 (.light 2 (.light 3 (.light 4 (.light 5 (.light 6 (.light 7 (.heavy 8 [] (.light 9 .leaf) .stop))))))))) follows (by kernel_rfl) (by kernel_rfl) ?_
   simp +decide only[go_sem,nT,nA,nS,nM,nB,reduceIte,reduceCtorEq,h0,h1,h5,hlt',hlt2,hx,hy]
   refine zC (hc) rfl rfl ?_
   by_cases hxy:x=y
   ·subst hxy
    simp +decide only[go_sem,nT,nA,nS,nM,nB,reduceIte,reduceCtorEq,h0,h1,h5]
    refine ⟨_,_,Ghost.refl,a.length-(i+1),by omega,i+1,rfl,by omega,by rw[List.take_add_one,List.take_add_one,he,hx,hy],?_,?_,?_,rfl⟩
    all_goals first | (simp +decide only[go_sem,nB,reduceIte,h0,h1];done) | (simp +decide only[go_sem,nB,reduceIte];rw[w64 (by omega) (by omega)];rfl)
   ·have hxy' : decide (x=y)=false:=decide_eq_false hxy
    have:¬a=b:=fun e=>by rw[e,hy] at hx;exact hxy (Option.some.inj hx).symm
    rw[show decide (a=b)=false from decide_eq_false this]
    simp +decide only[go_sem,nT,nA,nS,nM,nB,reduceIte,reduceCtorEq,h0,h1,h5,hxy']
  ·have hlt' : ((i:Int)<(a.length:Int))=False:=by simp only[eq_iff_iff,iff_false];omega
   have:a=b:=by rw[List.take_of_length_le (by omega),List.take_of_length_le (by omega)] at he;exact he
   rw[show decide (a=b)=true from decide_eq_true this]
   simp +decide only[go_sem,nT,nA,nS,nM,nB,reduceIte,reduceCtorEq,h0,h1,h5,hlt']
 ·have hn' : ((a.length:Int)=(b.length:Int))=False:=by simp only[eq_iff_iff,iff_false];omega
  have:¬a=b:=fun e=>hn (by rw[e])
  rw[show decide (a=b)=false from decide_eq_false this]
  simp +decide only[go_sem,nT,nA,nS,nM,nB,reduceIte,reduceCtorEq,hn']
end Go.Proofs.YtoknohandclcbaaGreat
namespace Go.Proofs.YtoknohandclcbaaGreat
open Go.RowKit
set_option maxRecDepth 8000
abbrev z2R (o:Ot):HObj:=⟨44,2,[[.sl (ints o.mem),.sl (ints o.regs)]]⟩
set_option maxHeartbeats 8000000 in
theorem zPW (l:List Ot) (o:Ot) (hl:l.length≤1000000) (hs:SetO l) (hsm:∀x∈l,SmallO x) (ho:SmallO o):HFn Tryz.prog 134 [.sl (ots l),otH o,.fn 135 []] (.tu [.v (.int .i64 (posO l o)),.v (.bool (hasO l o))]):=by
 have hpl:=zZO l o
 have hq1:=fun i x=>zI6 (o:=o) hs i x
 have hq2:hasO l o=true↔l[posO l o]?=some o:=zWM hs
 generalize posO l o=q at hpl hq1 hq2
 generalize hasO l o=hb at hq2
 refine zA (fn:=Tryz.f134) 49 [6,7] (by kernel_rfl) rfl (by kernel_rfl) (HW.run 400 (by kernel_rfl) ?_)
 simp +decide only[go_sem,nT,nA,nS,nM,nB,reduceIte,reduceCtorEq]
 refine HW.loopG (fun k T H=>∃lo hi:Nat,k=hi-lo∧lo≤q∧q≤hi∧hi≤l.length∧T 0=.sl (ots l)∧T 2=.fn 135 []∧T 4=.pt 0 1 0 0∧T 8=.v (.int .i64 l.length)∧T 9=.v (.int .i64 lo)∧T 10=.v (.int .i64 hi)∧H=[some (z2R o)]) l.length ⟨_,_,Ghost.refl,0,l.length,rfl,by omega,by omega,by omega,rfl,rfl,rfl,rfl,rfl,rfl,rfl⟩ ?_
 rintro k T H ⟨lo,hi,rfl,h1,h2,h3,h0,hf,h4,h8,h9,h10,rfl⟩
 refine HW.run 200 (by kernel_rfl) ?_
 by_cases hlt:lo<hi
 ·have hlt' : ((lo:Int)<(hi:Int))=True:=by simp only[eq_iff_iff,iff_true];omega
  have hm:(lo+hi) / 2<l.length:=by omega
  have hx:l[(lo+hi) / 2]?=some l[(lo+hi) / 2]:=List.getElem?_eq_getElem hm
  have hxs:=hsm _ (List.getElem_mem hm)
  generalize l[(lo+hi) / 2]=x at hx hxs
  have hp:=zKF x o hxs ho
  have hqx:=hq1 _ x hx
  rw[←zON] at hqx
  generalize cmpO x o=c at hp hqx
  have w1:IntKind.i64.wrap ((lo:Int)+(hi:Int))=((lo+hi:Nat):Int):=by rw[w64 (by omega) (by omega)];omega
  have w2:IntKind.u64.wrap ((lo+hi:Nat):Int)=((lo+hi:Nat):Int):=IntWalk.u64_in _ ⟨by omega,by omega⟩
  have w3:(((lo+hi:Nat):Int)).fdiv (2 ^ min 1 64)=(((lo+hi) / 2:Nat):Int):=by
   show (((lo+hi:Nat):Int)).fdiv 2=_
   rw[Int.fdiv_eq_ediv_of_nonneg _ (by omega)];omega
  have w4:IntKind.i64.wrap (((lo+hi) / 2:Nat):Int)=(((lo+hi) / 2:Nat):Int):=w64 (by omega) (by omega)
  have w5:IntKind.i64.wrap ((((lo+hi) / 2:Nat):Int)+1)=(((lo+hi) / 2+1:Nat):Int):=by rw[w64 (by omega) (by omega)];omega
  have hmid:(((((lo+hi) / 2:Nat):Int))<(l.length:Int))=True:=by simp only[eq_iff_iff,iff_true];omega
  have hb1:lo≤(lo+hi) / 2:=by omega
  have hb2:(lo+hi) / 2<hi:=by omega
  generalize (lo+hi) / 2=mid at *
  simp +decide only[go_sem,nT,nA,nS,nM,nB,reduceIte,reduceCtorEq,h0,hf,h4,h8,h9,h10,hlt',hx,w1,w2,w3,w4]
  refine HW.tree 1 (.light 0 (.light 1 (.light 2 (.light 3 (.light 4 (.light 5 (.heavy 6 [] (.light 7 .leaf) .stop))))))) follows (by kernel_rfl) (by kernel_rfl) ?_
  simp +decide only[go_sem,nT,nA,nS,nM,nB,reduceIte,reduceCtorEq,h0,hf,h4,h8,h9,h10,hlt',hx,w1,w2,w3,w4,hmid]
  refine zC (hp) rfl rfl ?_
  rcases tfE' (c<0) with ⟨d,e⟩ | ⟨d,e⟩
  ·simp +decide only[go_sem,nT,nA,nS,nM,nB,reduceIte,reduceCtorEq,h0,hf,h4,h8,h9,h10,e,w5]
   refine ⟨_,_,Ghost.refl,hi-(mid+1),by omega,mid+1,hi,rfl,by have:=hqx.1 d;omega,by omega,by omega,?_,?_,?_,?_,?_,?_,rfl⟩
   all_goals first | (simp +decide only[go_sem,nB,reduceIte,h0,hf,h4,h8,h10];done) | rfl
  ·simp +decide only[go_sem,nT,nA,nS,nM,nB,reduceIte,reduceCtorEq,h0,hf,h4,h8,h9,h10,e,w5]
   refine ⟨_,_,Ghost.refl,mid-lo,by omega,lo,mid,rfl,by omega,by have:=fun h=>d (hqx.2 h);omega,by omega,?_,?_,?_,?_,?_,?_,rfl⟩
   all_goals first | (simp +decide only[go_sem,nB,reduceIte,h0,hf,h4,h8,h9];done) | rfl
 ·have hlt' : ((lo:Int)<(hi:Int))=False:=by simp only[eq_iff_iff,iff_false];omega
  obtain rfl:q=lo:=by omega
  by_cases hlb:q<l.length
  ·have hlb' : ((q:Int)<(l.length:Int))=True:=by simp only[eq_iff_iff,iff_true];omega
   have hx:l[q]?=some l[q]:=List.getElem?_eq_getElem hlb
   have hxs:=hsm _ (List.getElem_mem hlb)
   generalize l[q]=x at hx hxs
   have hp:=zKF x o hxs ho
   have hz:cmpO x o=0↔hb=true:=by
    rw[zUR,hq2,hx];simp
   generalize cmpO x o=c at hp hz
   simp +decide only[go_sem,nT,nA,nS,nM,nB,reduceIte,reduceCtorEq,h0,hf,h4,h8,h9,h10,hlt']
   refine HW.tree 1 (.light 0 (.light 1 (.light 2 (.light 3 (.light 4 (.light 5 (.light 6 (.light 7 (.light 8 (.light 9 (.light 10 (.heavy 11 [0] (.light 12 (.light 13 (.light 14 (.light 15 .leaf)))) .stop)))))))))))) follows (by kernel_rfl) (by kernel_rfl) ?_
   simp +decide only[go_sem,nT,nA,nS,nM,nB,reduceIte,reduceCtorEq,h0,hf,h4,h8,h9,h10,hlt',hx,hlb']
   refine zC (hp) rfl rfl ?_
   cases hb with
   | true =>
    have e:(c=0)=True:=by simpa using hz
    simp +decide only[go_sem,nT,nA,nS,nM,nB,reduceIte,reduceCtorEq,h0,hf,h4,h8,h9,h10,e]
   | false =>
    have e:(c=0)=False:=by simpa using hz
    simp +decide only[go_sem,nT,nA,nS,nM,nB,reduceIte,reduceCtorEq,h0,hf,h4,h8,h9,h10,e]
  ·have hlb' : ((q:Int)<(l.length:Int))=False:=by simp only[eq_iff_iff,iff_false];omega
   obtain rfl:hb=false:=by
    cases hb with
    | false=>rfl
    | true=>rw[List.getElem?_eq_none (by omega)] at hq2;simp at hq2
   simp +decide only[go_sem,nT,nA,nS,nM,nB,reduceIte,reduceCtorEq,h0,hf,h4,h8,h9,h10,hlt']
   refine HW.tree 1 (.light 0 (.light 1 (.light 2 (.light 3 (.light 4 (.light 5 (.light 6 (.light 7 (.light 8 (.light 9 (.light 10 (.heavy 11 [0] (.light 12 (.light 13 (.light 14 (.light 15 .leaf)))) .stop)))))))))))) follows (by kernel_rfl) (by kernel_rfl) ?_
   simp +decide only[go_sem,nT,nA,nS,nM,nB,reduceIte,reduceCtorEq,h0,hf,h4,h8,h9,h10,hlt',hlb']
theorem zMJ (l:List Ot) (o:Ot) (hl:l.length≤1000000) (hs:SetO l) (hsm:∀x∈l,SmallO x) (ho:SmallO o):HFn Tryz.prog 107 [.sl (ots l),otH o] (.v (.bool (hasO l o))):=by
 have h:=zPW l o hl hs hsm ho
 refine zA (fn:=Tryz.f107) 14 [4] (by kernel_rfl) rfl (by kernel_rfl) (HW.run 400 (by kernel_rfl) ?_)
 simp +decide only[go_sem,nT,nA,nS,nM,nB,reduceIte,reduceCtorEq]
 refine zC (h) rfl rfl ?_
 simp +decide only[go_sem,nT,nA,nS,nM,nB,reduceIte,reduceCtorEq]
theorem zPX (b:List Ot) (o:Ot) (hl:b.length≤1000000) (hs:SetO b) (hsm:∀x∈b,SmallO x) (ho:SmallO o):HFn Tryz.prog 106 [otH o,.fp [[.sl (ots b)]] 0 0] (.v (.bool (hasO b o))):=by
 have h:=zMJ b o hl hs hsm ho
 refine zA (fn:=Tryz.f106) 7 [3] (by kernel_rfl) rfl (by kernel_rfl) (HW.run 400 (by kernel_rfl) ?_)
 simp +decide only[go_sem,nT,nA,nS,nM,nB,reduceIte,reduceCtorEq]
 refine zC (h) rfl rfl ?_
 simp +decide only[go_sem,nT,nA,nS,nM,nB,reduceIte,reduceCtorEq]
end Go.Proofs.YtoknohandclcbaaGreat
namespace Go.Proofs.YtoknohandclcbaaGreat
set_option maxRecDepth 8000
def zB3 (g:List Int) (l:List (List Int)):Bool:=l.all fun row=>zAe row g
def tryG (f:List Int→List Int→Option (List Int)) (row:List Int):List Int→Option (List Int)
 | []=>none
 | n::rest=>match f rest (row++[n]) with | some r=>some r | none=>tryG f row rest
def tryF (l:List (List Int)):Nat→List Int→List Int→Option (List Int)
 | 0,_,row=>if zB3 row l=true then some row else none
 | m+1,all,row=>tryG (tryF l m) row all
def zCe (l:List (List Int)) (all:List Int):Nat→Nat→List Int×Bool
 | 0,_=>([],false)
 | k+1,m=>match tryF l m all [] with | some r=>(r,true) | none=>zCe l all k (m+1)
def insI (n:Int):List Int→List Int
 | []=>[n]
 | x::l=>if n<x then n::x::l else if n=x then x::l else x::insI n l
def allN (l:List (List Int)):List Int:=l.flatten.foldl (fun a n=>insI n a) []
def zB8 (l:List (List Int)):List Int×Bool:=if l.any (·.isEmpty)=true then ([],false) else zCe l (allN l) ((allN l).length+1) 0
def zHY (l:List Int):Prop:=l.Pairwise (·< ·)
theorem zIh {n y:Int}:∀{l:List Int},y∈insI n l↔y∈l∨y=n
 | []=>by simp[insI]
 | x::l=>by
  unfold insI
  split
  ·simp;grind
  ·split
   ·rename_i h;subst h;simp;intro h;exact .inl h
   ·simp only[List.mem_cons,zIh (l:=l)];grind
theorem zKS {n:Int}:∀{l:List Int},zHY l→zHY (insI n l)
 | [],_=>by simp[insI,zHY]
 | x::l,h=>by
  obtain ⟨h1,h2⟩:=List.pairwise_cons.1 h
  unfold insI
  split
  ·rename_i hn
   refine List.pairwise_cons.2 ⟨fun y hy=>?_,h⟩
   rcases List.mem_cons.1 hy with rfl | hy
   ·exact hn
   ·have:=h1 y hy;omega
  ·split
   ·exact h
   ·refine List.pairwise_cons.2 ⟨fun y hy=>?_,zKS h2⟩
    rcases zIh.1 hy with hy | rfl
    ·exact h1 y hy
    ·omega
theorem zHn:∀(l a:List Int),zHY a→zHY (l.foldl (fun a n=>insI n a) a)
 | [],_,h=>h
 | x::l,a,h=>zHn l _ (zKS h)
theorem zK1 {y:Int}:∀(l a:List Int),y∈l.foldl (fun a n=>insI n a) a↔y∈a∨y∈l
 | [],a=>by simp
 | x::l,a=>by
  rw[List.foldl_cons,zK1 l,zIh]
  simp only[List.mem_cons];grind
theorem zU8 (l:List (List Int)):zHY (allN l):=zHn _ _ List.Pairwise.nil
theorem zOV {y:Int} {l:List (List Int)}:y∈allN l↔∃r∈l,y∈r:=by
 unfold allN
 rw[zK1];simp[List.mem_flatten]
theorem zRm:∀{a b:List Int},zHY a→zHY b→(∀y,y∈a↔y∈b)→a=b
 | [],[],_,_,_=>rfl
 | [],y::b,_,_,h=>by have:=(h y).2 (by simp);simp at this
 | x::a,[],_,_,h=>by have:=(h x).1 (by simp);simp at this
 | x::a,y::b,ha,hb,h=>by
  obtain ⟨a1,a2⟩:=List.pairwise_cons.1 ha
  obtain ⟨b1,b2⟩:=List.pairwise_cons.1 hb
  have hxy:x=y:=by
   rcases List.mem_cons.1 ((h x).1 (by simp)) with e | hx
   ·exact e
   ·rcases List.mem_cons.1 ((h y).2 (by simp)) with e | hy
    ·exact e.symm
    ·have:=a1 y hy;have:=b1 x hx;omega
  subst hxy
  rw[zRm a2 b2 fun z=>?_]
  constructor
  ·intro hz
   rcases List.mem_cons.1 ((h z).1 (by simp[hz])) with e | hz2
   ·subst e;exact absurd (a1 z hz) (by omega)
   ·exact hz2
  ·intro hz
   rcases List.mem_cons.1 ((h z).2 (by simp[hz])) with e | hz2
   ·subst e;exact absurd (b1 z hz) (by omega)
   ·exact hz2
theorem zNV (l:List (List Int)):∀(m:Nat) (all row:List Int),all.length<m→tryF l m all row=none
 | 0,_,_,h=>by omega
 | m+1,all,row,h=>by
  show tryG (tryF l m) row all=none
  induction all with
  | nil=>rfl
  | cons n rest ih =>
   have hr:rest.length<m:=by simp at h;omega
   rw[tryG,zNV l m rest _ hr]
   exact ih (by omega)
theorem zII (l:List (List Int)):∀(all row:List Int),zB3 (row++all) l=true→tryF l all.length all row=some (row++all)
 | [],row,h=>by
  rw[List.append_nil] at h⊢
  show (if zB3 row l=true then some row else none)=_
  rw[if_pos h]
 | n::all,row,h=>by
  show tryG (tryF l all.length) row (n::all)=_
  rw[tryG,zII l all (row++[n]) (by rw[List.append_assoc];exact h)]
  simp
theorem zW6 {row g:List Int} (hn:row≠[]) (h:∀y∈row,y∈g):zAe row g=true:=by
 cases row with
 | nil=>exact absurd rfl hn
 | cons x r =>
  unfold zAe
  rw[List.any_eq_true]
  exact ⟨x,by simp,by unfold hasB;rw[decide_eq_true_iff];exact h x (by simp)⟩
theorem zNv {l:List (List Int)} (h:¬l.any (·.isEmpty)=true):zB3 (allN l) l=true:=by
 unfold zB3
 rw[List.all_eq_true]
 intro row hr
 refine zW6 (fun e=>h ?_) fun y hy=>zOV.2 ⟨row,hr,hy⟩
 rw[List.any_eq_true];exact ⟨row,hr,by rw[e];rfl⟩
end Go.Proofs.YtoknohandclcbaaGreat
namespace Go.Proofs.YtoknohandclcbaaGreat
open Go.RowKit
set_option maxRecDepth 8000
set_option maxHeartbeats 4000000 in
theorem zLo (l:List Int) (n:Int) (hl:l.length≤1000000):HFn Tryz.prog 125 [.sl (ints l),.v (.int .i64 n)] (.v (.int .i64 (idxF (fun x=>decide (x=n)) l))):=by
 refine zA (fn:=Tryz.f125) 19 [4] (by kernel_rfl) rfl (by kernel_rfl) (HW.run 400 (by kernel_rfl) ?_)
 simp +decide only[go_sem,nT,nA,nS,nM,nB,reduceIte,reduceCtorEq]
 refine HW.loopG (fun k T H=>∃i:Nat,k=l.length-i∧i≤l.length∧(∀(j:Nat) y,j<i→l[j]?=some y→¬y=n)∧T 0=.sl (ints l)∧T 1=.v (.int .i64 n)∧T 7=.v (.int .i64 l.length)∧T 8=.v (.int .i64 i)∧H=[]) l.length ⟨_,_,Ghost.refl,0,rfl,by omega,by simp,rfl,rfl,rfl,rfl,rfl⟩ ?_
 rintro k T H ⟨i,rfl,hil,hp,h0,h1,h7,h8,rfl⟩
 refine HW.run 200 (by kernel_rfl) ?_
 by_cases hlt:i<l.length
 ·have hlt' : ((i:Int)<(l.length:Int))=True:=by simp only[eq_iff_iff,iff_true];omega
  have hx:l[i]?=some l[i]:=List.getElem?_eq_getElem hlt
  generalize l[i]=x at hx
  rcases tfE' (n=x) with ⟨d,c⟩ | ⟨d,c⟩
  ·rw[zEK hx (fun j y hj hy=>by simpa using hp j y hj hy) (by simp[d])]
   simp +decide only[go_sem,nT,nA,nS,nM,nB,reduceIte,reduceCtorEq,h0,h1,h7,h8,hlt',hx,c]
  ·simp +decide only[go_sem,nT,nA,nS,nM,nB,reduceIte,reduceCtorEq,h0,h1,h7,h8,hlt',hx,c]
   refine ⟨_,_,Ghost.refl,l.length-(i+1),by omega,i+1,rfl,by omega,?_,?_,?_,?_,?_,?_⟩
   ·intro j y hj hy
    rcases Nat.lt_or_ge j i with hji | hji
    ·exact hp j y hji hy
    ·obtain rfl:j=i:=by omega
     rw[hx] at hy;cases hy
     omega
   all_goals first | (simp +decide only[go_sem,nB,reduceIte,h0,h1,h7];done) | (simp +decide only[go_sem,nB,reduceIte];rw[w64 (by omega) (by omega)];rfl) | rfl
 ·have hlt' : ((i:Int)<(l.length:Int))=False:=by simp only[eq_iff_iff,iff_false];omega
  rw[zCs fun j y hy=>by simpa using hp j y (by have:=(List.getElem?_eq_some_iff.1 hy).1;omega) hy]
  simp +decide only[go_sem,nT,nA,nS,nM,nB,reduceIte,reduceCtorEq,h0,h1,h7,h8,hlt']
theorem zHC (l:List Int) (n:Int) (hl:l.length≤1000000):HFn Tryz.prog 91 [.sl (ints l),.v (.int .i64 n)] (.v (.bool (hasB l n))):=by
 have hi:=zLo l n hl
 have he:hasB l n=l.any fun x=>decide (x=n):=by
  unfold hasB
  rw[Bool.eq_iff_iff,decide_eq_true_iff,List.any_eq_true]
  simp
 rw[he,←zGX]
 generalize idxF (fun x=>decide (x=n)) l=m at hi
 refine zA (fn:=Tryz.f91) 9 [4] (by kernel_rfl) rfl (by kernel_rfl) (HW.run 400 (by kernel_rfl) ?_)
 simp +decide only[go_sem,nT,nA,nS,nM,nB,reduceIte,reduceCtorEq]
 refine zC (hi) rfl rfl ?_
 rcases tfE' (0≤m) with ⟨d,c⟩ | ⟨d,c⟩
 ·simp +decide only[go_sem,nT,nA,nS,nM,nB,reduceIte,reduceCtorEq,c]
 ·simp +decide only[go_sem,nT,nA,nS,nM,nB,reduceIte,reduceCtorEq,c]
theorem zSz (b:List Int) (n:Int) (hb:b.length≤1000000):HFn Tryz.prog 90 [.v (.int .i64 n),.fp [[.sl (ints b)]] 0 0] (.v (.bool (hasB b n))):=by
 refine zA (fn:=Tryz.f90) 7 [3] (by kernel_rfl) rfl (by kernel_rfl) (HW.run 400 (by kernel_rfl) ?_)
 simp +decide only[go_sem,nT,nA,nS,nM,nB,reduceIte,reduceCtorEq]
 refine zC (zHC b n hb) rfl rfl ?_
 simp +decide only[go_sem,nT,nA,nS,nM,nB,reduceIte,reduceCtorEq]
theorem zNw (a b:List Int) (ha:a.length≤1000000) (hb:b.length≤1000000):HFn Tryz.prog 58 [.sl (ints a),.sl (ints b)] (.v (.bool (zAe a b))):=by
 refine zA (fn:=Tryz.f58) 8 [4] (by kernel_rfl) rfl (by kernel_rfl) (HW.run 400 (by kernel_rfl) ?_)
 simp +decide only[go_sem,nT,nA,nS,nM,nB,reduceIte,reduceCtorEq]
 refine zJ 3 (conI a 90 [.fp [[.sl (ints b)]] 0 0] (hasB b) ha (fun x _=>rfl) rfl (fun i x _ _=>zSz b x hb)) (by simp only[go_sem];rfl) rfl ?_
 simp +decide only[go_sem,nT,nA,nS,nM,nB,reduceIte,reduceCtorEq]
 rfl
theorem zWq (g row:List Int) (hg:g.length≤1000000) (hr:row.length≤1000000):HFn Tryz.prog 57 [.sl (ints row),.fp [[.sl (ints g)]] 0 0] (.v (.bool (!zAe row g))):=by
 refine zA (fn:=Tryz.f57) 8 [3] (by kernel_rfl) rfl (by kernel_rfl) (HW.run 400 (by kernel_rfl) ?_)
 simp +decide only[go_sem,nT,nA,nS,nM,nB,reduceIte,reduceCtorEq]
 refine zC (zNw row g hr hg) rfl rfl ?_
 simp +decide only[go_sem,nT,nA,nS,nM,nB,reduceIte,reduceCtorEq]
theorem zZi (g:List Int) (l:List (List Int)) (hg:g.length≤1000000) (hl:l.length≤1000000) (hr:∀r∈l,r.length≤1000000):HFn Tryz.prog 33 [.sl (ints g),.sl (rws l)] (.v (.bool (zB3 g l))):=by
 have he:zB3 g l = !(l.any fun row=>!zAe row g):=by
  unfold zB3
  rw[List.all_eq_not_any_not]
 rw[he]
 refine zA (fn:=Tryz.f33) 9 [4] (by kernel_rfl) rfl (by kernel_rfl) (HW.run 400 (by kernel_rfl) ?_)
 simp +decide only[go_sem,nT,nA,nS,nM,nB,reduceIte,reduceCtorEq]
 refine zJ 3 (conR l 57 [.fp [[.sl (ints g)]] 0 0] (fun row=>!zAe row g) hl (fun x _=>rfl) rfl (fun i x hx _=>zWq g x hg (hr x (List.mem_of_getElem? hx)))) (by simp only[go_sem];rfl) rfl ?_
 simp +decide only[go_sem,nT,nA,nS,nM,nB,reduceIte,reduceCtorEq]
theorem zZh (g row:List Int) (hg:g.length≤1000000) (hr:row.length≤1000000):HFn Tryz.prog 180 [.sl (ints row),.fp [[.sl (ints g)]] 0 0] (.v (.bool (!zAe row g))):=by
 refine zA (fn:=Tryz.f180) 8 [3] (by kernel_rfl) rfl (by kernel_rfl) (HW.run 400 (by kernel_rfl) ?_)
 simp +decide only[go_sem,nT,nA,nS,nM,nB,reduceIte,reduceCtorEq]
 refine zC (zNw row g hr hg) rfl rfl ?_
 simp +decide only[go_sem,nT,nA,nS,nM,nB,reduceIte,reduceCtorEq]
theorem zNU (g:List Int) (l:List (List Int)) (hg:g.length≤1000000) (hl:l.length≤1000000) (hr:∀r∈l,r.length≤1000000):HFn Tryz.prog 88 [.sl (rws l),.fn 180 [.fp [[.sl (ints g)]] 0 0]] (.v (.int .i64 (idxF (fun row=>!zAe row g) l))) :=
 idxR l 180 [.fp [[.sl (ints g)]] 0 0] (fun row=>!zAe row g) hl (fun x _=>rfl) (fun i x hx _=>zZh g x hg (hr x (List.mem_of_getElem? hx)))
theorem zH1 (g:List Int) (l:List (List Int)):decide (idxF (fun row=>!zAe row g) l<0)=zB3 g l:=by
 have h:=zGX (pred:=fun row=>!zAe row g) (l:=l)
 have he:zB3 g l = !(l.any fun row=>!zAe row g):=by
  unfold zB3
  rw[List.all_eq_not_any_not]
 rw[he,←h]
 rw[Bool.eq_iff_iff]
 simp
end Go.Proofs.YtoknohandclcbaaGreat
namespace Go.Proofs.YtoknohandclcbaaGreat
open Go.RowKit
set_option maxRecDepth 8000
def DieS (N L B:Nat) (Z:Nat→Prop) (G:List (Option OG)) (FP:Nat→List Nat) (w:World) (V:HV) (e:Exit) (a' : Act) (w' : World):Prop :=
 ∃v T' H' Z' G' FP' ds',e=.panic [{ v:=v,recovered:=false }]∧RV Z' G' w' V v []∧St N B Z' G' FP' ds' T' H' a' w'∧GLt L G G'∧Evo Z FP w Z' FP' w'
def HD (P:Program) (N L:Nat) (c:Code) (V:HV) (T:Nat→HV) (H:Heap):Prop :=
 ∀ro n B Z G FP ds a w,Bo ro B FP w→L≤G.length→St N B Z G FP ds T H a w→c.wpIn (Wd ro) n P (DieS N L B Z G FP w V) a w
def HDo (P:Program) (N L:Nat) (o:Oper) (V:HV) (T:Nat→HV) (H:Heap):Prop :=
 ∀ro n B Z G FP ds a w,Bo ro B FP w→L≤G.length→St N B Z G FP ds T H a w→∀(next:Act→World→Prop) (Q:Exit→Act→World→Prop),(∀e a' w',DieS N L B Z G FP w V e a' w'→Q e a' w')→o.wpIn (Wd ro) n P a w next Q
def zQq (P:Program) (f:FuncId) (args:List HV) (V:HV):Prop :=
 (∀vals w,(callFunc f vals).run P w=.ok (.enter f vals) w)∧∀Z FP w vals,HInv Z [] FP [] w→RL Z [] w args vals []→Calls P f vals.toArray w (fun e w'=>∃v Z' FP',e=.panicked [{ v:=v,recovered:=false }]∧HInv Z' [] FP' [] w'∧RV Z' [] w' V v []∧Evo Z FP w Z' FP' w')
section
variable {P:Program} {N L:Nat} {V:HV} {T:Nat→HV} {H:Heap}
theorem DieS.evo {B:Nat} {Z Z1:Nat→Prop} {G G1:List (Option OG)} {FP FP1:Nat→List Nat} {w w1:World} {e:Exit} {a' : Act} {w' : World} (h:DieS N L B Z1 G1 FP1 w1 V e a' w') (hG:GLt L G G1) (hE:Evo Z FP w Z1 FP1 w1):DieS N L B Z G FP w V e a' w':=by
 obtain ⟨v,T',H',Z',G',FP',ds',h1,h2,h3,h4,h5⟩:=h
 exact ⟨v,T',H',Z',G',FP',ds',h1,h2,h3,hG.trans h4,hE.trans h5⟩
theorem HD.seq1 {x y:Code} (h:HD P N L x V T H):HD P N L (.seq x y) V T H:=by
 intro ro n B Z G FP ds a w hB hL hs
 refine wpIn_seq (wpIn_mono (h ro n B Z G FP ds a w hB hL hs) ?_)
 intro e a' w' hd
 have hd':=hd
 obtain ⟨v,T',H',Z',G',FP',ds',rfl,_⟩:=hd
 exact hd'
theorem HD.seq2 {x y:Code} {I:(Nat→HV)→Heap→Prop} (h:HW P N L x (zGL I) T H) (k:∀T H,I T H→HD P N L y V T H):HD P N L (.seq x y) V T H:=by
 intro ro n B Z G FP ds a w hB hL hs
 refine wpIn_seq (wpIn_mono (h ro n B Z G FP ds a w hB hL hs) ?_)
 rintro e a' w' ⟨T',H',Z',G',FP',ds',h1,h2,h3,h4⟩
 cases e with
 | normal=>exact wpIn_mono (k T' H' h1 ro n B Z' G' FP' ds' a' w' (hB.evo h4) h3.len h2) fun e a'' w'' hd=>hd.evo h3 h4
 | _=>exact False.elim h1
theorem HD.ghost {c:Code} {T' : Nat→HV} {H' : Heap} (g:Ghost N L T H T' H') (h:HD P N L c V T' H'):HD P N L c V T H:=by
 intro ro n B Z G FP ds a w hB hL hs
 obtain ⟨Z1,G1,FP1,h1,h2,h3⟩:=g B Z G FP ds a w hL hs
 exact wpIn_mono (h ro n B Z1 G1 FP1 ds a w (hB.evo h3) h2.len h1) fun e a' w' hd=>hd.evo h2 h3
theorem HD.cond {c:Operand} {x y:Code} {t:Bool} (hx:zBK N c=true) (hc:hev T c=.v (.bool t)) (h1:t=true→HD P N L x V T H) (h2:t=false→HD P N L y V T H):HD P N L (.cond c x y) V T H:=by
 intro ro n B Z G FP ds a w hB hL hs
 have he:=hs.cond hx hc
 cases t with
 | true=>exact wpIn_cond he (h1 rfl ro n B Z G FP ds a w hB hL hs)
 | false=>exact wpIn_cond he (h2 rfl ro n B Z G FP ds a w hB hL hs)
theorem HD.block {l:Nat} {c:Code} (h:HD P N L c V T H):HD P N L (.block l c) V T H:=by
 intro ro n B Z G FP ds a w hB hL hs
 refine wpIn_block (wpIn_mono (h ro n B Z G FP ds a w hB hL hs) ?_)
 intro e a' w' hd
 have hd':=hd
 obtain ⟨v,T',H',Z',G',FP',ds',rfl,_⟩:=hd
 exact hd'
theorem HD.loop {c:Code} (I:Nat→(Nat→HV)→Heap→Prop) (k:Nat) (h0:I k T H)
  (round:∀k T H,I k T H→HD P N L c V T H∨HW P N L c (zGL fun T' H'=>∃k',k' < k∧I k' T' H') T H):HD P N L (.loop c) V T H:=by
 intro ro n B Z G FP ds a w hB hL hs
 let J:Act→World→Prop:=fun a' w'=>∃k T' H' Z' G' FP' ds',I k T' H'∧St N B Z' G' FP' ds' T' H' a' w'∧GLt L G G'∧Evo Z FP w Z' FP' w'
 let kk:Act→World→Nat→Prop:=fun a' w' k=>∃T' H' Z' G' FP' ds',I k T' H'∧St N B Z' G' FP' ds' T' H' a' w'∧GLt L G G'∧Evo Z FP w Z' FP' w'
 open Classical in
 let μ:Act→World→Nat:=fun a' w'=>if h:∃k,kk a' w' k then Classical.choose (zR h) else 0
 have hμ:∀a' w' k,kk a' w' k→kk a' w' (μ a' w')∧μ a' w'≤k:=by
  intro a' w' k hk
  have h:∃k,kk a' w' k:=⟨k,hk⟩
  have hs:=Classical.choose_spec (zR h)
  have e:μ a' w'=Classical.choose (zR h):=by
   simp only[μ];rw[dif_pos h]
  rw[e]
  exact ⟨hs.1,hs.2 k hk⟩
 refine wpIn_loop (I:=fun a' w'=>∃k,kk a' w' k) (μ:=μ) ⟨k,T,H,Z,G,FP,ds,h0,hs,GLt.refl hL,Evo.refl _ _ _⟩ ?_
 rintro a1 w1 ⟨k1,hk1⟩
 obtain ⟨⟨T1,H1,Z1,G1,FP1,ds1,i1,i2,i3,i4⟩,_⟩:=hμ a1 w1 k1 hk1
 rcases round _ T1 H1 i1 with hd | hw
 ·refine wpIn_mono (hd ro n B Z1 G1 FP1 ds1 a1 w1 (hB.evo i4) i3.len i2) ?_
  intro e a' w' hd
  have hd':=hd.evo i3 i4
  obtain ⟨v,T',H',Z',G',FP',ds',rfl,_⟩:=hd
  exact hd'
 ·refine wpIn_mono (hw ro n B Z1 G1 FP1 ds1 a1 w1 (hB.evo i4) i3.len i2) ?_
  rintro e a' w' ⟨T',H',Z',G',FP',ds',h1,h2,h3,h4⟩
  cases e with
  | normal =>
   obtain ⟨k',hk',hi'⟩:=h1
   have hkk:kk a' w' k':=⟨T',H',Z',G',FP',ds',hi',h2,i3.trans h3,i4.trans h4⟩
   exact ⟨⟨k',hkk⟩,Nat.lt_of_le_of_lt (hμ a' w' k' hkk).2 hk'⟩
  | _=>exact False.elim h1
theorem Oper.wpIn_mono2 {F:Fence} {n:Nat} {o:Oper} {a:Act} {w:World} {K K' : Act→World→Prop} {Q Q' : Exit→Act→World→Prop} (h:∀a w,K a w→K' a w) (hq:∀e a w,e≠.normal→Q e a w→Q' e a w)
  (hh:o.wpIn F n P a w K Q):o.wpIn F n P a w K' Q':=by
 unfold Oper.wpIn at *
 refine ⟨hh.1,?_⟩
 have hh:=hh.2
 have ho:LetsOut Q→LetsOut Q':=fun ⟨a,w,hq0⟩=>⟨a,w,hq _ _ _ (by simp) hq0⟩
 generalize (o.semAt F.round a.eval).run P w=r at *
 cases r with
 | ok x w' =>
  cases x <;> simp only[Oper.uponIn] at hh⊢<;>
   first
    | exact h _ _ hh
    | exact ⟨hh.1,CallsIn.mono hh.2 (fun e w'' he=>by cases e <;> first | exact h _ _ he | exact hq _ _ _ (by simp) he | exact ho he)⟩
    | exact ⟨hh.1,RowsIn.mono hh.2 (fun _ _ he=>h _ _ he)⟩
    | exact ⟨hh.1,RoundIn.mono hh.2 (fun e w'' he=>by cases e <;> first | exact h _ _ he | exact hq _ _ _ (by simp) he | exact ho he)⟩
 | halt x w'=>cases x <;> simp only[Oper.uponIn] at hh⊢<;> first | exact hq _ _ _ (by simp) hh | exact hh
theorem zD3 {F:Fence} {n:Nat} {ops:Array Oper} {Q Φ:Exit→Act→World→Prop} {o:Oper} (hq:∀e a w,e≠.normal→Φ e a w→Q e a w) (hn:∀a w,Φ .normal a w→wpListIn F n P ops Q [o] a w):∀(pre:List Oper) (a:Act) (w:World),wpListIn F n P ops Φ pre a w→wpListIn F n P ops Q (pre++[o]) a w
 | [],a,w,h=>hn a w h
 | p::pre,a,w,h=>by
  simp only[List.cons_append]
  unfold wpListIn at h⊢
  split
  ·rename_i hw
   rw[if_pos hw] at h
   exact Oper.wpIn_mono2 (fun a w h=>zD3 hq hn pre a w h) hq h
  ·rename_i hw
   rw[if_neg hw] at h
   exact ⟨h.1,zD3 hq hn pre _ w h.2⟩
theorem HD.region {id:Nat} {pre:List Oper} {o:Oper} {I:(Nat→HV)→Heap→Prop} (n:Nat) (hok:((pre++[o]).all fun o=>zI N o && zAC o)=true) (hg:o.guard=none) (h:ex P N L (zGL I) n [.ops (pre++[o]) pre] T H) (k:∀T H,I T H→HDo P N L o V T H):HD P N L (.region id (pre++[o]).toArray false) V T H:=by
 intro ro m B Z G FP ds a w hB hL hs
 have hpre:(pre.all fun o=>zI N o && zAC o)=true:=by
  rw[List.all_eq_true] at hok⊢
  exact fun x hx=>hok x (List.mem_append.2 (.inl hx))
 have:=zCU n [.ops (pre++[o]) pre] T H h (by simp only[List.all_cons,List.all_nil,zAp,hok,hpre,Bool.and_self]) ro m B Z G FP w Z G FP ds a w hB hs (GLt.refl hL) (Evo.refl _ _ _)
 simp only[M] at this
 refine wpIn_region_list ?_
 simp only[]
 refine zD3 (Φ:=Fin (zGL I) N L B Z G FP w) ?_ ?_ pre a w (by simpa using this)
 ·intro e a' w' he hq
  cases e with
  | normal=>exact absurd rfl he
  | _ =>
   obtain ⟨T',H',Z',G',FP',ds',h1,_⟩:=hq
   exact False.elim h1
 ·intro a' w' hq
  obtain ⟨T',H',Z',G',FP',ds',h1,h2,h3,h4⟩:=hq
  refine wpListIn_plain hg fun K' hK'=>?_
  exact k T' H' h1 ro m B Z' G' FP' ds' a' w' (hB.evo h4) h3.len h2 K' _ fun e a'' w'' hd=>hd.evo h3 h4
theorem HDo.call {o:Oper} {f:Operand} {args:Array Operand} {tys:Array TypeId} {fid:Nat} {args' : List HV}
  (ho:o.op=.call { callee:=.value f,args:=args,argTypes:=tys }) (hok:zI N o=true) (hf:hev T f=.fn fid []) (hlt:fid<4294967296) (ha:args.toList.map (hev T)=args') (hnm:nmL 0 args'=true) (hV:nm 0 V=true)
  (hc:zQq P fid args' V):HDo P N L o V T H:=by
 intro ro n B Z G FP ds a w hB hL hs next Q hn
 refine ⟨fun _ _=>trivial,?_⟩
 rw[zA2 _ _ _ (by rw[ho];intro c;simp)]
 have hfv:=hs.hev f (zE hok (by simp[ho,Op.operands,Call.operands]))
 rw[hf] at hfv
 simp only[RV] at hfv
 obtain ⟨cs,hfe,hcl⟩:=hfv
 have hcs:cs.toList=[]:=by simpa [RL] using hcl
 have hargs:args.toList.all (zBK N)=true:=by
  rw[List.all_eq_true]
  intro x hx
  exact zE hok (by simp[ho,Op.operands,Call.operands];exact .inr (by simpa using hx))
 have hal:=zBe hs args.toList hargs
 rw[ha] at hal
 have hal0:RL Z [] w args' (args.toList.map a.eval) []:=by
  have:=zAr args' 0 G _ [] hnm hal
  simpa using this
 have hfF:fnF fid=fid:=zG3 hlt
 have hrun:(execOp a.eval o).run P w=.ok (.enter (fnF fid) (fnA fid undef (args.toList.map a.eval) cs.toList).toArray) w:=zLt ho hfe (by rw[hfF];exact hc.1)
 rw[hrun,Oper.uponIn_enter,hfF,zFP hlt,hcs,List.append_nil]
 refine ⟨fun h=>by cases ro <;> simp[Wd,Fence.wide] at h,zCW (Calls.mono (hc.2 Z (fun _=>[]) w _ (HInv.empty hs.inv.zlt hs.inv.glob) hal0) ?_)⟩
 rintro e w' ⟨v,Z',FP',rfl,hi',hr,hE⟩
 have hk:∀b,b<w.heap.size→w'.heap[b]?=w.heap[b]?:=fun b hb=>hE.keep b hb (by simp)
 have hznew:∀b,Z' b→Z b∨w.heap.size≤b:=fun b hb=>by
  rcases hE.znew b hb with h | h | ⟨id,h⟩
  ·exact .inl h
  ·exact .inr h
  ·simp at h
 have hE2:Evo Z FP w Z' FP w':=⟨hE.os,hE.tape,hE.output,hE.size,fun b hb _=>hk b hb,hE.zle,fun b hb=>(hznew b hb).elim .inl fun h=>.inr (.inl h),fun id b hb=>.inr ⟨id,hb⟩⟩
 have hi2:HInv Z' G FP H w':=by
  refine (hs.inv.keep hE.size (fun b hb=>hk b (by
   rcases hb with hb | ⟨id,hb⟩
   ·exact hs.inv.zlt b hb
   ·exact hs.inv.flt id b hb))).zmore hE.zle hi'.zlt (fun id b hb hz=>?_)
  rcases hznew b hz with h | h
  ·exact hs.inv.zfp id b hb h
  ·have:=hs.inv.flt id b hb;omega
 refine hn _ _ _ ⟨v,T,H,Z',G,FP,ds,rfl,?_,hs.evo hi2 (GLe.refl _) hE2,GLt.refl hL,hE2⟩
 exact RV.nil_keep (fun _ _=>rfl) (fun _ h=>h) (zBI G) hr
theorem HDo.panic {o:Oper} {x:Operand} {t:TypeId} {y:HV} (ho:o.op=.panic x) (hok:zI N o=true) (hx:hev T x=.ic t y):HDo P N L o (.ic t y) T H:=by
 intro ro n B Z G FP ds a w hB hL hs next Q hn
 refine ⟨fun _ _=>trivial,?_⟩
 rw[zA2 _ _ _ (by rw[ho];intro c;simp)]
 have hv:=hs.hev x (zE hok (by simp[ho,Op.operands]))
 rw[hx] at hv
 have hv':=hv
 simp only[RV] at hv
 obtain ⟨_,z,hz,_⟩:=hv
 have hrun:(execOp a.eval o).run P w=.halt (.panic (.iface t z)) w:=by
  unfold execOp
  rw[ho]
  show (Sem.run P (Next.value <$> Instr.panic (a.eval x)) w)=_
  rw[hz];rfl
 rw[hrun,Oper.uponIn_panic]
 exact hn _ _ _ ⟨_,T,H,Z,G,FP,ds,rfl,hz▸hv',hs,GLt.refl hL,Evo.refl _ _ _⟩
theorem zEI {ro:Option Nat} {n:Nat} {fn:Func} {tmps:Array Value} {R:Ending→World→Prop} {chain:List PanicEntry}:∀(ds:List Nat) (w:World),ds.Nodup→(∀d∈ds,w.heap[d]?=some (.deferred (some [])))→
  (∀w',w'.os=w.os→w'.tape=w.tape→w'.output=w.output→w'.heap.size=w.heap.size→(∀b,b∉ds→w'.heap[b]?=w.heap[b]?)→R (.panicked chain) w')→
  LeavesInM (Wd ro) n P fn tmps R (zF1 ds) (.panicking chain) w
 | [],w,_,_,h=>by
  simp only[zF1,List.map_nil,LeavesInM,LeavesIn]
  exact h w rfl rfl rfl rfl (fun _ _=>rfl)
 | d::ds,w,hnd,hd,h=>by
  have hdd:=hd d (by simp)
  obtain ⟨hn1,hn2⟩:=List.nodup_cons.1 hnd
  have hlt:d<w.heap.size:=(Array.getElem?_eq_some_iff.1 hdd).1
  simp only[zF1,List.map_cons,LeavesInM]
  refine ⟨by simp,.inl ⟨d,{ w with heap:=w.heap.setIfInBounds d (.deferred none) },rfl,?_,?_⟩⟩
  ·have:=run_takeDeferred (P:=P) hdd
   rw[this]
   rfl
  ·refine zEI ds _ hn2 (fun e he=>?_) ?_
   ·have:d≠e:=fun e'=>hn1 (e'▸he)
    simp[Array.getElem?_setIfInBounds_ne this,hd e (by simp[he])]
   ·intro w' ho ht hout hsz hk
    refine h w' ho ht hout (by rw[hsz];simp) (fun b hb=>?_)
    rw[hk b (fun hc=>hb (by simp[hc]))]
    have:d≠b:=fun e=>hb (by simp[e])
    simp[Array.getElem?_setIfInBounds_ne this]
theorem zID {f:FuncId} {fn:Func} {c:Code} {args:List HV} (N:Nat) (hf:P.funcs[f]?=some fn) (hb:fn.body=some c) (hok:((!(fn.name == "runtime.NumGoroutine")) && (N == fn.ntmps) && Nat.ble args.length fn.ntmps)=true) (hV:nm 0 V=true)
  (h:HD P N 0 c V (T0 args) []):zQq P f args V:=by
 simp only[Bool.and_eq_true,beq_iff_eq,Bool.not_eq_true'] at hok
 obtain ⟨⟨hname,hNN⟩,hN0⟩:=hok
 subst hNN
 have hN:args.length≤fn.ntmps:=Nat.le_of_ble_eq_true hN0
 have hne:¬fn.name = "runtime.NumGoroutine" :=by simpa using hname
 refine ⟨fun vals w=>by simp[callFunc,hf,hne,hb],fun Z FP w vals hi ha=>?_⟩
 refine callsIn_wide.1 (callsIn_of_wp_marks (F:=Fence.wide) (n:=0) hf hb trivial ?_)
 have hlen:=zX _ _ _ ha
 have hsz:(vals.toArray++Array.replicate (fn.ntmps-vals.toArray.size) undef).size=fn.ntmps:=by simp;omega
 have hst:St fn.ntmps w.heap.size Z [] FP [] (T0 args) [] { tmps:=vals.toArray++Array.replicate (fn.ntmps-vals.toArray.size) undef,defers:=[] } w :=
  ⟨hi,hsz,zGz fn.ntmps ha,rfl,by simp,by simp⟩
 refine wpIn_mono (h none 0 w.heap.size Z [] FP [] _ w ⟨Nat.le_refl _,by simp⟩ (by simp) hst) ?_
 rintro e a' w' ⟨v,T',H',Z',G',FP',ds',rfl,hr,hs',hG',hE'⟩
 show LeavesInM Fence.wide 0 P fn a'.tmps _ a'.defers (.panicking [{ v:=v,recovered:=false }]) w'
 rw[hs'.defers]
 refine zEI (ro:=none) ds' w' hs'.dsn (fun d hd=>(hs'.dsat d hd).2.1) ?_
 intro w2 ho ht hout hsz2 hk
 have hkeep:∀b,(Z' b∨∃id,b∈FP' id)→w2.heap[b]?=w'.heap[b]?:=by
  intro b hb
  refine hk b fun hc=>?_
  obtain ⟨_,_,h3,h4⟩:=hs'.dsat b hc
  rcases hb with hb | ⟨id,hb⟩
  ·exact h3 hb
  ·exact h4 id hb
 have hi2:HInv Z' G' FP' H' w2:=hs'.inv.keep (by omega) hkeep
 have hE2:Evo Z FP w Z' FP' w2:=by
  refine ⟨ho.trans hE'.os,ht.trans hE'.tape,hout.trans hE'.output,by rw[hsz2];exact hE'.size,fun b hb hf=>?_,hE'.zle,hE'.znew,hE'.fnew⟩
  rw[hk b (fun hc=>by have:=(hs'.dsat b hc).1;omega)]
  exact hE'.keep b hb hf
 have hr0:RV Z' [] w2 V v []:=by
  have:=zBP V 0 G' v [] hV (RV.nil_keep (fun b hb=>hkeep b (.inl hb)) (fun _ h=>h) (GLe.refl _) hr)
  simpa using this
 exact ⟨v,Z',fun _=>[],rfl,HInv.empty hi2.zlt hi2.glob,hr0,hE2.os,hE2.tape,hE2.output,hE2.size,hE2.keep,hE2.zle,hE2.znew,fun id b hb=>by simp at hb⟩
end
end Go.Proofs.YtoknohandclcbaaGreat
namespace Go.Proofs.YtoknohandclcbaaGreat
open Go.RowKit
set_option maxRecDepth 8000
def zSc (pre:List Oper) (o:Oper):Bool:=((pre++[o]).all fun x=>x.guard.isNone) && (List.range pre.length).all fun k=>zA9 (befs (pre++[o]) []) k pre.length
theorem zKA {l:Array Bool} {i:Nat} {d:Bool} (h:i<l.size):(l.push false).getD i d=l.getD i d:=by
 rw[Array.getD_eq_getD_getElem?,Array.getD_eq_getD_getElem?,Array.getElem?_push_lt h,Array.getElem?_eq_getElem h]
theorem zGH {l:Array Bool} {i:Nat} (h:(l.push false).getD i false=true):l.getD i false=true:=by
 rcases Nat.lt_trichotomy i l.size with hi | hi | hi
 ·rwa [zKA hi] at h
 ·subst hi
  rw[Array.getD_eq_getD_getElem?] at h
  simp at h
 ·rw[Array.getD_eq_getD_getElem?,Array.getElem?_eq_none (by simp;omega)] at h
  cases h
theorem zNi {l:Array Bool} {i:Nat} (h:i<l.size):(l.push false).setIfInBounds i true=(l.setIfInBounds i true).push false:=by
 obtain ⟨l⟩:=l
 simp only[List.push_toArray,List.setIfInBounds_toArray]
 congr 1
 exact List.set_append_left _ _ (by simpa using h)
theorem zYF {F:Fence} {n N m:Nat} {P:Program} {pre:List Oper} {o:Oper} {Q Φ:Exit→Act→World→Prop} (hA:AnyOk N m (pre++[o])) (hg:∀x∈pre++[o],x.guard=none) (hm:∀k,k<pre.length→zA9 (befs (pre++[o]) []) k pre.length=true)
  (hq:∀e a w,e≠.normal→Φ e a w→Q e a w) (hn:∀a w,Φ .normal a w→∀K,wpOpIn F n P (pre++[o]).toArray Q pre.length K a w) :
  ∀(fuel:Nat) (listed:Array Bool) (a:Act) (w:World),listed.size=pre.length→zCE (pre++[o]) (listed.push false)→wpAnyIn F n P .any pre.toArray Φ fuel listed a w→wpAnyIn F n P .any (pre++[o]).toArray Q (fuel+1) (listed.push false) a w:=by
 have some_of:∀{i:Nat} {x:Oper},(pre++[o])[i]?=some x→i≠pre.length→pre[i]?=some x∧i<pre.length:=by
  intro i x hx hi
  have hlt:=(List.getElem?_eq_some_iff.1 hx).1
  simp only[List.length_append,List.length_singleton] at hlt
  have:i<pre.length:=by omega
  rw[List.getElem?_append_left this] at hx
  exact ⟨hx,this⟩
 have hA1:∀{listed:Array Bool} {i:Nat},listed.size=pre.length→i≠pre.length→i∈Region.ready .any (pre++[o]).toArray (listed.push false)→i<pre.length∧i∈Region.ready .any pre.toArray listed:=by
  intro listed i hsz hi hr
  obtain ⟨h1,x,hx,ha⟩:=mem_ready.1 hr
  rw[List.getElem?_toArray] at hx
  obtain ⟨hx,hlt⟩:=some_of hx hi
  rw[zKA (by omega)] at h1
  exact ⟨hlt,mem_ready.2 ⟨h1,x,by rw[List.getElem?_toArray];exact hx,fun e he hb=>zGH (ha e he hb)⟩⟩
 have hA2:∀{listed:Array Bool},listed.size=pre.length→zCE (pre++[o]) (listed.push false)→pre.length∈Region.ready .any (pre++[o]).toArray (listed.push false)→Region.ready .any pre.toArray listed=[]:=by
  intro listed hsz hc hr
  rw[List.eq_nil_iff_forall_not_mem]
  intro j hj
  obtain ⟨h1,x,hx,_⟩:=mem_ready.1 hj
  rw[List.getElem?_toArray] at hx
  have hlt:=(List.getElem?_eq_some_iff.1 hx).1
  have:=zGH (z2 hA hc hr (hm j hlt))
  have h2:=zAJ h1
  rw[Array.getD_eq_getD_getElem?,h2] at this
  cases this
 have hA3:∀{listed:Array Bool},listed.size=pre.length→Region.ready .any (pre++[o]).toArray (listed.push false)≠[]:=by
  intro listed hsz h0
  obtain ⟨k,⟨h1,h2⟩,h3⟩:=zR (p:=fun k=>k<(pre++[o]).length∧(listed.push false).getD k false=false) ⟨pre.length,by simp,by
   rw[←hsz,Array.getD_eq_getD_getElem?];simp⟩
  have:=zAh hA (listed:=listed.push false) (by simp[hsz]) h1 h2 (fun j hj=>by
   cases hx:(listed.push false).getD j false with
   | true=>rfl
   | false=>have:=h3 j ⟨by omega,hx⟩;omega)
  rw[h0] at this;simp at this
 intro fuel
 induction fuel with
 | zero =>
  intro listed a w hsz hc h
  refine ⟨fun h0=>absurd h0 (hA3 hsz),fun i hi=>?_⟩
  by_cases e:i=pre.length
  ·subst e;exact hn a w h.2 _
  ·have:=(hA1 hsz e hi).2
   rw[h.1] at this;simp at this
 | succ fuel ih =>
  intro listed a w hsz hc h
  refine ⟨fun h0=>absurd h0 (hA3 hsz),fun i hi=>?_⟩
  by_cases e:i=pre.length
  ·subst e;exact hn a w (h.1 (hA2 hsz hc hi)) _
  ·obtain ⟨hlt,hr⟩:=hA1 hsz e hi
   have hop:=h.2 i hr
   have hx:pre[i]?=some pre[i]:=List.getElem?_eq_getElem hlt
   have hx2:(pre++[o])[i]?=some pre[i]:=by rw[List.getElem?_append_left hlt];exact hx
   have hgi:=hg _ (List.mem_of_getElem? hx2)
   unfold wpOpIn at hop⊢
   rw[List.getElem?_toArray,hx] at hop
   rw[List.getElem?_toArray,hx2]
   dsimp only at hop⊢
   have hw:∀y,Region.wanted pre[i] y=true:=fun y=>by simp only[Region.wanted,hgi]
   rw[hw,if_pos rfl] at hop
   rw[hw,if_pos rfl]
   refine Oper.wpIn_mono2 (fun a' w' hk=>?_) hq hop
   rw[zNi (by omega)]
   refine ih _ a' w' (by simpa using hsz) ?_ hk
   rw[←zNi (by omega)]
   exact zBD hc fun x hxx e he hb=>by
    obtain ⟨_,y,hy,ha⟩:=mem_ready.1 hi
    rw[List.getElem?_toArray] at hy
    rw[hxx] at hy;cases hy
    exact ha e (by simpa using he) hb
section
variable {P:Program} {N L:Nat} {V:HV} {T:Nat→HV} {H:Heap}
theorem HD.tree {id:Nat} {pre:List Oper} {o:Oper} (I:(Nat→HV)→Heap→Prop) (p:Plan) (hm:P.follows .mixedOrders=true) (hB:anyB N pre.length pre=true) (hp:p.chk pre (befs pre []) [] [] []=true) (hB2:anyB N (pre++[o]).length (pre++[o])=true) (hl:zSc pre o=true)
  (h:exT P pre (GQ N L I) p [] T H) (k:∀T H,I T H→HDo P N L o V T H):HD P N L (.region id (pre++[o]).toArray true) V T H:=by
 intro ro mm B Z G FP ds a w hB' hL hst
 have hA:=zE4 hB
 have hA2:=zE4 hB2
 unfold zSc at hl
 rw[Bool.and_eq_true] at hl
 obtain ⟨hl1,hl2⟩:=hl
 have hg:∀x∈pre++[o],x.guard=none:=fun x hx=>by
  have:=List.all_eq_true.1 hl1 x hx
  simpa using this
 have hmu:∀k,k<pre.length→zA9 (befs (pre++[o]) []) k pre.length=true:=fun k hk=>List.all_eq_true.1 hl2 k (List.mem_range.2 hk)
 have hEv:Evo Z FP w Z FP { w with drawn:=w.drawn+1 }:=⟨rfl,rfl,rfl,Nat.le_refl _,fun _ _ _=>rfl,fun _ h=>h,fun _ h=>.inl h,fun id b hb=>.inr ⟨id,hb⟩⟩
 have hi:HInv Z G FP H { w with drawn:=w.drawn+1 }:=hst.inv.keep (Nat.le_refl _) (fun _ _=>rfl)
 have hs':=hst.evo hi (GLe.refl _) hEv
 have hrep:∀k,(Array.replicate pre.length false).getD k false=false:=fun k=>by
  simp only[Array.getD_eq_getD_getElem?]
  by_cases hlt:k<pre.length
  ·rw[Array.getElem?_eq_getElem (by simpa using hlt)]
   simp
  ·rw[Array.getElem?_eq_none (by simpa using hlt)];rfl
 have e:∀g,tvS pre (fun k=>(Array.replicate pre.length false).getD k false) g T=T:=fun g=>by
  funext t
  unfold tvS
  rw[zB2]
  intro j _
  exact hrep _
 have e2:∀g,tvS pre (dm [] []) g T=T:=fun g=>by
  funext t
  unfold tvS
  rw[zB2]
  intro j _
  rfl
 let Φ:Exit→Act→World→Prop:=fun e a' w'=>e=.normal∧∃T H Z' G' FP',I T H∧St N B Z' G' FP' ds T H a' w'∧GLt L G G'∧Evo Z FP w Z' FP' w'
 have hany:wpAnyIn (Wd ro) mm P .any pre.toArray Φ pre.length (Array.replicate pre.length false) a { w with drawn:=w.drawn+1 }:=by
  refine zOU (K:=GQ N L I) (T0:=T) (B:=B) (L:=L) (Z0:=Z) (G0:=G) (FP0:=FP) (ds:=ds) (w0:=w) hA (fun Z' FP' w' hE=>hB'.evo hE) ?_ _ _ p [] [] [] (fun _=>.any) T H Z G FP _ _ (by simp) ?_ ?_ ?_ ?_ (GLt.refl hL) hEv
  ·rintro T1 H1 Z1 G1 FP1 a1 w1 ⟨T2,H2,g,hI⟩ hs1 hG1 hE1
   obtain ⟨Z3,G3,FP3,h1,h2,h3⟩:=g B Z1 G1 FP1 ds a1 w1 hG1.len hs1
   exact ⟨rfl,T2,H2,Z3,G3,FP3,hI,h1,hG1.trans h2,hE1.trans h3⟩
  ·have:∀k:Nat,left (Array.replicate k false)=k:=by intro k;simp[left]
   rw[this];exact Nat.le_refl _
  ·intro j o hj hl
   rw[hrep] at hl;cases hl
  ·exact ⟨hp,h,(e2 _).symm,fun i k hi=>(by simp[dm] at hi),fun i hi=>(by simp[dm] at hi),fun i hi=>(by rw[hrep] at hi;cases hi),fun i hi=>(by simp at hi),fun i hi=>(by simp at hi)⟩
  ·rw[e];exact hs'
 refine wpIn_region_any hm ?_
 have hsz:(pre++[o]).toArray.size=pre.length+1:=by simp
 rw[hsz]
 have hrp:Array.replicate (pre.length+1) false=(Array.replicate pre.length false).push false:=by rw[Array.replicate_succ]
 rw[hrp]
 refine zYF (Φ:=Φ) hA2 hg hmu (fun e a w he hq=>absurd hq.1 he) ?_ _ _ a _ (by simp) ?_ hany
 ·rintro a' w' ⟨_,T2,H2,Z2,G2,FP2,hI,hs2,hG2,hE2⟩ K
  unfold wpOpIn
  rw[List.getElem?_toArray,List.getElem?_append_right (Nat.le_refl _),Nat.sub_self]
  dsimp only[List.getElem?_cons_zero]
  have hw:∀y,Region.wanted o y=true:=fun y=>by simp only[Region.wanted,hg o (by simp)]
  rw[hw,if_pos rfl]
  exact k T2 H2 hI ro mm B Z2 G2 FP2 ds a' w' (hB'.evo hE2) hG2.len hs2 K _ fun e a'' w'' hd=>hd.evo hG2 hE2
 ·intro j x hj hl
  have:=zGH hl
  rw[hrep] at this;cases this
end
def zDt:List Oper→Option (List Oper×Oper)
 | []=>none
 | [x]=>some ([],x)
 | x::y::l=>(zDt (y::l)).map fun p=>(x::p.1,p.2)
theorem zE9 {x:Oper}:zDt [x]=some ([],x):=rfl
theorem zC0 {x y:Oper} {l:List Oper}:zDt (x::y::l)=(zDt (y::l)).map fun p=>(x::p.1,p.2):=rfl
theorem zFl:∀{l pre:List Oper} {o:Oper},zDt l=some (pre,o)→l=pre++[o]
 | [],_,_,h=>by cases h
 | [x],pre,o,h=>by
  rw[zE9] at h
  cases h;rfl
 | x::y::l,pre,o,h=>by
  rw[zC0] at h
  obtain ⟨⟨p,z⟩,h1,h2⟩:=Option.map_eq_some_iff.1 h
  cases h2
  rw[zFl h1];rfl
theorem zH3 {ops:Array Oper} {pre:List Oper} {o:Oper} (h:zDt ops.toList=some (pre,o)):ops=(pre++[o]).toArray:=by
 rw[←zFl h]
theorem zD6:∀{l:List Oper},l≠[]→∃pre o,zDt l=some (pre,o)
 | [],h=>absurd rfl h
 | [x],_=>⟨_,_,rfl⟩
 | x::y::l,_=>by
  obtain ⟨p,o,h⟩:=zD6 (l:=y::l) (by simp)
  exact ⟨x::p,o,by rw[zC0,h];rfl⟩
section
variable {P:Program} {N L:Nat} {V:HV} {T T' : Nat→HV} {H H' : Heap}
theorem HDo.ghost {o:Oper} (g:Ghost N L T H T' H') (h:HDo P N L o V T' H'):HDo P N L o V T H:=by
 intro ro n B Z G FP ds a w hB hL hs next Q hn
 obtain ⟨Z1,G1,FP1,h1,h2,h3⟩:=g B Z G FP ds a w hL hs
 exact h ro n B Z1 G1 FP1 ds a w (hB.evo h3) h2.len h1 next Q fun e a' w' hd=>hn e a' w' (hd.evo h2 h3)
theorem HD.regionA {id:Nat} {ops:Array Oper} {I:(Nat→HV)→Heap→Prop} (n:Nat) (hne:ops.toList≠[])
  (h:∀pre o,zDt ops.toList=some (pre,o)→((pre++[o]).all fun o=>zI N o && zAC o)=true∧o.guard=none∧ex P N L (zGL I) n [.ops (pre++[o]) pre] T H∧∀T H,I T H→HDo P N L o V T H):HD P N L (.region id ops false) V T H:=by
 obtain ⟨pre,o,hs⟩:=zD6 hne
 obtain ⟨h1,h2,h3,h4⟩:=h pre o hs
 rw[zH3 hs]
 exact HD.region n h1 h2 h3 h4
theorem HD.treeA {id:Nat} {ops:Array Oper} (I:(Nat→HV)→Heap→Prop) (p:Plan) (hm:P.follows .mixedOrders=true) (hne:ops.toList≠[])
  (h:∀pre o,zDt ops.toList=some (pre,o)→(anyB N pre.length pre=true∧p.chk pre (befs pre []) [] [] []=true∧anyB N (pre++[o]).length (pre++[o])=true∧zSc pre o=true)∧
   exT P pre (GQ N L I) p [] T H∧∀T H,I T H→HDo P N L o V T H):HD P N L (.region id ops true) V T H:=by
 obtain ⟨pre,o,hs⟩:=zD6 hne
 obtain ⟨⟨h1,h2,h3,h4⟩,h5,h6⟩:=h pre o hs
 rw[zH3 hs]
 exact HD.tree I p hm h1 h2 h3 h4 h5 h6
end
end Go.Proofs.YtoknohandclcbaaGreat
namespace Go.Proofs.YtoknohandclcbaaGreat
open Go.RowKit
set_option maxRecDepth 8000
structure TryOk (l:List (List Int)) (m:Nat) (all row:List Int):Prop where
 all:all.length≤100000
 row:row.length+m≤100000
 len:l.length≤100000
 each:∀r∈l,r.length≤100000
abbrev tryA (l:List (List Int)) (m:Nat) (all row:List Int):List HV:=[.sl (ints all),.v (.int .i64 m),.sl (ints row),.sl (rws l)]
abbrev zYS (row:List Int):HObj:=⟨22,1,[[.sl (ints row)]]⟩
set_option maxHeartbeats 8000000 in
theorem zVD (l:List (List Int)) (all row:List Int) (ok:TryOk l 0 all row) (h:tryF l 0 all row=none):HFn Tryz.prog 145 (tryA l 0 all row) (.tu []):=by
 have hi:=zNU row l (by have:=ok.row;omega) (by have:=ok.len;omega) (fun r hr=>by have:=ok.each r hr;omega)
 have hg:=zH1 row l
 have hh:zB3 row l=false:=by
  unfold tryF at h
  cases hb:zB3 row l with
  | false=>rfl
  | true=>rw[if_pos hb] at h;cases h
 rw[hh] at hg
 generalize idxF (fun row'=>!zAe row' row) l=q at hi hg
 have c0:(q<0)=False:=by simpa using hg
 refine zA (fn:=Tryz.f145) 48 [] (by kernel_rfl) rfl (by kernel_rfl) (HW.run 400 (by kernel_rfl) ?_)
 simp +decide only[go_sem,nT,nA,nS,nM,nB,reduceIte,reduceCtorEq]
 refine zJ 3 hi (by simp only[go_sem];rfl) rfl ?_
 simp +decide only[go_sem,nT,nA,nS,nM,nB,reduceIte,reduceCtorEq,c0]
set_option maxHeartbeats 8000000 in
theorem zVC (l:List (List Int)) (m:Nat) (all row:List Int) (ok:TryOk l (m+1) all row) (h:tryF l (m+1) all row=none)
  (ih:∀all row,TryOk l m all row→tryF l m all row=none→HFn Tryz.prog 145 (tryA l m all row) (.tu [])):HFn Tryz.prog 145 (tryA l ((m+1:Nat)) all row) (.tu []):=by
 have hal:=ok.all
 have hrl:=ok.row
 have hi:=zNU row l (by omega) (by have:=ok.len;omega) (fun r hr=>by have:=ok.each r hr;omega)
 generalize idxF (fun row'=>!zAe row' row) l=q at hi
 have c1:(((m+1:Nat):Int)=0)=False:=by simp only[eq_iff_iff,iff_false];omega
 have h' : tryG (tryF l m) row all=none:=h
 refine zA (fn:=Tryz.f145) 48 [] (by kernel_rfl) rfl (by kernel_rfl) (HW.run 400 (by kernel_rfl) ?_)
 simp +decide only[go_sem,nT,nA,nS,nM,nB,reduceIte,reduceCtorEq]
 refine zJ 3 hi (by simp only[go_sem];rfl) rfl ?_
 rcases tfE' (q<0) with ⟨d0,c0⟩ | ⟨d0,c0⟩
 all_goals
  simp +decide only[go_sem,nT,nA,nS,nM,nB,reduceIte,reduceCtorEq,c0,c1]
  refine HW.loopG (fun k T H=>∃i:Nat,k=all.length-i∧i≤all.length∧tryG (tryF l m) row (all.drop i)=none∧T 0=.sl (ints all)∧T 1=.v (.int .i64 ((m+1:Nat):Int))∧T 3=.sl (rws l)∧T 6=.pt 0 1 0 0∧T 27=.sl (ints all)∧T 28=.v (.int .i64 all.length)∧T 29=.v (.int .i64 i)∧H=[some (zYS row)]) all.length ⟨_,_,Ghost.refl,0,rfl,by omega,h',rfl,rfl,rfl,rfl,rfl,rfl,rfl,rfl⟩ ?_
  rintro k T H ⟨i,rfl,hil,hp,h0,h1,h3,h6,h27,h28,h29,rfl⟩
  refine HW.run 200 (by kernel_rfl) ?_
  by_cases hlt:i<all.length
  ·have hlt' : ((i:Int)<(all.length:Int))=True:=by simp only[eq_iff_iff,iff_true];omega
   have hx:all[i]?=some all[i]:=List.getElem?_eq_getElem hlt
   have hdr:all.drop i=all[i]::all.drop (i+1):=List.drop_eq_getElem_cons hlt
   generalize all[i]=n at hx hdr
   rw[hdr,tryG] at hp
   cases ht:tryF l m (all.drop (i+1)) (row++[n]) with
   | some r=>rw[ht] at hp;cases hp
   | none =>
    rw[ht] at hp
    have hih:=ih (all.drop (i+1)) (row++[n]) ⟨by simp;omega,by simp;omega,ok.len,ok.each⟩ ht
    have w1:IntKind.i64.wrap ((i:Int)+1)=((i+1:Nat):Int):=w64 (by omega) (by omega)
    have w2:IntKind.i64.wrap (((m+1:Nat):Int)-1)=(m:Int):=by rw[w64 (by omega) (by omega)];omega
    have tk:List.take (all.length-(i+1)) (List.drop (i+1) all)=List.drop (i+1) all:=List.take_of_length_le (by simp)
    have hln:(row++[n]).length=row.length+1:=by simp
    simp +decide only[go_sem,nT,nA,nS,nM,nB,reduceIte,reduceCtorEq,h0,h1,h3,h6,h27,h28,h29,hlt',hx]
    refine HW.tree 1 (.light 0 (.light 1 (.light 2 (.light 3 (.light 4 (.light 5 (.light 6 (.light 8 (.light 11 (.heavy 7 [0,1,2,3,4,5,8,11] (.heavy 9 [0,1,2,3,4,5,6,11] (.heavy 10 [0,1,2,3,4,5,11] (.heavy 12 [] .leaf .stop) .stop) .stop) (.heavy 9 [0,1,2,3,4,5,6,11] (.heavy 7 [0,1,2,3,4,5,8,11] (.heavy 10 [0,1,2,3,4,5,11] (.heavy 12 [] .leaf .stop) .stop) .stop) .stop))))))))))) follows (by kernel_rfl) (by kernel_rfl) ?_
    simp +decide only[go_sem,nT,nA,nS,nM,nB,reduceIte,reduceCtorEq,h0,h1,h3,h6,h27,h28,h29,hlt',hx,w1,w2]
    repeat (with_reducible refine And.intro ?_ ?_;·(with_reducible and_intros) <;> omega)
    refine ⟨?_,?_⟩
    all_goals
     refine zC (zAj row (by omega)) rfl rfl ?_
     simp +decide only[go_sem,nT,nA,nS,nM,nB,reduceIte,reduceCtorEq,h0,h1,h3,h6,h27,h28,h29,hlt',hx,w1,w2]
     repeat (with_reducible refine And.intro ?_ ?_;·(with_reducible and_intros) <;> omega)
     refine zJ 3 hih ?_ rfl ?_
     ·simp only[go_sem,tk,hln,Nat.zero_add,if_true]
      done
     simp +decide only[go_sem,nT,nA,nS,nM,nB,reduceIte,reduceCtorEq,h0,h1,h3,h6,h27,h28,h29,hlt',hx,w1,w2]
     refine ⟨_,_,Ghost.trunc [0,1,3,6,27,28,29] 1 (by omega) ?_ ?_,all.length-(i+1),by omega,i+1,rfl,by omega,hp,?_,?_,?_,?_,?_,?_,?_,?_⟩
     all_goals first | (simp +decide only[go_sem,nB,reduceIte,h0,h1,h3,h6,h27,h28];done) | rfl
  ·have hlt' : ((i:Int)<(all.length:Int))=False:=by simp only[eq_iff_iff,iff_false];omega
   simp +decide only[go_sem,nT,nA,nS,nM,nB,reduceIte,reduceCtorEq,h0,h1,h3,h6,h27,h28,h29,hlt']
end Go.Proofs.YtoknohandclcbaaGreat
