/- Parts of the proof: Sr, St, Pb, Pc, Pd, Qa, Qc, Ge, Gy, Gz, Ia, Id, Ie, Ib, If. -/
import Derived.Test.YtoknohandclcbaaGreatZb16
import Derived.Test.YtoknohandclcbaaGreatZb13
import Derived.Test.YtoknohandclcbaaGreatZb15
import Derived.Test.YtoknohandclcbaaGreatZb12
import Derived.Test.YtoknohandclcbaaGreatZb10
open Nat renaming reduceAdd → nA, reduceSub → nS, reduceMul → nM, reduceBEq → nB
open Int renaming reduceToNat → nT
set_option linter.unusedSectionVars false
set_option linter.unusedVariables false
set_option linter.unusedSimpArgs false
namespace Go.Proofs.YtoknohandclcbaaGreat
open Go.RowKit
set_option maxRecDepth 8000
abbrev zXH (p:Prg) (n:Nat) (thr:List (List HV)):Heap :=
  [some ⟨25,2,[[.sl (ints p.init),.sl (thrs p.thr)]]⟩,some ⟨25,2,[[.v (.slice none 0 0),.v (.slice none 0 0)]]⟩,
   some ⟨3,1,ints p.init⟩,some ⟨25,2,[[.hd 2 0 p.init.length,.hd 4 0 n]]⟩,some ⟨84,1,thr⟩]
set_option maxHeartbeats 8000000 in
theorem zSZ (p:Prg) (g:List Int) (hp:RightP p) (hg:g.length≤100000):HFn Tryz.prog 20 [prgH p,.sl (ints g)] (prgH (insP p g)):=by
 have hsm:=hp.small
 have hl:=hsm.thr
 have hi:=hsm.init
 refine zAk (fn:=Tryz.f20) 3 81 [.cell 4 25] (by kernel_rfl) rfl rfl (by kernel_rfl) (HW.run 400 (by kernel_rfl) ?_)
 simp +decide only[go_sem,nT,nA,nS,nM,nB,reduceIte,reduceCtorEq]
 repeat (with_reducible refine And.intro ?_ ?_;·(with_reducible and_intros) <;> omega)
 refine HW.loopG (fun k T H=>∃(i:Nat),k=p.thr.length-i∧i≤p.thr.length∧
  T 1=.sl (ints g)∧T 2=.pt 0 1 0 0∧T 5=.pt 3 1 0 0∧T 4=.pt 1 1 0 0∧T 6=.v (.int .i64 (zK p.thr i))∧T 7=.v (.int .i64 i)∧
  H=zXH p i (zC0 (insF g p.thr i))) p.thr.length
  ⟨_,_,(Ghost.cell 3 0 1 (.ow 84 1 []) rfl rfl rfl rfl (Conv.nilOw _ _) (by simp)).trans (Ghost.open 3 0 1),0,rfl,by omega,rfl,rfl,rfl,rfl,rfl,rfl,?_⟩ ?_
 ·rfl
 rintro k T H ⟨i,rfl,hi,h1,h2,h5,h4,h6,h7,rfl⟩
 refine HW.run 200 (by kernel_rfl) ?_
 have hsb:=zCs hsm i
 by_cases hlt:i<p.thr.length
 ·have hlt' : ((i:Int)<(p.thr.length:Int))=True:=by rw[zR];simp[hlt]
  have hx:p.thr[i]?=some p.thr[i]:=List.getElem?_eq_getElem hlt
  have hxl:=hsm.len _ (List.getElem_mem hlt)
  have hst:zK p.thr (i+1)=zK p.thr i+(p.thr[i]).length:=by show zK p.thr i+_=_;rw[hx];rfl
  have hRx:=fun a x h=>hp.x i _ hx a x h
  have hF:insF g p.thr (i+1)=insF g p.thr i++[insT g (zK p.thr i) p.thr[i]]:=by rw[insF,hx];rfl
  generalize p.thr[i]=l at hx hxl hst hRx hF
  generalize zK p.thr i=n at hsb hst h6 hF
  simp +decide only[go_sem,nT,nA,nS,nM,nB,reduceIte,reduceCtorEq,h1,h2,h5,h4,h6,h7,hlt']
  have hn:n≤3000:=by omega
  refine HW.loopG (fun k T H=>∃(j:Nat),k=l.length-j∧j≤l.length∧
   T 1=.sl (ints g)∧T 2=.pt 0 1 0 0∧T 5=.pt 3 1 0 0∧T 4=.pt 1 1 0 0∧T 6=.v (.int .i64 n)∧T 7=.v (.int .i64 i)∧
   T 8=.hd 5 0 (insR g n (l.take j)).length∧T 9=.v (.int .i64 j)∧
   H=zXH p i (zC0 (insF g p.thr i))++[some ⟨87,5,stps ((insR g n (l.take j)).map (zAM g n))⟩]) l.length
   ⟨_,_,(Ghost.nil 8 87 5 (by simp +decide only[go_sem,nB,reduceIte])),0,rfl,by omega,?_,?_,?_,?_,?_,?_,?_,?_,?_⟩ ?_
  iterate 9 (first | focus (simp +decide only[go_sem,nB,reduceIte,h1,h2,h5,h4,h6,h7];done) | focus (simp +decide only[go_sem,nB,reduceIte];rfl) | rfl)
  clear h1 h2 h5 h4 h6 h7 T
  rintro k T H ⟨j,rfl,hj,h1,h2,h5,h4,h6,h7,h8,h9,rfl⟩
  refine HW.run 200 (by kernel_rfl) ?_
  have hlr:=zFg g n l j hj
  have hcl:=zCW g n j
  by_cases hjl:j<l.length
  ·have hj' : ((j:Int)<(l.length:Int))=True:=by rw[zR];simp[hjl]
   have hy:l[j]?=some l[j]:=List.getElem?_eq_getElem hjl
   have htk:l.take (j+1)=l.take j++[l[j]]:=by rw[List.take_add_one,hy];rfl
   have hR2:insR g n (l.take (j+1))=insR g n (l.take j)++((if hasB g ((n+j:Nat):Int)=true then [fnc] else [])++[l[j]]):=by
    rw[htk,zKb,List.length_take,Nat.min_eq_left (by omega)]
   have hRy:=hRx j _ hy
   generalize l[j]=y at hy hR2 hRy
   have hwn:IntKind.i64.wrap ((n:Int)+(j:Int))=((n+j:Nat):Int):=by rw[w64 (by omega) (by omega)];rfl
   have hML:((insR g n (l.take j)).map (zAM g n)).length=(insR g n (l.take j)).length:=List.length_map _
   have hfn:zAM g n fnc=fnc:=by unfold zAM fnc;rw[if_neg (by decide)]
   generalize insR g n (l.take j)=R at h8 hlr hR2 hML⊢
   simp +decide only[go_sem,nT,nA,nS,nM,nB,reduceIte,reduceCtorEq,h1,h2,h5,h4,h6,h7,h8,h9,hlt',hj',hx,hy,hwn]
   refine zJ 3 (zS0 g ((n+j:Nat):Int) (by omega)) (by simp only[go_sem]) rfl ?_
   have fin:∀(T' : Nat→HV) (R2:List Stp) (B:Heap),insR g n (l.take (j+1))=R2→T' 1=.sl (ints g)→T' 2=.pt 0 1 0 0→T' 5=.pt 3 1 0 0→T' 4=.pt 1 1 0 0→T' 6=.v (.int .i64 n)→T' 7=.v (.int .i64 i)→T' 8=.hd 5 0 R2.length→T' 9=.v (.int .i64 (IntKind.i64.wrap ((j:Int)+1)))→
     GQ 81 0 (fun T' H'=>∃k',k' < l.length-j∧∃j,k'=l.length-j∧j≤l.length∧T' 1=.sl (ints g)∧T' 2=.pt 0 1 0 0∧T' 5=.pt 3 1 0 0∧T' 4=.pt 1 1 0 0∧T' 6=.v (.int .i64 n)∧T' 7=.v (.int .i64 i)∧
      T' 8=.hd 5 0 (insR g n (l.take j)).length∧T' 9=.v (.int .i64 j)∧H'=zXH p i (zC0 (insF g p.thr i))++[some ⟨87,5,stps ((insR g n (l.take j)).map (zAM g n))⟩]) T' (zXH p i (zC0 (insF g p.thr i))++some ⟨87,5,stps (R2.map (zAM g n))⟩::B):=by
    intro T' R2 B hR k1 k2 k5 k4 k6 k7 k8 k9
    refine GQ.step (Ghost.trunc [1,2,5,4,6,7,8,9] 6 (by omega) ?_ ?_) (GQ.done ⟨l.length-(j+1),by omega,j+1,rfl,by omega,?_,?_,?_,?_,?_,?_,?_,?_,?_⟩)
    ·simp +decide only[go_sem,nB,reduceIte,k1,k2,k5,k4,k6,k7,k8,k9,List.all_cons,List.all_nil]
    ·simp +decide only[go_sem,nB,reduceIte]
    iterate 6 simp +decide only[go_sem,nB,reduceIte,k1,k2,k5,k4,k6,k7]
    ·simp +decide only[go_sem,nB,reduceIte,k8,hR]
    ·simp +decide only[go_sem,nB,reduceIte,k9];rw[w64 (by omega) (by omega)];rfl
    ·rw[hR];rfl
   cases hin:hasB g ((n+j:Nat):Int) with
   | true =>
    rw[hin,if_pos rfl] at hR2
    by_cases h8o:8≤y.op
    ·have h8' : ((8:Int)≤y.op)=True:=by simp[h8o]
     obtain ⟨t0,t1⟩:=hRy.to.1 h8o
     obtain ⟨q,hq⟩:∃q:Nat,y.to=q:=⟨y.to.toNat,by omega⟩
     have hcq:=zCW g n q
     have hwq:IntKind.i64.wrap ((q:Int)+(zAC g n q:Int))=(q:Int)+(zAC g n q:Int):=w64 (by omega) (by omega)
     simp +decide only[go_sem,nT,nA,nS,nM,nB,reduceIte,reduceCtorEq,h1,h2,h5,h4,h6,h7,h8,h9,hlt',hj',hx,hy,hML,h8']
     repeat (with_reducible refine And.intro ?_ ?_;·(with_reducible and_intros) <;> omega)
     refine HW.tree 1 (.light 0 (.light 1 (.light 2 (.light 3 (.light 4 (.light 5 (.heavy 6 [0,1] (.light 7 (.light 8 (.heavy 9 [] .leaf .stop))) .stop))))))) follows (by kernel_rfl) (by kernel_rfl) ?_
     simp +decide only[go_sem,nT,nA,nS,nM,nB,reduceIte,reduceCtorEq,h1,h2,h5,h4,h6,h7,h8,h9,hlt',hj',hx,hy,hML,h8',hq]
     refine zD (zOA g n q (by omega) (by omega) (by omega)) rfl rfl ?_
     simp +decide only[go_sem,nT,nA,nS,nM,nB,reduceIte,reduceCtorEq,h1,h2,h5,h4,h6,h7,h8,h9,hlt',hj',hx,hy,hML,h8',hq,hwq]
     repeat (with_reducible refine And.intro ?_ ?_;·(with_reducible and_intros) <;> omega)
     have e:zAM g n y=⟨y.op,y.reg,y.loc,y.n,(q:Int)+(zAC g n q:Int)⟩:=by
      unfold zAM;rw[if_pos h8o,hq,Int.toNat_natCast]
     have hrows:(R++([fnc]++[y])).map (zAM g n)=R.map (zAM g n)++[fnc]++[⟨y.op,y.reg,y.loc,y.n,(q:Int)+(zAC g n q:Int)⟩]:=by simp[hfn,e]
     have F:=fun T' B=>fin T' (R++([fnc]++[y])) B hR2
     simp only[hrows] at F
     refine F _ _ ?_ ?_ ?_ ?_ ?_ ?_ ?_ ?_
     iterate 6 simp +decide only[go_sem,nB,reduceIte,h1,h2,h5,h4,h6,h7]
     ·first | (simp +decide only[go_sem,nB,reduceIte];done) | (simp +decide only[go_sem,nB,reduceIte];simp)
     ·simp +decide only[go_sem,nB,reduceIte,h9]
    ·have h8' : ((8:Int)≤y.op)=False:=by simp[h8o]
     simp +decide only[go_sem,nT,nA,nS,nM,nB,reduceIte,reduceCtorEq,h1,h2,h5,h4,h6,h7,h8,h9,hlt',hj',hx,hy,hML,h8']
     repeat (with_reducible refine And.intro ?_ ?_;·(with_reducible and_intros) <;> omega)
     have e:zAM g n y=y:=by unfold zAM;rw[if_neg h8o]
     have hrows:(R++([fnc]++[y])).map (zAM g n)=R.map (zAM g n)++[fnc]++[y]:=by simp[hfn,e]
     have F:=fun T' B=>fin T' (R++([fnc]++[y])) B hR2
     simp only[hrows] at F
     refine F _ _ ?_ ?_ ?_ ?_ ?_ ?_ ?_ ?_
     iterate 6 simp +decide only[go_sem,nB,reduceIte,h1,h2,h5,h4,h6,h7]
     ·first | (simp +decide only[go_sem,nB,reduceIte];done) | (simp +decide only[go_sem,nB,reduceIte];simp)
     ·simp +decide only[go_sem,nB,reduceIte,h9]
   | false =>
    rw[hin,if_neg (by simp)] at hR2
    by_cases h8o:8≤y.op
    ·have h8' : ((8:Int)≤y.op)=True:=by simp[h8o]
     obtain ⟨t0,t1⟩:=hRy.to.1 h8o
     obtain ⟨q,hq⟩:∃q:Nat,y.to=q:=⟨y.to.toNat,by omega⟩
     have hcq:=zCW g n q
     have hwq:IntKind.i64.wrap ((q:Int)+(zAC g n q:Int))=(q:Int)+(zAC g n q:Int):=w64 (by omega) (by omega)
     simp +decide only[go_sem,nT,nA,nS,nM,nB,reduceIte,reduceCtorEq,h1,h2,h5,h4,h6,h7,h8,h9,hlt',hj',hx,hy,hML,h8']
     repeat (with_reducible refine And.intro ?_ ?_;·(with_reducible and_intros) <;> omega)
     refine HW.tree 1 (.light 0 (.light 1 (.light 2 (.light 3 (.light 4 (.light 5 (.heavy 6 [0,1] (.light 7 (.light 8 (.heavy 9 [] .leaf .stop))) .stop))))))) follows (by kernel_rfl) (by kernel_rfl) ?_
     simp +decide only[go_sem,nT,nA,nS,nM,nB,reduceIte,reduceCtorEq,h1,h2,h5,h4,h6,h7,h8,h9,hlt',hj',hx,hy,hML,h8',hq]
     refine zD (zOA g n q (by omega) (by omega) (by omega)) rfl rfl ?_
     simp +decide only[go_sem,nT,nA,nS,nM,nB,reduceIte,reduceCtorEq,h1,h2,h5,h4,h6,h7,h8,h9,hlt',hj',hx,hy,hML,h8',hq,hwq]
     repeat (with_reducible refine And.intro ?_ ?_;·(with_reducible and_intros) <;> omega)
     have e:zAM g n y=⟨y.op,y.reg,y.loc,y.n,(q:Int)+(zAC g n q:Int)⟩:=by
      unfold zAM;rw[if_pos h8o,hq,Int.toNat_natCast]
     have hrows:(R++([]++[y])).map (zAM g n)=R.map (zAM g n)++[⟨y.op,y.reg,y.loc,y.n,(q:Int)+(zAC g n q:Int)⟩]:=by simp[hfn,e]
     have F:=fun T' B=>fin T' (R++([]++[y])) B hR2
     simp only[hrows] at F
     refine F _ _ ?_ ?_ ?_ ?_ ?_ ?_ ?_ ?_
     iterate 6 simp +decide only[go_sem,nB,reduceIte,h1,h2,h5,h4,h6,h7]
     ·first | (simp +decide only[go_sem,nB,reduceIte];done) | (simp +decide only[go_sem,nB,reduceIte];simp)
     ·simp +decide only[go_sem,nB,reduceIte,h9]
    ·have h8' : ((8:Int)≤y.op)=False:=by simp[h8o]
     simp +decide only[go_sem,nT,nA,nS,nM,nB,reduceIte,reduceCtorEq,h1,h2,h5,h4,h6,h7,h8,h9,hlt',hj',hx,hy,hML,h8']
     repeat (with_reducible refine And.intro ?_ ?_;·(with_reducible and_intros) <;> omega)
     have e:zAM g n y=y:=by unfold zAM;rw[if_neg h8o]
     have hrows:(R++([]++[y])).map (zAM g n)=R.map (zAM g n)++[y]:=by simp[hfn,e]
     have F:=fun T' B=>fin T' (R++([]++[y])) B hR2
     simp only[hrows] at F
     refine F _ _ ?_ ?_ ?_ ?_ ?_ ?_ ?_ ?_
     iterate 6 simp +decide only[go_sem,nB,reduceIte,h1,h2,h5,h4,h6,h7]
     ·first | (simp +decide only[go_sem,nB,reduceIte];done) | (simp +decide only[go_sem,nB,reduceIte];simp)
     ·simp +decide only[go_sem,nB,reduceIte,h9]
  ·have hj' : ((j:Int)<(l.length:Int))=False:=by rw[zR];simp[hjl]
   obtain rfl:j=l.length:=by omega
   rw[List.take_length] at hlr h8⊢
   simp +decide only[go_sem,nT,nA,nS,nM,nB,reduceIte,reduceCtorEq,h1,h2,h5,h4,h6,h7,h8,h9,hlt',hj',hx,List.length_map]
   have hil:i=(insF g p.thr i).length:=(zBV g p.thr i).symm
   refine ⟨⟨hil,by omega,by omega⟩,?_⟩
   have hTl:(zC0 (insF g p.thr i)).length=i:=by rw[zJh,zBV]
   have hrl:∀X,(zC0 (insF g p.thr i)++[X])[i]?=some X:=fun X=>zI8 hTl
   have hsl:∀X Y,(zC0 (insF g p.thr i)++[X]).set i Y=zC0 (insF g p.thr i)++[Y]:=fun X Y=>zI1 hTl
   refine GQ.step (Ghost.absorb 4 i 0) ?_
   simp +decide only[go_sem,nT,nA,nS,nM,nB,reduceIte,reduceCtorEq,hrl,hsl,zB1,zB0,List.length_map]
   refine GQ.step (Ghost.trunc [1,2,5,4,6,7] 5 (by omega) ?_ ?_) (GQ.done ⟨p.thr.length-(i+1),by omega,i+1,rfl,by omega,?_,?_,?_,?_,?_,?_,?_⟩)
   ·simp +decide only[go_sem,nB,reduceIte,h1,h2,h5,h4,h6,h7]
   ·simp +decide only[go_sem,nB,reduceIte,hsl,zBg,List.set_cons_succ,List.set_cons_zero]
   iterate 4 simp +decide only[go_sem,nB,reduceIte,h1,h2,h5,h4]
   ·simp +decide only[go_sem,nB,reduceIte,hst];rw[w64 (by omega) (by omega)];rfl
   ·simp +decide only[go_sem,nB,reduceIte];rw[w64 (by omega) (by omega)];rfl
   ·rw[hF,←zOx]
    simp +decide only[go_sem,nT,nA,nS,nM,nB,reduceIte,reduceCtorEq,hsl]
    rfl
 ·have hlt' : ((i:Int)<(p.thr.length:Int))=False:=by rw[zR];simp[hlt]
  have e:i=p.thr.length:=by omega
  have e2:(i=(insF g p.thr i).length)=True:=by rw[zBV];simp
  simp +decide only[go_sem,nT,nA,nS,nM,nB,reduceIte,reduceCtorEq,h1,h2,h5,h4,h6,h7,hlt',e2]
  rw[e];rfl
end Go.Proofs.YtoknohandclcbaaGreat
namespace Go.Proofs.YtoknohandclcbaaGreat
open Go.RowKit
set_option maxRecDepth 8000
end Go.Proofs.YtoknohandclcbaaGreat
namespace Go.Proofs.YtoknohandclcbaaGreat
open Go.RowKit
set_option maxRecDepth 8000
theorem zIE (p:Prg):∀(l:List Pck) (s:Sta) (out x:List Int),zAo p s out l=some x→x.length≤out.length+l.length
 | [],s,out,x,h=>by simp only[zAo,Option.some.injEq] at h;subst h;simp
 | k::r,s,out,x,h=>by
  unfold zAo at h
  split at h
  ·have h1:=zIE p r _ _ x h
   have h2:=zWb out (numS p k.th (thAt s k.th).pc)
   simp only[List.length_cons]
   split at h1 <;> omega
  ·cases h
theorem zEp (p:Prg) (g:List Int):∀(l:List Pck) (s:Sta) (out x:List Pck),zAU p g s out l=some x→x.length≤out.length+2*l.length
 | [],s,out,x,h=>by simp only[zAU,Option.some.injEq] at h;subst h;simp
 | k::r,s,out,x,h=>by
  unfold zAU at h
  split at h
  ·split at h
   ·split at h
    ·cases h
    ·have:=zEp p g r _ _ x h
     simp only[List.length_append,List.length_cons,List.length_nil] at this⊢;omega
   ·have:=zEp p g r _ _ x h
    simp only[List.length_append,List.length_cons,List.length_nil] at this⊢;omega
  ·cases h
theorem zX0 {α:Type} {o:Option (List α)} {n:Nat} (h:∀x,o=some x→x.length≤n):(o.getD []).length≤n:=by
 cases o with
 | none=>simp
 | some x=>exact h x rfl
theorem zUj {p:Prg} {l:List Pck}:((zAo p (zI p) [] l).getD []).length≤l.length:=zX0 fun x h=>by have:=zIE p l _ _ x h;simpa using this
end Go.Proofs.YtoknohandclcbaaGreat
namespace Go.Proofs.YtoknohandclcbaaGreat
set_option maxRecDepth 8000
def goW (x:Stp) (mem:List Int) (t:Thd):Option (List Int×Thd) :=
 if t.buf≠[]∧(x.op=6∨x.op=5) then none
 else if x.op=2 then some (mem,{ (zG x mem t).2 with regs:=setI t.regs x.reg (zHI t.buf mem x.loc).1 })
 else if x.op=3 then some (mem,{ (zG x mem t).2 with buf:=t.buf++[(x.loc,getI t.regs x.reg)] })
 else if x.op=4 then some (mem,{ (zG x mem t).2 with buf:=t.buf++[(x.loc,x.n)] })
 else some (zG x mem t)
theorem zNr {p:Prg} {s:Sta} {k:Pck} (hk:k.dr=true) (h:0≤k.th∧k.th<s.ths.length):zQ p s k =
  if (zAI (thAt s k.th).buf s.mem).2.2=true then (zA6 s k.th (zAI (thAt s k.th).buf s.mem).2.1 { thAt s k.th with buf:=(zAI (thAt s k.th).buf s.mem).1 },true) else (s,false):=by
 unfold zQ
 rw[if_neg (not_not_intro h),if_pos hk]
theorem zIW {p:Prg} {s:Sta} {k:Pck} (hk:k.dr=false) (h:0≤k.th∧k.th<s.ths.length):zQ p s k =
  match atS p s k.th with
  | none=>(s,false)
  | some x=>match goW x s.mem (thAt s k.th) with
   | none=>(s,false)
   | some r=>(zA6 s k.th r.1 r.2,true):=by
 unfold zQ goW
 rw[if_neg (not_not_intro h),if_neg (by rw[hk];simp)]
 cases atS p s k.th with
 | none=>rfl
 | some x =>
  dsimp only
  repeat' split
  all_goals first | rfl | (rename_i e;cases e;rfl) | simp_all
theorem z3T {x:Stp} {mem:List Int} {t:Thd} {r:List Int×Thd} (h:goW x mem t=some r):r.2.pc=if zP x t.eq=true then x.to else t.pc+1:=by
 unfold goW at h
 repeat' split at h
 all_goals first | cases h | skip
 all_goals exact zFq
theorem zRa {x y:Stp} {mem:List Int} {t:Thd} {c:Int} (h1:y.op=x.op) (h2:y.reg=x.reg) (h3:y.loc=x.loc) (h4:y.n=x.n) :
  zG y mem { t with pc:=c }=((zG x mem t).1,{ (zG x mem t).2 with pc:=if zP y t.eq=true then y.to else c+1 }):=by
 unfold zG
 dsimp only
 rw[h1,h2,h3,h4]
 repeat' split
 all_goals rfl
theorem z3U {x y:Stp} {mem:List Int} {t:Thd} {c:Int} (h1:y.op=x.op) (h2:y.reg=x.reg) (h3:y.loc=x.loc) (h4:y.n=x.n) :
  goW y mem { t with pc:=c }=(goW x mem t).map fun r=>(r.1,{ r.2 with pc:=if zP y t.eq=true then y.to else c+1 }):=by
 unfold goW
 rw[zRa h1 h2 h3 h4,h1,h2,h3,h4]
 dsimp only
 repeat' split
 all_goals rfl
abbrev runW (p:Prg) (s:Sta) (l:List Pck):Sta×Nat×Bool:=runF (fun s k=>zAS p s k true) s l
theorem zWD {p:Prg} {s:Sta}:runW p s []=(s,0,true):=rfl
theorem zKF {p:Prg} {s:Sta} {k:Pck} {l:List Pck}:runW p s (k::l)=if (zQ p s k).2=true then ((runW p (zQ p s k).1 l).1,(runW p (zQ p s k).1 l).2.1+1,(runW p (zQ p s k).1 l).2.2) else (s,0,false):=by
 simp only[runW,runF,zAS,if_true]
theorem zEn {p:Prg} {s:Sta} {k:Pck} {l:List Pck}:(runW p s (k::l)).2.2=((zQ p s k).2 && (runW p (zQ p s k).1 l).2.2):=by
 rw[zKF]
 cases (zQ p s k).2 <;> simp
theorem zI7 {p:Prg} {s:Sta} {k:Pck} {l:List Pck} (h:(zQ p s k).2=true):(runW p s (k::l)).1=(runW p (zQ p s k).1 l).1:=by
 rw[zKF,if_pos h]
def zDq (p:Prg):Sta→List Pck→List Int
 | _,[]=>[]
 | s,k::r=>(if k.dr=false∧(thAt s k.th).buf≠[] then [numS p k.th (thAt s k.th).pc] else [])++zDq p (zQ p s k).1 r
theorem zLS (p:Prg):∀(l:List Pck) (s:Sta) (out:List Int),zAo p s out l=if (runW p s l).2.2=true then some ((zDq p s l).foldl putB out) else none
 | [],s,out=>rfl
 | k::r,s,out=>by
  unfold zAo
  rw[zEn]
  cases h:(zQ p s k).2 with
  | false=>simp
  | true =>
   rw[if_pos rfl,zLS p r,Bool.true_and,zDq]
   congr 2
   split <;> simp
theorem zWa {l:List Int} {n m:Int}:m∈putB l n↔m=n∨m∈l:=by rw[zOD,zIv]
theorem zD5 {m:Int}:∀(l out:List Int),m∈l.foldl putB out↔m∈l∨m∈out
 | [],out=>by simp
 | n::l,out=>by
  rw[List.foldl_cons,zD5 l,zWa,List.mem_cons]
  constructor
  ·rintro (h | h | h)
   ·exact .inl (.inr h)
   ·exact .inl (.inl h)
   ·exact .inr h
  ·rintro ((h | h) | h)
   ·exact .inr (.inl h)
   ·exact .inl h
   ·exact .inr (.inr h)
def lowL (p q:Prg) (g:List Int):Sta→List Pck→List Pck
 | _,[]=>[]
 | s,k::r=>(if k.dr=true∨zKr p g k.th.toNat (thAt s k.th).pc=false then [k] else [])++lowL p q g (zQ q s k).1 r
def raiL (p:Prg) (g:List Int):Sta→List Pck→List Pck
 | _,[]=>[]
 | s,k::r=>(if k.dr=false∧hasB g (numS p k.th (thAt s k.th).pc)=true then [⟨k.th,false⟩,k] else [k])++raiL p g (zQ p s k).1 r
def zJD (p:Prg) (g:List Int) (s:Sta) (l:List Pck):Bool:=(zDq p s l).all fun n=>!hasB g n
theorem zHw {p:Prg} {g:List Int} {s:Sta} {k:Pck} {l:List Pck}:zJD p g s (k::l)=(!(decide (k.dr=false∧(thAt s k.th).buf≠[]) && hasB g (numS p k.th (thAt s k.th).pc)) && zJD p g (zQ p s k).1 l):=by
 simp only[zJD,zDq]
 rw[List.all_append]
 split
 ·rename_i h;simp[h]
 ·rename_i h
  have:decide (k.dr=false∧(thAt s k.th).buf≠[])=false:=by simpa using h
  rw[this];simp
theorem zGP (p:Prg) (g:List Int):∀(l:List Pck) (s:Sta) (out:List Pck),zAU p g s out l=if ((runW p s l).2.2 && zJD p g s l)=true then some (out++raiL p g s l) else none
 | [],s,out=>by simp[zAU,raiL,zWD,zJD,zDq]
 | k::r,s,out=>by
  unfold zAU
  rw[zEn,zHw]
  cases h:(zQ p s k).2 with
  | false=>simp
  | true =>
   rw[if_pos rfl,raiL]
   by_cases c:k.dr=false∧hasB g (numS p k.th (thAt s k.th).pc)=true
   ·rw[if_pos c,if_pos c]
    by_cases c2:(thAt s k.th).buf≠[]
    ·rw[if_pos c2]
     simp[c.1,c.2,c2]
    ·rw[if_neg c2,zGP p g r]
     have:decide (k.dr=false∧(thAt s k.th).buf≠[])=false:=by simp only[decide_eq_false_iff_not,not_and];exact fun _=>c2
     rw[this]
     simp
   ·rw[if_neg c,if_neg c,zGP p g r]
    have:(decide (k.dr=false∧(thAt s k.th).buf≠[]) && hasB g (numS p k.th (thAt s k.th).pc))=false:=by
     rw[Bool.and_eq_false_iff]
     by_cases d:k.dr=false
     ·right
      cases hh:hasB g (numS p k.th (thAt s k.th).pc) with
      | false=>rfl
      | true=>exact absurd ⟨d,hh⟩ c
     ·left;simp[d]
    rw[this]
    simp
theorem zPp {p:Prg} {g:List Int} {s:Sta} {l:List Pck}:zBE ((zDq p s l).foldl putB []) g = !zJD p g s l:=by
 unfold zBE zJD
 rw[Bool.eq_iff_iff]
 simp only[List.any_eq_true,Bool.not_eq_true',List.all_eq_false,zD5]
 constructor
 ·rintro ⟨n,h1,h2⟩
  exact ⟨n,by simpa using h1,by simp[h2]⟩
 ·rintro ⟨n,h1,h2⟩
  exact ⟨n,.inl h1,by simpa using h2⟩
end Go.Proofs.YtoknohandclcbaaGreat
namespace Go.Proofs.YtoknohandclcbaaGreat
set_option maxRecDepth 8000
theorem zYw {p:Prg} {s:Sta} {th:Int} {x:Stp} (hp:RightP p) (hs:RightS p s) (h:atS p s th=some x):numS p th (thAt s th).pc=((zK p.thr th.toNat+(thAt s th).pc.toNat:Nat):Int):=by
 obtain ⟨l,c1,c2,hl,ht,hT,hx,hX,hlt⟩:=zE9 hp hs h
 have hlen:=hs.ths
 have:=hT.pc
 unfold numS
 rw[if_pos ⟨c1,by omega,this.1,by rw[hl];exact hlt⟩]
 omega
theorem zJq {p:Prg} {s:Sta} {k:Pck} (h:(zQ p s k).2=true):0≤k.th∧k.th<s.ths.length:=by
 unfold zQ at h
 split at h
 ·cases h
 ·rename_i c;exact Decidable.not_not.1 c
theorem zVu {p:Prg} {s:Sta} {k:Pck} (h:(zQ p s k).2=true) (hk:k.dr=false):∃x r,atS p s k.th=some x∧goW x s.mem (thAt s k.th)=some r∧zQ p s k=(zA6 s k.th r.1 r.2,true):=by
 have hin:=zJq h
 rw[zIW hk hin] at h⊢
 cases hx:atS p s k.th with
 | none=>rw[hx] at h;cases h
 | some x =>
  rw[hx] at h
  dsimp only at h⊢
  cases hr:goW x s.mem (thAt s k.th) with
  | none=>rw[hr] at h;cases h
  | some r=>exact ⟨x,r,rfl,hr,rfl⟩
def Empty (s:Sta):Prop:=∀t∈s.ths,t.buf=[]
theorem Empty.at {s:Sta} (h:Empty s) (th:Int):(thAt s th).buf=[]:=by
 unfold thAt
 cases hx:s.ths[th.toNat]? with
 | none=>rfl
 | some t=>exact h t (List.mem_of_getElem? hx)
theorem Empty.set {s:Sta} {th:Int} {mem:List Int} {t:Thd} (h:Empty s) (ht:t.buf=[]):Empty (zA6 s th mem t):=by
 intro t' ht'
 rcases List.mem_or_eq_of_mem_set ht' with h1 | rfl
 ·exact h t' h1
 ·exact ht
end Go.Proofs.YtoknohandclcbaaGreat
namespace Go.Proofs.YtoknohandclcbaaGreat
set_option maxRecDepth 8000
def fpos (g:List Int) (a i:Nat):Nat:=i+zAC g a i
def spos (g:List Int) (a i:Nat):Nat:=i+zAC g a (i+1)
theorem zGr (g:List Int) (a i:Nat):zAC g a (i+1)=zAC g a i+(if hasB g ((a+i:Nat):Int)=true then 1 else 0):=by
 rw[zAC,show (a:Int)+(i:Int)=((a+i:Nat):Int) by omega]
theorem zIY {g:List Int} {a i:Nat} (h:hasB g ((a+i:Nat):Int)=true):spos g a i=fpos g a i+1:=by
 unfold spos fpos;rw[zGr,if_pos h];omega
theorem zRj {g:List Int} {a i:Nat} (h:hasB g ((a+i:Nat):Int)=false):spos g a i=fpos g a i:=by
 unfold spos fpos;rw[zGr,if_neg (by rw[h];simp)];omega
theorem zTf (g:List Int) (a i:Nat):fpos g a (i+1)=spos g a i+1:=by unfold spos fpos;omega
theorem zMp {g:List Int} {a i j:Nat} (h:i<j):spos g a i<fpos g a j:=by
 unfold spos fpos
 have:=zCd g a (show i+1≤j by omega);omega
theorem zTg {g:List Int} {a i:Nat}:fpos g a i≤spos g a i:=by
 unfold spos fpos
 have:=zCd g a (show i≤i+1 by omega);omega
theorem zKl {g:List Int} {a i j:Nat} (h:i<j):fpos g a i<fpos g a j:=Nat.lt_of_le_of_lt zTg (zMp h)
section
variable {p:Prg} {g:List Int}
theorem zFh {t:Nat} {l:List Stp} (hl:p.thr[t]?=some l):(insP p g).thr[t]?=some (insT g (zK p.thr t) l):=by
 have ht:=(List.getElem?_eq_some_iff.1 hl).1
 show (insF g p.thr p.thr.length)[t]?=_
 rw[zIy g p.thr _ t ht,hl,Option.getD_some]
theorem zXG:(insP p g).thr.length=p.thr.length:=zBV g p.thr _
theorem zHs {a i:Nat} {l:List Stp} {x:Stp} (hx:l[i]?=some x):insR g a l=insR g a (l.take i)++((if hasB g ((a+i:Nat):Int)=true then [fnc] else [])++x::insR g (a+i+1) (l.drop (i+1))):=by
 have hi:=(List.getElem?_eq_some_iff.1 hx)
 obtain ⟨h1,h2⟩:=hi
 have e:l=l.take i++x::l.drop (i+1):=by
  rw[←h2,←List.drop_eq_getElem_cons h1,List.take_append_drop]
 conv=>lhs;rw[e]
 rw[zDg,List.length_take,Nat.min_eq_left (by omega)]
 rfl
theorem zTQ {a i:Nat} {l:List Stp} {x:Stp} (hx:l[i]?=some x):(insT g a l)[spos g a i]?=some (zAM g a x):=by
 have hi:=(List.getElem?_eq_some_iff.1 hx).1
 have hlen:=zFg g a l i (by omega)
 unfold insT
 rw[List.getElem?_map,zHs hx]
 by_cases h:hasB g ((a+i:Nat):Int)=true
 ·rw[if_pos h,zIY h,List.getElem?_append_right (by rw[hlen];unfold fpos;omega),hlen]
  have:fpos g a i+1-(i+zAC g a i)=1:=by unfold fpos;omega
  rw[this];rfl
 ·rw[if_neg h,zRj (by simpa using h),List.getElem?_append_right (by rw[hlen];unfold fpos;omega),hlen]
  have:fpos g a i-(i+zAC g a i)=0:=by unfold fpos;omega
  rw[this];rfl
theorem zQB {a i:Nat} {l:List Stp} (hi:i<l.length) (h:hasB g ((a+i:Nat):Int)=true):(insT g a l)[fpos g a i]?=some fnc:=by
 have hx:l[i]?=some l[i]:=List.getElem?_eq_getElem hi
 have hlen:=zFg g a l i (by omega)
 unfold insT
 rw[List.getElem?_map,zHs hx,if_pos h,List.getElem?_append_right (by rw[hlen];unfold fpos;omega),hlen]
 have:fpos g a i-(i+zAC g a i)=0:=by unfold fpos;omega
 rw[this]
 show some (zAM g a fnc)=some fnc
 unfold zAM fnc
 rw[if_neg (by decide)]
theorem zXF {a:Nat} {l:List Stp}:(insT g a l).length=fpos g a l.length:=zIu g a l
theorem zTm {t i:Nat} {l:List Stp} (hl:p.thr[t]?=some l) (hi:i<l.length) (h:hasB g ((zK p.thr t+i:Nat):Int)=true):zKr p g t ((fpos g (zK p.thr t) i:Nat):Int)=true:=by
 unfold zKr
 rw[hl,Option.getD_some,List.any_eq_true]
 refine ⟨i,by simpa using hi,?_⟩
 unfold zTn
 rw[show ((zK p.thr t:Nat):Int)+(i:Int)=((zK p.thr t+i:Nat):Int) by omega,h,Bool.true_and,decide_eq_true_eq]
 unfold fpos;omega
theorem zX6 {t i:Nat} {l:List Stp} (hl:p.thr[t]?=some l):zKr p g t ((spos g (zK p.thr t) i:Nat):Int)=false:=by
 unfold zKr
 rw[List.any_eq_false]
 intro j hj hf
 unfold zTn at hf
 rw[show ((zK p.thr t:Nat):Int)+(j:Int)=((zK p.thr t+j:Nat):Int) by omega,Bool.and_eq_true,decide_eq_true_eq] at hf
 obtain ⟨h1,h2⟩:=hf
 have e:spos g (zK p.thr t) i=fpos g (zK p.thr t) j:=by
  show _=j+zAC g (zK p.thr t) j
  omega
 rcases Nat.lt_trichotomy i j with c | c | c
 ·have:=zMp (g:=g) (a:=zK p.thr t) c;omega
 ·subst c;rw[zIY h1] at e;omega
 ·have:=zKl (g:=g) (a:=zK p.thr t) c
  have:=zTg (g:=g) (a:=zK p.thr t) (i:=i);omega
def Pos (b:Bool) (g:List Int) (a n:Nat) (t:Thd) (c:Int):Prop :=
 c=((fpos g a t.pc.toNat:Nat):Int)∨(b=true∧t.pc.toNat<n∧hasB g ((a+t.pc.toNat:Nat):Int)=true∧t.buf=[]∧c=((spos g a t.pc.toNat:Nat):Int))
structure Sim (b:Bool) (p:Prg) (g:List Int) (s z:Sta):Prop where
 mem:z.mem=s.mem
 len:z.ths.length=s.ths.length
 th:∀i t l,s.ths[i]?=some t→p.thr[i]?=some l→∃c:Int,z.ths[i]?=some { t with pc:=c }∧Pos b g (zK p.thr i) l.length t c
theorem zRq:Sim false p g (zI p) (zI (insP p g)):=by
 refine ⟨rfl,by simp[zI,zXG],fun i t l ht hl=>?_⟩
 have h2:=zFh (g:=g) hl
 simp only[zI,List.getElem?_map,hl,Option.map_some,Option.some.injEq] at ht
 subst ht
 refine ⟨0,?_,.inl rfl⟩
 simp[zI,h2]
theorem Sim.set {b:Bool} {s z:Sta} {th c:Int} {m:List Int} {t:Thd} (h:Sim b p g s z) (ht:∀l,p.thr[th.toNat]?=some l→Pos b g (zK p.thr th.toNat) l.length t c) :
  Sim b p g (zA6 s th m t) (zA6 z th m { t with pc:=c }):=by
 refine ⟨rfl,by simp[zA6,h.len],fun i u l hu hl=>?_⟩
 simp only[zA6] at hu⊢
 by_cases e:th.toNat=i
 ·subst e
  rw[List.getElem?_set] at hu⊢
  rw[if_pos rfl] at hu⊢
  split at hu
  ·rename_i hlt
   cases hu
   rw[if_pos (by rw[h.len];exact hlt)]
   exact ⟨c,rfl,ht l hl⟩
  ·cases hu
 ·rw[List.getElem?_set_ne e] at hu⊢
  exact h.th i u l hu hl
theorem zZO {s z:Sta} {k:Pck} {l:List Stp} {x:Stp} {t:Thd} (hp:RightP p) (hk:k.dr=false) (h0:0≤k.th) (hl:p.thr[k.th.toNat]?=some l) (hx:l[t.pc.toNat]?=some x)
  (hz:z.ths[k.th.toNat]?=some { t with pc:=((spos g (zK p.thr k.th.toNat) t.pc.toNat:Nat):Int) }) (h1:0≤t.pc) :
  zQ (insP p g) z k=match goW x z.mem t with
   | none=>(z,false)
   | some r=>(zA6 z k.th r.1 { r.2 with pc:=((fpos g (zK p.thr k.th.toNat) r.2.pc.toNat:Nat):Int) },true):=by
 have hlt:=(List.getElem?_eq_some_iff.1 hz).1
 have hT:thAt z k.th = { t with pc:=((spos g (zK p.thr k.th.toNat) t.pc.toNat:Nat):Int) }:=by unfold thAt;rw[hz];rfl
 have hA:atS (insP p g) z k.th=some (zAM g (zK p.thr k.th.toNat) x):=by
  unfold atS
  rw[if_pos ⟨h0,by omega⟩,zFh hl,hT,Option.getD_some]
  simpa using zTQ hx
 rw[zIW hk ⟨h0,by omega⟩,hA,hT]
 dsimp only
 have e:∀y:Stp,y=zAM g (zK p.thr k.th.toNat) x→y.op=x.op∧y.reg=x.reg∧y.loc=x.loc∧y.n=x.n:=by
  rintro y rfl
  unfold zAM
  split <;> exact ⟨rfl,rfl,rfl,rfl⟩
 obtain ⟨e1,e2,e3,e4⟩:=e _ rfl
 rw[z3U e1 e2 e3 e4]
 cases hr:goW x z.mem t with
 | none=>rfl
 | some r =>
  dsimp only[Option.map_some]
  have hpc:=z3T hr
  have hX:=hp.x _ l hl _ x hx
  have ej:zP (zAM g (zK p.thr k.th.toNat) x) t.eq=zP x t.eq:=by unfold zP;rw[e1]
  have:(if zP (zAM g (zK p.thr k.th.toNat) x) t.eq=true then (zAM g (zK p.thr k.th.toNat) x).to else ((spos g (zK p.thr k.th.toNat) t.pc.toNat:Nat):Int)+1)=((fpos g (zK p.thr k.th.toNat) r.2.pc.toNat:Nat):Int):=by
   rw[ej,hpc]
   by_cases hj:zP x t.eq=true
   ·rw[if_pos hj,if_pos hj]
    have h8:8≤x.op:=by
     simp only[zP,Bool.or_eq_true,Bool.and_eq_true,decide_eq_true_eq] at hj
     omega
    have:=hX.to.1 h8
    unfold zAM fpos
    rw[if_pos h8]
    dsimp only
    omega
   ·rw[if_neg hj,if_neg hj]
    have:(t.pc+1).toNat=t.pc.toNat+1:=by omega
    rw[this,zTf];omega
  rw[this]
theorem zPG {z:Sta} {k:Pck} {l:List Stp} {t:Thd} (hk:k.dr=false) (h0:0≤k.th) (hl:p.thr[k.th.toNat]?=some l) (hi:t.pc.toNat<l.length) (hh:hasB g ((zK p.thr k.th.toNat+t.pc.toNat:Nat):Int)=true)
  (hz:z.ths[k.th.toNat]?=some { t with pc:=((fpos g (zK p.thr k.th.toNat) t.pc.toNat:Nat):Int) }) :
  zQ (insP p g) z k=if t.buf≠[] then (z,false) else (zA6 z k.th z.mem { t with pc:=((spos g (zK p.thr k.th.toNat) t.pc.toNat:Nat):Int) },true):=by
 have hlt:=(List.getElem?_eq_some_iff.1 hz).1
 have hT:thAt z k.th = { t with pc:=((fpos g (zK p.thr k.th.toNat) t.pc.toNat:Nat):Int) }:=by unfold thAt;rw[hz];rfl
 have hA:atS (insP p g) z k.th=some fnc:=by
  unfold atS
  rw[if_pos ⟨h0,by omega⟩,zFh hl,hT,Option.getD_some]
  simpa using zQB hi hh
 rw[zIW hk ⟨h0,by omega⟩,hA,hT]
 dsimp only
 have e5:((spos g (zK p.thr k.th.toNat) t.pc.toNat:Nat):Int)=((fpos g (zK p.thr k.th.toNat) t.pc.toNat:Nat):Int)+1:=by rw[zIY hh];omega
 rw[e5]
 unfold goW
 by_cases hb:t.buf=[]
 ·simp[fnc,zG,zP,hb]
 ·rw[if_pos ⟨hb,.inl rfl⟩,if_pos hb]
theorem zPH {b:Bool} {s z:Sta} {k:Pck} (hs:RightS p s) (h:Sim b p g s z) (hk:k.dr=true):(zQ (insP p g) z k).2=(zQ p s k).2∧((zQ p s k).2=true→Sim b p g (zQ p s k).1 (zQ (insP p g) z k).1):=by
 by_cases hin:0≤k.th∧k.th<s.ths.length
 ·have hin' : 0≤k.th∧k.th<z.ths.length:=by rw[h.len];exact hin
  have ht:=zDz hin
  have hlen:=hs.ths
  have hl:p.thr[k.th.toNat]?=some (p.thr[k.th.toNat]'(by omega)):=List.getElem?_eq_getElem (by omega)
  obtain ⟨c,hz,hP⟩:=h.th _ _ _ ht hl
  have hT:thAt z k.th = { thAt s k.th with pc:=c }:=by unfold thAt at hz⊢;rw[hz];rfl
  rw[zNr hk hin,zNr hk hin',hT,h.mem]
  dsimp only
  by_cases hd:(zAI (thAt s k.th).buf s.mem).2.2=true
  ·rw[if_pos hd,if_pos hd]
   refine ⟨rfl,fun _=>?_⟩
   refine Sim.set (t:={ thAt s k.th with buf:=(zAI (thAt s k.th).buf s.mem).1 }) h fun l hl'=>?_
   rw[hl] at hl';cases hl'
   rcases hP with hP | ⟨h1,h2,h3,h4,h5⟩
   ·exact .inl hP
   ·rw[h4] at hd;simp[zAI] at hd
  ·rw[if_neg hd,if_neg hd]
   exact ⟨rfl,fun h=>by cases h⟩
 ·have hin' : ¬(0≤k.th∧k.th<z.ths.length):=by rw[h.len];exact hin
  unfold zQ
  rw[if_pos hin,if_pos hin']
  exact ⟨rfl,fun h=>by cases h⟩
theorem zGO (hp:RightP p):∀(l:List Pck) (s z:Sta),RightS p s→Sim false p g s z→(runW p s l).2.2=true→zJD p g s l=true→
  (runW (insP p g) z (raiL p g s l)).2.2=true∧Sim false p g (runW p s l).1 (runW (insP p g) z (raiL p g s l)).1∧lowL p (insP p g) g z (raiL p g s l)=l∧RightS p (runW p s l).1
 | [],s,z,hs,h,_,_=>⟨rfl,h,rfl,hs⟩
 | k::r,s,z,hs,h,hr,hf=>by
  rw[zEn,Bool.and_eq_true] at hr
  rw[zHw,Bool.and_eq_true] at hf
  have hin:=zJq hr.1
  have hin' : 0≤k.th∧k.th<z.ths.length:=by rw[h.len];exact hin
  rw[zI7 hr.1,raiL]
  cases hk:k.dr with
  | true =>
   obtain ⟨h1,h2⟩:=zPH (k:=k) hs h hk
   have h3:(zQ (insP p g) z k).2=true:=by rw[h1];exact hr.1
   obtain ⟨i1,i2,i3,i4⟩:=zGO hp r _ _ (zC1 hp hs) (h2 hr.1) hr.2 hf.2
   rw[if_neg (fun h=>by cases h.1),List.singleton_append,zEn,zI7 h3,h3,i1,lowL,if_pos (.inl hk),i3]
   exact ⟨rfl,i2,rfl,i4⟩
  | false =>
   have ht:=zDz hin
   have hlen:=hs.ths
   obtain ⟨x,q,hA,hg,hW⟩:=zVu hr.1 hk
   obtain ⟨L,c1,c2,hl,_,hT,hx,hX,hlt⟩:=zE9 hp hs hA
   obtain ⟨c,hz,hP⟩:=h.th _ _ _ ht hl
   have hc:c=((fpos g (zK p.thr k.th.toNat) (thAt s k.th).pc.toNat:Nat):Int):=by
    rcases hP with hP | ⟨h1,_⟩
    ·exact hP
    ·cases h1
   subst hc
   have hi:=(List.getElem?_eq_some_iff.1 hx).1
   have hzT:thAt z k.th = { thAt s k.th with pc:=((fpos g (zK p.thr k.th.toNat) (thAt s k.th).pc.toNat:Nat):Int) }:=by unfold thAt at hz⊢;rw[hz];rfl
   rw[hk,zYw hp hs hA] at hf
   rw[zYw hp hs hA]
   have key:∀z' : Sta,z'.ths[k.th.toNat]?=some { thAt s k.th with pc:=((spos g (zK p.thr k.th.toNat) (thAt s k.th).pc.toNat:Nat):Int) }→z'.mem=s.mem→(∀m u,zA6 z' k.th m u=zA6 z k.th m u)→
     (runW (insP p g) z' (k::raiL p g (zQ p s k).1 r)).2.2=true∧Sim false p g (runW p (zQ p s k).1 r).1 (runW (insP p g) z' (k::raiL p g (zQ p s k).1 r)).1∧lowL p (insP p g) g z' (k::raiL p g (zQ p s k).1 r)=k::r∧RightS p (runW p (zQ p s k).1 r).1:=by
    intro z' hz' hm hset
    have hq:=zZO (g:=g) (s:=s) hp hk c1 hl hx hz' hT.pc.1
    rw[hm,hg] at hq
    dsimp only at hq
    have hzT' : thAt z' k.th = { thAt s k.th with pc:=((spos g (zK p.thr k.th.toNat) (thAt s k.th).pc.toNat:Nat):Int) }:=by unfold thAt at hz'⊢;rw[hz'];rfl
    have h3:(zQ (insP p g) z' k).2=true:=by rw[hq]
    have hS:Sim false p g (zQ p s k).1 (zQ (insP p g) z' k).1:=by
     rw[hq,hW,hset]
     exact h.set fun l' hl'=>.inl rfl
    obtain ⟨i1,i2,i3,i4⟩:=zGO hp r _ _ (zC1 hp hs) hS hr.2 hf.2
    have hno:=zX6 (g:=g) (i:=(thAt s k.th).pc.toNat) hl
    rw[zEn,zI7 h3,h3,i1,lowL,hzT',if_pos (.inr hno),i3]
    exact ⟨rfl,i2,rfl,i4⟩
   cases hh:hasB g ((zK p.thr k.th.toNat+(thAt s k.th).pc.toNat:Nat):Int) with
   | false =>
    rw[if_neg (fun h=>by cases h.2),List.singleton_append]
    exact key z (by rw[zRj hh];exact hz) h.mem (fun _ _=>rfl)
   | true =>
    rw[if_pos ⟨rfl,rfl⟩]
    have hb:(thAt s k.th).buf=[]:=by
     have:=hf.1
     rw[hh] at this
     by_cases e:(thAt s k.th).buf=[]
     ·exact e
     ·simp[e] at this
    have hF:=zPG (g:=g) (k:=⟨k.th,false⟩) rfl c1 hl hi hh hz
    rw[if_neg (not_not_intro hb)] at hF
    have h3:(zQ (insP p g) z ⟨k.th,false⟩).2=true:=by rw[hF]
    have hy:=zTm (g:=g) hl hi hh
    obtain ⟨i1,i2,i3,i4⟩:=key (zA6 z k.th z.mem { thAt s k.th with pc:=((spos g (zK p.thr k.th.toNat) (thAt s k.th).pc.toNat:Nat):Int) })
     (by simp only[zA6];rw[List.getElem?_set_self (by omega)]) h.mem (fun m u=>by simp only[zA6,List.set_set])
    show (runW (insP p g) z (⟨k.th,false⟩::k::raiL p g (zQ p s k).1 r)).2.2=true∧Sim false p g _ (runW (insP p g) z (⟨k.th,false⟩::k::raiL p g (zQ p s k).1 r)).1∧lowL p (insP p g) g z (⟨k.th,false⟩::k::raiL p g (zQ p s k).1 r)=k::r∧_
    rw[zEn,zI7 h3,lowL,if_neg,h3,hF]
    ·exact ⟨by rw[i1];rfl,i2,i3,i4⟩
    ·rw[hzT]
     dsimp only
     rw[hy];simp
theorem Sim.regs {b:Bool} {s z:Sta} (hs:RightS p s) (h:Sim b p g s z):zF6 z=zF6 s:=by
 have e:z.ths.map (·.regs)=s.ths.map (·.regs):=by
  apply List.ext_getElem?
  intro i
  rw[List.getElem?_map,List.getElem?_map]
  by_cases hi:i<s.ths.length
  ·have hlen:=hs.ths
   have ht:s.ths[i]?=some s.ths[i]:=List.getElem?_eq_getElem hi
   have hl:p.thr[i]?=some (p.thr[i]'(by omega)):=List.getElem?_eq_getElem (by omega)
   obtain ⟨c,hz,_⟩:=h.th i _ _ ht hl
   rw[hz,ht];rfl
  ·rw[List.getElem?_eq_none (by rw[h.len];omega),List.getElem?_eq_none (by omega)]
 unfold zF6
 rw[List.flatMap_def,List.flatMap_def,e]
theorem Sim.overT {b:Bool} {s z:Sta} (hs:RightS p s) (h:Sim b p g s z) {i:Nat} (hi:i<s.ths.length):(overT (insP p g) z i=true→overT p s i=true)∧(b=false→overT p s i=true→overT (insP p g) z i=true):=by
 have hlen:=hs.ths
 have ht:s.ths[i]?=some s.ths[i]:=List.getElem?_eq_getElem hi
 have hl:p.thr[i]?=some (p.thr[i]'(by omega)):=List.getElem?_eq_getElem (by omega)
 obtain ⟨c,hz,hP⟩:=h.th i _ _ ht hl
 have hT:=hs.t i _ _ hl ht
 have hq:=zFh (g:=g) hl
 unfold Go.Proofs.YtoknohandclcbaaGreat.overT
 rw[hz,ht,hl,hq]
 dsimp only
 rw[zXF]
 have hpc:=hT.pc
 simp only[Bool.and_eq_true,decide_eq_true_eq]
 refine ⟨fun ⟨h1,h2⟩=>⟨?_,h2⟩,fun hb ⟨h1,h2⟩=>⟨?_,h2⟩⟩
 ·rcases hP with hP | ⟨_,h2,_,_,h5⟩
  ·rw[hP] at h1
   rcases Nat.lt_or_ge (s.ths[i]).pc.toNat (p.thr[i]'(by omega)).length with e | e
   ·have:=zKl (g:=g) (a:=zK p.thr i) e;omega
   ·omega
  ·rw[h5] at h1
   have:=zMp (g:=g) (a:=zK p.thr i) h2
   omega
 ·rcases hP with hP | ⟨h3,_⟩
  ·rw[hP]
   have:(s.ths[i]).pc.toNat=(p.thr[i]'(by omega)).length:=by omega
   rw[this]
  ·rw[hb] at h3;cases h3
theorem Sim.over {b:Bool} {s z:Sta} (hs:RightS p s) (h:Sim b p g s z):(zBM (insP p g) z=true→zBM p s=true)∧(b=false→zBM p s=zBM (insP p g) z):=by
 have e1:zBM (insP p g) z=true→zBM p s=true:=by
  unfold zBM
  rw[h.len,List.all_eq_true,List.all_eq_true]
  intro h1 i hi
  exact (h.overT hs (by simpa using hi)).1 (h1 i hi)
 refine ⟨e1,fun hb=>?_⟩
 rw[Bool.eq_iff_iff]
 refine ⟨?_,e1⟩
 unfold zBM
 rw[h.len,List.all_eq_true,List.all_eq_true]
 intro h1 i hi
 exact (h.overT hs (by simpa using hi)).2 hb (h1 i hi)
end
end Go.Proofs.YtoknohandclcbaaGreat
namespace Go.Proofs.YtoknohandclcbaaGreat
open Go.RowKit
set_option maxRecDepth 8000
end Go.Proofs.YtoknohandclcbaaGreat
namespace Go.Proofs.YtoknohandclcbaaGreat
set_option maxRecDepth 8000
def zF9 (p:Prg) (l:List Pck):Option Ot:=if ((runW p (zI p) l).2.2 && zBM p (runW p (zI p) l).1)=true then some ⟨(runW p (zI p) l).1.mem,zF6 (runW p (zI p) l).1⟩ else none
def zAR (l:List Prf):List (List Int):=l.map (·.slots)
def zGq (p:Prg) (l:List Pck):List Int:=(zAo p (zI p) [] l).getD []
def zBy (p:Prg) (a:Ans) (x:Prf):Bool:=match zF9 p x.picks with
 | none=>false
 | some o=>decide (o=x.out) && (decide (zGq p x.picks=x.slots) && (!hasO a.ends o && hasO a.loose o))
def zHK (a:Ans):Bool:=setO a.ends && (setO a.loose && (zHm a.ends a.loose).isEmpty)
def zG2 (a:Ans):Bool:=(zCQ (zAR a.proofs)).2 && decide ((zCQ (zAR a.proofs)).1=a.fences)
def zPo (a:Ans):Bool:=decide (decide (a.fences=[])=decide (a.ends=a.loose))
def zCl (p:Prg) (a:Ans):Bool:=zHK a && (a.proofs.all (zBy p a) && (zG2 a && zPo a))
def zH3 (a:Ans) (g:List Int):Option Prf:=a.proofs.find? fun x=>!zBE x.slots g
theorem zII {p:Prg} {a:Ans}:zCl p a=true↔zHK a=true∧(∀x∈a.proofs,zBy p a x=true)∧zG2 a=true∧zPo a=true:=by
 unfold zCl
 rw[Bool.and_eq_true,Bool.and_eq_true,Bool.and_eq_true,List.all_eq_true]
theorem zPe {p:Prg} {a:Ans} {x:Prf}:zBy p a x=true↔zF9 p x.picks=some x.out∧zGq p x.picks=x.slots∧hasO a.ends x.out=false∧hasO a.loose x.out=true:=by
 unfold zBy
 cases h:zF9 p x.picks with
 | none=>simp
 | some o =>
  simp only[Bool.and_eq_true,decide_eq_true_iff,Bool.not_eq_true',Option.some.injEq]
  constructor
  ·rintro ⟨rfl,h2,h3,h4⟩;exact ⟨rfl,h2,h3,h4⟩
  ·rintro ⟨rfl,h2,h3,h4⟩;exact ⟨rfl,h2,h3,h4⟩
theorem zNS {p:Prg} {a:Ans} (h:zCl p a=true):zCQ (zAR a.proofs)=(a.fences,true):=by
 have:=(zII.1 h).2.2.1
 unfold zG2 at this
 rw[Bool.and_eq_true,decide_eq_true_iff] at this
 rw[←this.1,←this.2]
theorem zIC {p:Prg} {l:List Pck} {o:Ot} (h:zF9 p l=some o):(runW p (zI p) l).2.2=true∧zBM p (runW p (zI p) l).1=true∧o=⟨(runW p (zI p) l).1.mem,zF6 (runW p (zI p) l).1⟩:=by
 unfold zF9 at h
 split at h
 ·rename_i hh
  rw[Bool.and_eq_true] at hh
  exact ⟨hh.1,hh.2,(Option.some.inj h).symm⟩
 ·cases h
theorem zNT {p:Prg} {a:Ans} (h:zCl p a=true) {g:List Int} (hg:zCI g) (hb:zH3 a g=none):zL6 g a.fences=false:=by
 refine zK4 (zNS h) hg ?_
 unfold zBb zAR
 rw[List.all_eq_true]
 intro row hr
 obtain ⟨x,hx,rfl⟩:=List.mem_map.1 hr
 unfold zH3 at hb
 rw[List.find?_eq_none] at hb
 have:=hb x hx
 simpa using this
theorem zNU {p:Prg} {a:Ans} (h:zCl p a=true) (hp:RightP p) {g:List Int} {x:Prf} (hb:zH3 a g=some x) :
  ∃l,zAU p g (zI p) [] x.picks=some l∧zF9 (insP p g) l=some x.out∧hasO a.ends x.out=false∧hasO a.loose x.out=true∧l=raiL p g (zI p) x.picks:=by
 have hx:=List.mem_of_find?_eq_some hb
 have hm:zBE x.slots g=false:=by
  have:=List.find?_some hb
  simpa using this
 obtain ⟨h1,h2,h3,h4⟩:=zPe.1 ((zII.1 h).2.1 x hx)
 obtain ⟨e1,e2,e3⟩:=zIC h1
 have hf:zJD p g (zI p) x.picks=true:=by
  unfold zGq at h2
  rw[zLS,if_pos e1,Option.getD_some] at h2
  rw[←h2,zPp] at hm
  simpa using hm
 obtain ⟨j1,j2,j3,j4⟩:=zGO (g:=g) hp x.picks (zI p) (zI (insP p g)) zAy zRq e1 hf
 refine ⟨raiL p g (zI p) x.picks,by rw[zGP,e1,hf];rfl,?_,h3,h4,rfl⟩
 unfold zF9
 have o1:=(j2.over j4).2 rfl
 rw[j1,←o1,e2,e3]
 simp only[Bool.and_self,if_true]
 rw[j2.mem,j2.regs j4]
end Go.Proofs.YtoknohandclcbaaGreat
namespace Go.Proofs.YtoknohandclcbaaGreat
open Go.RowKit
set_option maxRecDepth 8000
structure SmallA (a:Ans):Prop where
 ends:a.ends.length≤1000
 endO:∀o∈a.ends,SmallO o
 loose:a.loose.length≤1000
 looseO:∀o∈a.loose,SmallO o
 proofs:a.proofs.length≤1000
 picks:∀x∈a.proofs,x.picks.length≤10000
 slots:∀x∈a.proofs,x.slots.length≤1000
 outs:∀x∈a.proofs,SmallO x.out
 fences:a.fences.length≤1000
 all:(zAR a.proofs).flatten.length≤10000
abbrev chkC (p:Prg) (a:Ans):HV:=.fp [[.sl (ints a.fences),.sl (pfs a.proofs),.sl (ots a.ends),.sl (ots a.loose),.v (.int .i64 a.states),.sl (ints p.init),.sl (thrs p.thr)]] 0 0
theorem zO6 (a b:Ot) (ha:SmallO a) (hb:SmallO b):HFn Tryz.prog 76 [otH a,otH b] (.v (.bool (decide (a=b)))):=by
 have h1:=zIk a b ha hb
 have h2:=zIk b a hb ha
 have e:decide (a=b)=(!zB3 a b && !zB3 b a):=by
  rcases zSx a b with h | rfl | h
  ·have:¬a=b:=fun e=>by subst e;rw[zEQ] at h;cases h
   simp[h,this]
  ·simp[zEQ]
  ·have:¬a=b:=fun e=>by subst e;rw[zEQ] at h;cases h
   simp[h,this]
 rw[e]
 generalize zB3 a b=x at h1
 generalize zB3 b a=y at h2
 refine zB (fn:=Tryz.f76) 15 [4] (by kernel_rfl) rfl (by kernel_rfl) (HW.run 400 (by kernel_rfl) ?_)
 simp +decide only[go_sem,nT,nA,nS,nM,nB,reduceIte,reduceCtorEq]
 refine zD (h1) rfl rfl ?_
 cases x with
 | true =>
  simp +decide only[go_sem,nT,nA,nS,nM,nB,reduceIte,reduceCtorEq]
  rfl
 | false =>
  simp +decide only[go_sem,nT,nA,nS,nM,nB,reduceIte,reduceCtorEq]
  refine zD (h2) rfl rfl ?_
  simp +decide only[go_sem,nT,nA,nS,nM,nB,reduceIte,reduceCtorEq]
set_option maxHeartbeats 4000000 in
theorem zFu (a b:List Int) (ha:a.length≤1000000) (hb:b.length≤1000000):HFn Tryz.prog 74 [.sl (ints a),.sl (ints b)] (.v (.bool (decide (a=b)))):=by
 refine zB (fn:=Tryz.f74) 26 [4] (by kernel_rfl) rfl (by kernel_rfl) (HW.run 400 (by kernel_rfl) ?_)
 by_cases hn:a.length=b.length
 ·have hn' : ((a.length:Int)=(b.length:Int))=True:=by simp only[eq_iff_iff,iff_true];omega
  simp +decide only[go_sem,nT,nA,nS,nM,nB,reduceIte,reduceCtorEq,hn']
  refine HW.loopG (fun k T H=>∃i:Nat,k=a.length-i∧i≤a.length∧a.take i=b.take i∧T 0=.sl (ints a)∧T 1=.sl (ints b)∧T 12=.v (.int .i64 a.length)∧T 13=.v (.int .i64 i)∧H=[]) a.length ⟨_,_,Ghost.refl,0,rfl,by omega,rfl,rfl,rfl,?_,rfl,rfl⟩ ?_
  ·simp +decide only[go_sem,nT,nA,nS,nM,nB,reduceIte,reduceCtorEq]
  rintro k T H ⟨i,rfl,hi,he,h0,h1,h12,h13,rfl⟩
  refine HW.run 200 (by kernel_rfl) ?_
  by_cases hlt:i<a.length
  ·have hlt' : ((i:Int)<(a.length:Int))=True:=by simp only[eq_iff_iff,iff_true];omega
   have hlt2:((i:Int)<(b.length:Int))=True:=by simp only[eq_iff_iff,iff_true];omega
   have hx:a[i]?=some a[i]:=List.getElem?_eq_getElem hlt
   have hy:b[i]?=some (b[i]'(by omega)):=List.getElem?_eq_getElem (by omega)
   generalize a[i]=x at hx
   generalize b[i]'(by omega)=y at hy
   simp +decide only[go_sem,nT,nA,nS,nM,nB,reduceIte,reduceCtorEq,h0,h1,h12,h13,hlt']
   refine HW.tree 1 (.light 0 (.light 1 (.light 2 (.light 3 (.light 4 (.light 5 (.light 6 (.light 7 (.light 8 .leaf))))))))) follows (by kernel_rfl) (by kernel_rfl) ?_
   simp +decide only[go_sem,nT,nA,nS,nM,nB,reduceIte,reduceCtorEq,h0,h1,h12,h13,hlt',hlt2,hx,hy]
   by_cases hxy:x=y
   ·subst hxy
    simp +decide only[go_sem,nT,nA,nS,nM,nB,reduceIte,reduceCtorEq,h0,h1,h12,h13]
    refine ⟨_,_,Ghost.refl,a.length-(i+1),by omega,i+1,rfl,by omega,by rw[List.take_add_one,List.take_add_one,he,hx,hy],?_,?_,?_,?_,rfl⟩
    all_goals first | (simp +decide only[go_sem,nB,reduceIte,h0,h1,h12];done) | (simp +decide only[go_sem,nB,reduceIte];rw[w64 (by omega) (by omega)];rfl)
   ·have hxy' : (x=y)=False:=eq_false hxy
    have:¬a=b:=fun e=>by rw[e,hy] at hx;exact hxy (Option.some.inj hx).symm
    rw[show decide (a=b)=false from decide_eq_false this]
    simp +decide only[go_sem,nT,nA,nS,nM,nB,reduceIte,reduceCtorEq,h0,h1,h12,h13,hxy']
  ·have hlt' : ((i:Int)<(a.length:Int))=False:=by simp only[eq_iff_iff,iff_false];omega
   have:a=b:=by rw[List.take_of_length_le (by omega),List.take_of_length_le (by omega)] at he;exact he
   rw[show decide (a=b)=true from decide_eq_true this]
   simp +decide only[go_sem,nT,nA,nS,nM,nB,reduceIte,reduceCtorEq,h0,h1,h12,h13,hlt']
 ·have hn' : ((a.length:Int)=(b.length:Int))=False:=by simp only[eq_iff_iff,iff_false];omega
  have:¬a=b:=fun e=>hn (by rw[e])
  rw[show decide (a=b)=false from decide_eq_false this]
  simp +decide only[go_sem,nT,nA,nS,nM,nB,reduceIte,reduceCtorEq,hn']
set_option maxHeartbeats 4000000 in
theorem zJw (a b:List Ot) (ha:a.length≤1000000) (hb:b.length≤1000000) (hsa:∀x∈a,SmallO x) (hsb:∀x∈b,SmallO x):HFn Tryz.prog 75 [.sl (ots a),.sl (ots b),.fn 76 []] (.v (.bool (decide (a=b)))):=by
 refine zB (fn:=Tryz.f75) 32 [6] (by kernel_rfl) rfl (by kernel_rfl) (HW.run 400 (by kernel_rfl) ?_)
 by_cases hn:a.length=b.length
 ·have hn' : ((a.length:Int)=(b.length:Int))=True:=by simp only[eq_iff_iff,iff_true];omega
  simp +decide only[go_sem,nT,nA,nS,nM,nB,reduceIte,reduceCtorEq,hn']
  refine HW.loopG (fun k T H=>∃i:Nat,k=a.length-i∧i≤a.length∧a.take i=b.take i∧T 1=.sl (ots b)∧T 2=.fn 76 []∧T 15=.sl (ots a)∧T 16=.v (.int .i64 a.length)∧T 17=.v (.int .i64 i)∧H=[]) a.length ⟨_,_,Ghost.refl,0,rfl,by omega,rfl,rfl,rfl,rfl,?_,rfl,rfl⟩ ?_
  ·simp +decide only[go_sem,nT,nA,nS,nM,nB,reduceIte,reduceCtorEq]
  rintro k T H ⟨i,rfl,hi,he,h1,h2,h15,h16,h17,rfl⟩
  refine HW.run 200 (by kernel_rfl) ?_
  by_cases hlt:i<a.length
  ·have hlt' : ((i:Int)<(a.length:Int))=True:=by simp only[eq_iff_iff,iff_true];omega
   have hlt2:((i:Int)<(b.length:Int))=True:=by simp only[eq_iff_iff,iff_true];omega
   have hx:a[i]?=some a[i]:=List.getElem?_eq_getElem hlt
   have hy:b[i]?=some (b[i]'(by omega)):=List.getElem?_eq_getElem (by omega)
   have hc:=zO6 _ _ (hsa _ (List.getElem_mem hlt)) (hsb _ (List.getElem_mem (by omega:i<b.length)))
   generalize a[i]=x at hx hc
   generalize b[i]'(by omega)=y at hy hc
   simp +decide only[go_sem,nT,nA,nS,nM,nB,reduceIte,reduceCtorEq,h1,h2,h15,h16,h17,hlt',hlt2,hx,hy]
   refine zD (hc) rfl rfl ?_
   by_cases hxy:x=y
   ·subst hxy
    simp +decide only[go_sem,nT,nA,nS,nM,nB,reduceIte,reduceCtorEq,h1,h2,h15,h16,h17]
    refine ⟨_,_,Ghost.trunc [1,2,15,16,17] 0 (by omega) ?_ ?_,a.length-(i+1),by omega,i+1,rfl,by omega,by rw[List.take_add_one,List.take_add_one,he,hx,hy],?_,?_,?_,?_,?_,rfl⟩
    all_goals first | (simp +decide only[go_sem,nB,reduceIte,h1,h2,h15,h16];done) | (simp +decide only[go_sem,nB,reduceIte];rw[w64 (by omega) (by omega)];rfl)
   ·have hxy' : decide (x=y)=false:=decide_eq_false hxy
    have:¬a=b:=fun e=>by rw[e,hy] at hx;exact hxy (Option.some.inj hx).symm
    rw[show decide (a=b)=false from decide_eq_false this]
    simp +decide only[go_sem,nT,nA,nS,nM,nB,reduceIte,reduceCtorEq,h1,h2,h15,h16,h17,hxy']
  ·have hlt' : ((i:Int)<(a.length:Int))=False:=by simp only[eq_iff_iff,iff_false];omega
   have:a=b:=by rw[List.take_of_length_le (by omega),List.take_of_length_le (by omega)] at he;exact he
   rw[show decide (a=b)=true from decide_eq_true this]
   simp +decide only[go_sem,nT,nA,nS,nM,nB,reduceIte,reduceCtorEq,h1,h2,h15,h16,h17,hlt']
 ·have hn' : ((a.length:Int)=(b.length:Int))=False:=by simp only[eq_iff_iff,iff_false];omega
  have:¬a=b:=fun e=>hn (by rw[e])
  rw[show decide (a=b)=false from decide_eq_false this]
  simp +decide only[go_sem,nT,nA,nS,nM,nB,reduceIte,reduceCtorEq,hn']
theorem zYX (p:Prg) (a:Ans) (ha:SmallA a):HFn Tryz.prog 41 [chkC p a] (.v (.bool (zPo a))):=by
 have hE:=zJw a.ends a.loose (by have:=ha.ends;omega) (by have:=ha.loose;omega) ha.endO ha.looseO
 have e1:decide ((a.fences.length:Int)=0)=decide (a.fences=[]):=by
  cases a.fences with
  | nil=>rfl
  | cons x l=>simp;omega
 unfold zPo
 generalize decide (a.ends=a.loose)=z at hE
 refine zB (fn:=Tryz.f41) 22 [2] (by kernel_rfl) rfl (by kernel_rfl) (HW.run 400 (by kernel_rfl) ?_)
 simp +decide only[go_sem,nT,nA,nS,nM,nB,reduceIte,reduceCtorEq]
 refine HW.tree 1 (.light 0 (.light 1 (.light 2 (.light 3 (.light 4 (.light 5 (.light 6 (.light 7 (.light 8 (.light 9 (.light 10 (.light 11 (.light 12 (.light 13 (.light 14 (.light 15 (.light 16 (.heavy 17 [0,1,2,3,4,5,6] (.light 18 (.light 19 .leaf)) .stop)))))))))))))))))) follows (by kernel_rfl) (by kernel_rfl) ?_
 simp +decide only[go_sem,nT,nA,nS,nM,nB,reduceIte,reduceCtorEq,e1]
 refine zD (hE) rfl rfl ?_
 simp +decide only[go_sem,nT,nA,nS,nM,nB,reduceIte,reduceCtorEq,e1]
set_option maxHeartbeats 4000000 in
theorem zYV (p:Prg) (a:Ans) (ha:SmallA a):HFn Tryz.prog 38 [chkC p a] (.v (.bool (zHK a))):=by
 have h1:=zSg a.ends (by have:=ha.ends;omega) ha.endO
 have h2:=zSg a.loose (by have:=ha.loose;omega) ha.looseO
 unfold zHK
 refine zB (fn:=Tryz.f38) 32 [2] (by kernel_rfl) rfl (by kernel_rfl) (HW.run 400 (by kernel_rfl) ?_)
 simp +decide only[go_sem,nT,nA,nS,nM,nB,reduceIte,reduceCtorEq]
 refine HW.tree 1 (.light 0 (.light 1 (.light 2 (.light 3 (.light 4 (.heavy 5 [] (.light 6 (.light 7 (.light 8 (.light 9 (.light 10 (.light 11 (.heavy 12 [] (.light 13 (.light 14 (.light 15 (.light 16 (.light 17 (.light 18 (.light 19 (.light 20 (.light 21 (.light 22 (.light 23 (.light 24 (.heavy 25 [] (.light 26 (.light 27 (.light 28 (.light 29 .leaf)))) .stop))))))))))))) .stop))))))) .stop)))))) follows (by kernel_rfl) (by kernel_rfl) ?_
 simp +decide only[go_sem,nT,nA,nS,nM,nB,reduceIte,reduceCtorEq]
 refine zD (h1) rfl rfl ?_
 cases hb:setO a.ends with
 | false =>
  simp +decide only[go_sem,nT,nA,nS,nM,nB,reduceIte,reduceCtorEq]
  rfl
 | true =>
  simp +decide only[go_sem,nT,nA,nS,nM,nB,reduceIte,reduceCtorEq]
  refine zD (h2) rfl rfl ?_
  cases hb2:setO a.loose with
  | false =>
   simp +decide only[go_sem,nT,nA,nS,nM,nB,reduceIte,reduceCtorEq]
   rfl
  | true =>
   have h3:=zSh a.ends a.loose (by have:=ha.ends;omega) (by have:=ha.loose;omega) (zFe.1 hb2) ha.endO ha.looseO
   have e:decide (((zHm a.ends a.loose).length:Int)=0)=(zHm a.ends a.loose).isEmpty:=by
    cases zHm a.ends a.loose with
    | nil=>rfl
    | cons x l=>simp;omega
   simp +decide only[go_sem,nT,nA,nS,nM,nB,reduceIte,reduceCtorEq]
   refine zD (h3) rfl rfl ?_
   simp +decide only[go_sem,nT,nA,nS,nM,nB,reduceIte,reduceCtorEq,e]
end Go.Proofs.YtoknohandclcbaaGreat
namespace Go.Proofs.YtoknohandclcbaaGreat
open Go.RowKit
set_option maxRecDepth 8000
theorem zNy:∀(l:List Thd),(∀t∈l,t.regs.length≤1000)→(l.flatMap (·.regs)).length≤1000*l.length
 | [],_=>by simp
 | t::l,h=>by
  have:=zNy l fun t ht=>h t (by simp[ht])
  have:=h t (by simp)
  simp only[List.flatMap_cons,List.length_append,List.length_cons]
  omega
theorem zNM {p:Prg} (hp:RightP p) {l:List Pck} {o:Ot} (h:zF9 p l=some o):SmallO o:=by
 obtain ⟨_,_,rfl⟩:=zIC h
 have hs:RightS p (runW p (zI p) l).1:=zDI (weak:=true) hp l (zI p) zAy
 have h1:=hs.mem
 have h2:=hs.ths
 have h3:=hp.init
 have h4:=hp.thr
 have h5:=zNy _ (zEo hs)
 exact ⟨by show (runW p (zI p) l).1.mem.length≤_;omega,by show (zF6 (runW p (zI p) l).1).length≤_;unfold zF6;omega⟩
abbrev z2r (x:Prf):HObj:=⟨50,4,[[.sl (pcks x.picks),.sl (ints x.out.mem),.sl (ints x.out.regs),.sl (ints x.slots)]]⟩
def zE3:Option Ot→List HV
 | none=>[.v (.slice none 0 0),.v (.slice none 0 0)]
 | some o=>[.sl (ints o.mem),.sl (ints o.regs)]
set_option maxHeartbeats 8000000 in
theorem zUn (p:Prg) (a:Ans) (x:Prf) (hp:RightP p) (ha:SmallA a) (hs1:SetO a.ends) (hs2:SetO a.loose) (hx:x∈a.proofs):HFn Tryz.prog 71 [chkC p a,prfH x] (.v (.bool (zBy p a x))):=by
 have hE:HFn Tryz.prog 108 [prgH p,.sl (pcks x.picks),.v (.bool true)] (endR (zF9 p x.picks)):=zZ0 p x.picks true hp (by have:=ha.picks x hx;omega)
 have hC:HFn Tryz.prog 109 [prgH p,.sl (pcks x.picks)] (.tu [.sl (ints (zGq p x.picks)),.v (.bool (zAo p (zI p) [] x.picks).isSome)]):=HFn.shut (zQx p x.picks hp (ha.picks x hx)) (by simp only[fzo,fzoL,zAZ];rfl)
 have hcl:(zGq p x.picks).length≤1000000:=by
  have:=zUj (p:=p) (l:=x.picks)
  have:=ha.picks x hx
  show ((zAo p (zI p) [] x.picks).getD []).length≤_
  omega
 have hQ:=zFu (zGq p x.picks) x.slots hcl (by have:=ha.slots x hx;omega)
 have hxo:=ha.outs x hx
 have hse:∀o,zF9 p x.picks=some o→SmallO o:=fun o h=>zNM hp h
 unfold zBy
 generalize zF9 p x.picks=eo at hE hse
 generalize (zAo p (zI p) [] x.picks).isSome=cb at hC
 generalize zGq p x.picks=cr at hC hQ hcl
 refine zB (fn:=Tryz.f71) 61 [4] (by kernel_rfl) rfl (by kernel_rfl) (HW.run 400 (by kernel_rfl) ?_)
 simp +decide only[go_sem,nT,nA,nS,nM,nB,reduceIte,reduceCtorEq]
 refine HW.treeI (fun T H=>T 0=chkC p a∧T 3=.pt 0 1 0 0∧T 5=.pt 1 1 0 0∧T 6=.v (.bool eo.isSome)∧H=[some (z2r x),some ⟨44,2,[zE3 eo]⟩]) (.light 0 (.light 1 (.light 2 (.light 3 (.light 4 (.light 5 (.heavy 6 [] (.light 7 (.light 8 (.light 9 (.heavy 10 [0,1,2,3,4,5,7,8,9] (.heavy 11 [9] (.light 12 .leaf) .stop) .stop)))) (.heavy 10 [0,1,2,3,4,5] (.heavy 6 [] (.light 7 (.light 8 (.light 9 (.heavy 11 [9] (.light 12 .leaf) .stop)))) .stop) .stop)))))))) follows (by kernel_rfl) (by kernel_rfl) ?_ ?_
 ·cases eo with
  | none =>
   simp only[endR] at hE
   simp +decide only[go_sem,nT,nA,nS,nM,nB,reduceIte,reduceCtorEq]
   refine ⟨?_,?_⟩
   all_goals
    refine zD (hE) rfl rfl ?_
    simp +decide only[go_sem,nT,nA,nS,nM,nB,reduceIte,reduceCtorEq]
    refine GQ.done ⟨?_,?_,?_,?_,rfl⟩
    all_goals first | (simp +decide only[go_sem,nB,reduceIte];done) | rfl
  | some o =>
   simp only[endR] at hE
   simp +decide only[go_sem,nT,nA,nS,nM,nB,reduceIte,reduceCtorEq]
   refine ⟨?_,?_⟩
   all_goals
    refine zD (hE) rfl rfl ?_
    simp +decide only[go_sem,nT,nA,nS,nM,nB,reduceIte,reduceCtorEq]
    refine GQ.done ⟨?_,?_,?_,?_,rfl⟩
    all_goals first | (simp +decide only[go_sem,nB,reduceIte];done) | rfl
 rintro T H ⟨h0,h3,h5,h6,rfl⟩
 simp +decide only[go_sem,nT,nA,nS,nM,nB,reduceIte,reduceCtorEq,h0,h3,h5,h6]
 refine HW.tree 1 (.light 0 (.light 1 (.light 2 (.light 3 (.light 4 (.light 5 (.heavy 6 [] (.light 7 (.light 8 (.light 9 (.light 10 (.light 11 .leaf))))) .stop))))))) follows (by kernel_rfl) (by kernel_rfl) ?_
 simp +decide only[go_sem,nT,nA,nS,nM,nB,reduceIte,reduceCtorEq,h0,h3,h5,h6]
 refine zD (hC) rfl rfl ?_
 simp +decide only[go_sem,nT,nA,nS,nM,nB,reduceIte,reduceCtorEq,h0,h3,h5,h6]
 refine HW.tree 1 (.light 0 (.light 1 (.light 2 (.light 3 (.light 4 (.heavy 5 [] (.light 6 (.light 7 (.light 8 (.light 9 (.light 10 (.heavy 11 [] (.light 12 (.light 13 (.light 14 (.light 15 (.light 16 (.light 17 (.light 18 (.light 19 (.heavy 20 [] (.light 21 (.light 22 (.light 23 (.light 24 (.light 25 (.light 26 (.light 27 (.light 28 (.light 29 (.heavy 30 [] (.light 31 (.light 32 .leaf)) .stop)))))))))) .stop))))))))) .stop)))))) .stop)))))) follows (by kernel_rfl) (by kernel_rfl) ?_
 cases eo with
 | none =>
  simp +decide only[go_sem,nT,nA,nS,nM,nB,reduceIte,reduceCtorEq,h0,h3,h5,h6,Option.isSome_none]
 | some o =>
  have hso:=hse o rfl
  have h1:=zO6 o x.out hso hxo
  have h2:=zM5 a.ends o (by have:=ha.ends;omega) hs1 ha.endO hso
  have h4:=zM5 a.loose o (by have:=ha.loose;omega) hs2 ha.looseO hso
  simp only
  generalize decide (o=x.out)=b1 at h1
  generalize decide (cr=x.slots)=b2 at hQ
  generalize hasO a.ends o=b3 at h2
  generalize hasO a.loose o=b4 at h4
  simp +decide only[go_sem,nT,nA,nS,nM,nB,reduceIte,reduceCtorEq,h0,h3,h5,h6,Option.isSome_some,zE3]
  refine zD (h1) rfl rfl ?_
  cases b1 with
  | false =>
   simp +decide only[go_sem,nT,nA,nS,nM,nB,reduceIte,reduceCtorEq,h0,h3,h5,h6,zE3]
   rfl
  | true =>
   simp +decide only[go_sem,nT,nA,nS,nM,nB,reduceIte,reduceCtorEq,h0,h3,h5,h6,zE3]
   refine zD (hQ) rfl rfl ?_
   cases b2 with
   | false =>
    simp +decide only[go_sem,nT,nA,nS,nM,nB,reduceIte,reduceCtorEq,h0,h3,h5,h6,zE3]
    rfl
   | true =>
    simp +decide only[go_sem,nT,nA,nS,nM,nB,reduceIte,reduceCtorEq,h0,h3,h5,h6,zE3]
    refine zD (h2) rfl rfl ?_
    cases b3 with
    | true =>
     simp +decide only[go_sem,nT,nA,nS,nM,nB,reduceIte,reduceCtorEq,h0,h3,h5,h6,zE3]
     rfl
    | false =>
     simp +decide only[go_sem,nT,nA,nS,nM,nB,reduceIte,reduceCtorEq,h0,h3,h5,h6,zE3]
     refine zD (h4) rfl rfl ?_
     simp +decide only[go_sem,nT,nA,nS,nM,nB,reduceIte,reduceCtorEq,h0,h3,h5,h6,zE3]
end Go.Proofs.YtoknohandclcbaaGreat
namespace Go.Proofs.YtoknohandclcbaaGreat
open Go.RowKit
set_option maxRecDepth 8000
theorem zNV (p:Prg) (a:Ans) (x:Prf) (hp:RightP p) (ha:SmallA a) (hs1:SetO a.ends) (hs2:SetO a.loose) (hx:x∈a.proofs):HFn Tryz.prog 70 [prfH x,.fp [[chkC p a]] 0 0] (.v (.bool (!zBy p a x))):=by
 have h:=zUn p a x hp ha hs1 hs2 hx
 refine zB (fn:=Tryz.f70) 8 [3] (by kernel_rfl) rfl (by kernel_rfl) (HW.run 400 (by kernel_rfl) ?_)
 simp +decide only[go_sem,nT,nA,nS,nM,nB,reduceIte,reduceCtorEq]
 refine zD (h) rfl rfl ?_
 simp +decide only[go_sem,nT,nA,nS,nM,nB,reduceIte,reduceCtorEq]
theorem zRB (p:Prg) (a:Ans) (hp:RightP p) (ha:SmallA a) (hs1:SetO a.ends) (hs2:SetO a.loose):HFn Tryz.prog 39 [chkC p a] (.v (.bool (a.proofs.all (zBy p a)))):=by
 have h:=conP a.proofs 70 [.fp [[chkC p a]] 0 0] (fun x=>!zBy p a x) (by have:=ha.proofs;omega) (fun x _=>rfl) rfl (fun i x hx _=>zNV p a x hp ha hs1 hs2 (List.mem_of_getElem? hx))
 have e:a.proofs.all (zBy p a) = !(a.proofs.any fun x=>!zBy p a x):=by rw[List.all_eq_not_any_not]
 rw[e]
 generalize (a.proofs.any fun x=>!zBy p a x)=b at h
 refine zB (fn:=Tryz.f39) 11 [2] (by kernel_rfl) rfl (by kernel_rfl) (HW.run 400 (by kernel_rfl) ?_)
 simp +decide only[go_sem,nT,nA,nS,nM,nB,reduceIte,reduceCtorEq]
 refine zJ 3 h (by simp only[go_sem];rfl) rfl ?_
 simp +decide only[go_sem,nT,nA,nS,nM,nB,reduceIte,reduceCtorEq]
set_option maxHeartbeats 4000000 in
theorem zYW (a:Ans) (ha:a.proofs.length≤100000):HFn Tryz.prog 73 [ansH a] (.sl (rws (zAR a.proofs))):=by
 refine HFn.shut (R:=.ow 22 1 (rws (zAR a.proofs))) ?_ (by simp only[fzo,zI3])
 refine zB (fn:=Tryz.f73) 20 [2] (by kernel_rfl) rfl (by kernel_rfl) (HW.run 400 (by kernel_rfl) ?_)
 simp +decide only[go_sem,nT,nA,nS,nM,nB,reduceIte,reduceCtorEq]
 refine HW.loopG (fun k T H=>∃i:Nat,k=a.proofs.length-i∧i≤a.proofs.length∧T 3=.hd 1 0 (zAR (a.proofs.take i)).length∧T 7=.sl (pfs a.proofs)∧T 8=.v (.int .i64 a.proofs.length)∧T 9=.v (.int .i64 i)∧
  H=[some ⟨29,5,[[.sl (ints a.fences),.sl (pfs a.proofs),.sl (ots a.ends),.sl (ots a.loose),.v (.int .i64 a.states)]]⟩,some ⟨22,1,rws (zAR (a.proofs.take i))⟩]) a.proofs.length
  ⟨_,_,Ghost.nil 3 22 1 rfl,0,rfl,by omega,?_,?_,?_,?_,rfl⟩ ?_
 ·simp +decide only[go_sem,nB,reduceIte]
  rfl
 ·simp +decide only[go_sem,nB,reduceIte]
 ·simp +decide only[go_sem,nB,reduceIte]
 ·simp +decide only[go_sem,nB,reduceIte]
  rfl
 rintro k T H ⟨i,rfl,hi,h3,h7,h8,h9,rfl⟩
 refine HW.run 200 (by kernel_rfl) ?_
 by_cases hlt:i<a.proofs.length
 ·have hlt' : ((i:Int)<(a.proofs.length:Int))=True:=by simp only[eq_iff_iff,iff_true];omega
  have hx:a.proofs[i]?=some a.proofs[i]:=List.getElem?_eq_getElem hlt
  have htk:zAR (a.proofs.take (i+1))=zAR (a.proofs.take i)++[(a.proofs[i]).slots]:=by
   unfold zAR;rw[List.take_add_one,hx,List.map_append];rfl
  generalize a.proofs[i]=x at hx htk
  have hln:(zAR (a.proofs.take i)).length≤100000:=by unfold zAR;simp;omega
  simp +decide only[go_sem,nT,nA,nS,nM,nB,reduceIte,reduceCtorEq,h3,h7,h8,h9,hlt',hx]
  repeat (with_reducible refine And.intro ?_ ?_;·(with_reducible and_intros) <;> omega)
  refine ⟨_,_,Ghost.trunc [3,7,8,9] 2 (by omega) ?_ ?_,a.proofs.length-(i+1),by omega,i+1,rfl,by omega,?_,?_,?_,?_,?_⟩
  all_goals first | (simp +decide only[go_sem,nB,reduceIte,h3,h7,h8];done) | (simp +decide only[go_sem,nB,reduceIte];rw[w64 (by omega) (by omega)];rfl) | (simp +decide only[go_sem,nT,nA,nS,nM,nB,reduceIte,reduceCtorEq,htk,List.length_append];done)
 ·have hlt' : ((i:Int)<(a.proofs.length:Int))=False:=by simp only[eq_iff_iff,iff_false];omega
  have e:a.proofs.take i=a.proofs:=List.take_of_length_le (by omega)
  simp +decide only[go_sem,nT,nA,nS,nM,nB,reduceIte,reduceCtorEq,h3,h7,h8,h9,hlt',e]
theorem zUo (p:Prg) (a:Ans) (ha:SmallA a):HFn Tryz.prog 40 [chkC p a] (.v (.bool (zG2 a))):=by
 have hr:=zYW a (by have:=ha.proofs;omega)
 have hL:=zXQ (zAR a.proofs) (by unfold zAR;simp;have:=ha.proofs;omega) (fun r h=>by
  unfold zAR at h
  obtain ⟨x,hx,rfl⟩:=List.mem_map.1 h
  exact ha.slots x hx) ha.all
 have hlen:∀r,zCQ (zAR a.proofs)=(r,true)→r.length≤1000000:=fun r h=>by
  obtain ⟨n,hn,_⟩:=(zG1 h).2
  obtain ⟨_,s,e,_,hsub⟩:=zCp _ _ _ _ _ hn
  rw[List.nil_append] at e
  subst e
  have h1:=hsub.length_le
  have h2:=zOd (zAR a.proofs)
  have h3:=ha.all
  omega
 unfold zG2
 generalize zCQ (zAR a.proofs)=R at hL hlen
 generalize zAR a.proofs=sr at hr hL
 obtain ⟨r,b⟩:=R
 cases b with
 | false =>
  simp only[zOL] at hL
  refine zB (fn:=Tryz.f40) 24 [2] (by kernel_rfl) rfl (by kernel_rfl) (HW.run 400 (by kernel_rfl) ?_)
  simp +decide only[go_sem,nT,nA,nS,nM,nB,reduceIte,reduceCtorEq]
  refine zD (hr) rfl rfl ?_
  simp +decide only[go_sem,nT,nA,nS,nM,nB,reduceIte,reduceCtorEq]
  refine zD (hL) rfl rfl ?_
  simp +decide only[go_sem,nT,nA,nS,nM,nB,reduceIte,reduceCtorEq]
  rfl
 | true =>
  simp only[zOL] at hL
  have hQ:=zFu r a.fences (hlen r rfl) (by have:=ha.fences;omega)
  refine zB (fn:=Tryz.f40) 24 [2] (by kernel_rfl) rfl (by kernel_rfl) (HW.run 400 (by kernel_rfl) ?_)
  simp +decide only[go_sem,nT,nA,nS,nM,nB,reduceIte,reduceCtorEq]
  refine zD (hr) rfl rfl ?_
  simp +decide only[go_sem,nT,nA,nS,nM,nB,reduceIte,reduceCtorEq]
  refine zD (hL) rfl rfl ?_
  simp +decide only[go_sem,nT,nA,nS,nM,nB,reduceIte,reduceCtorEq]
  refine zD (hQ) rfl rfl ?_
  simp +decide only[go_sem,nT,nA,nS,nM,nB,reduceIte,reduceCtorEq]
end Go.Proofs.YtoknohandclcbaaGreat
namespace Go.Proofs.YtoknohandclcbaaGreat
open Go.RowKit
set_option maxRecDepth 8000
set_option maxHeartbeats 4000000 in
theorem zZb (l:List Prf) (hl:l.length≤100000):HFn Tryz.prog 30 [.sl (pfs l)] (.sl (rws (zAR l))):=by
 refine HFn.shut (R:=.ow 22 1 (rws (zAR l))) ?_ (by simp only[fzo,zI3])
 refine zB (fn:=Tryz.f30) 20 [2] (by kernel_rfl) rfl (by kernel_rfl) (HW.run 400 (by kernel_rfl) ?_)
 simp +decide only[go_sem,nT,nA,nS,nM,nB,reduceIte,reduceCtorEq]
 refine HW.loopG (fun k T H=>∃i:Nat,k=l.length-i∧i≤l.length∧T 0=.sl (pfs l)∧T 3=.hd 0 0 (zAR (l.take i)).length∧T 4=.v (.int .i64 i)∧H=[some ⟨22,1,rws (zAR (l.take i))⟩]) l.length ⟨_,_,Ghost.nil 3 22 1 rfl,0,rfl,by omega,?_,?_,?_,rfl⟩ ?_
 iterate 3 first | (simp +decide only[go_sem,nB,reduceIte];done) | exact rfl
 rintro k T H ⟨i,rfl,hi,h0,h3,h4,rfl⟩
 refine HW.run 200 (by kernel_rfl) ?_
 by_cases hlt:i<l.length
 ·have hlt' : ((i:Int)<(l.length:Int))=True:=by simp only[eq_iff_iff,iff_true];omega
  have hx:l[i]?=some l[i]:=List.getElem?_eq_getElem hlt
  have htk:zAR (l.take (i+1))=zAR (l.take i)++[(l[i]).slots]:=by
   unfold zAR;rw[List.take_add_one,hx,List.map_append];rfl
  generalize l[i]=x at hx htk
  have hln:(zAR (l.take i)).length≤100000:=by unfold zAR;simp;omega
  simp +decide only[go_sem,nT,nA,nS,nM,nB,reduceIte,reduceCtorEq,h0,h3,h4,hlt',hx]
  repeat (with_reducible refine And.intro ?_ ?_;·(with_reducible and_intros) <;> omega)
  refine ⟨_,_,Ghost.trunc [0,3,4] 1 (by omega) ?_ ?_,l.length-(i+1),by omega,i+1,rfl,by omega,?_,?_,?_,?_⟩
  all_goals first | (simp +decide only[go_sem,nB,reduceIte,h0,h3];done) | (simp +decide only[go_sem,nB,reduceIte];rw[w64 (by omega) (by omega)];rfl) | (simp +decide only[go_sem,nT,nA,nS,nM,nB,reduceIte,reduceCtorEq,htk,List.length_append];done)
 ·have hlt' : ((i:Int)<(l.length:Int))=False:=by simp only[eq_iff_iff,iff_false];omega
  have e:l.take i=l:=List.take_of_length_le (by omega)
  simp +decide only[go_sem,nT,nA,nS,nM,nB,reduceIte,reduceCtorEq,h0,h3,h4,hlt',e]
end Go.Proofs.YtoknohandclcbaaGreat
namespace Go.Proofs.YtoknohandclcbaaGreat
open Go.RowKit
set_option maxRecDepth 8000
end Go.Proofs.YtoknohandclcbaaGreat
namespace Go.Proofs.YtoknohandclcbaaGreat
open Go.RowKit
set_option maxRecDepth 8000
theorem zYY (c:HV) (f:Nat) (b:Bool) (hn:nmL 0 (fnA f .any [] [c])=true) (h:HFn Tryz.prog (fnF f) (fnA f .any [] [c]) (.v (.bool b))):HFn Tryz.prog 66 [.fn f [c]] (.v (.bool (!b))):=by
 refine zB (fn:=Tryz.f66) 6 [2] (by kernel_rfl) rfl (by kernel_rfl) (HW.run 400 (by kernel_rfl) ?_)
 simp +decide only[go_sem,nT,nA,nS,nM,nB,reduceIte,reduceCtorEq]
 refine zD h rfl hn ?_
 simp +decide only[go_sem,nT,nA,nS,nM,nB,reduceIte,reduceCtorEq]
abbrev zXb (c:HV) (f1 f2 f3 f4:Nat):List (List HV):=[[.fn f1 [c]],[.fn f2 [c]],[.fn f3 [c]],[.fn f4 [c]]]
def no4 (b1 b2 b3 b4:Bool):Int:=if b1=false then 0 else if b2=false then 1 else if b3=false then 2 else if b4=false then 3 else -1
set_option maxHeartbeats 4000000 in
theorem zQN (c:HV) (f1 f2 f3 f4:Nat) (b1 b2 b3 b4:Bool) (hc:nm 0 c=true) (htv:tv c=true) (h1:HFn Tryz.prog 66 [.fn f1 [c]] (.v (.bool (!b1)))) (h2:b1=true→HFn Tryz.prog 66 [.fn f2 [c]] (.v (.bool (!b2))))
  (h3:b1=true→b2=true→HFn Tryz.prog 66 [.fn f3 [c]] (.v (.bool (!b3)))) (h4:b1=true→b2=true→b3=true→HFn Tryz.prog 66 [.fn f4 [c]] (.v (.bool (!b4)))) :
  HFn Tryz.prog 102 [.sl (zXb c f1 f2 f3 f4),.fn 66 []] (.v (.int .i64 (no4 b1 b2 b3 b4))):=by
 have hnm:∀f,nmL 0 [.fn f [c]]=true:=fun f=>by simp[nmL,nm,hc]
 refine zB (fn:=Tryz.f102) 19 [4] (by kernel_rfl) rfl (by kernel_rfl) (HW.run 400 (by kernel_rfl) ?_)
 simp +decide only[go_sem,nT,nA,nS,nM,nB,reduceIte,reduceCtorEq]
 refine HW.loopG (fun k T H=>∃i:Nat,k=4-i∧i≤4∧(1≤i→b1=true)∧(2≤i→b2=true)∧(3≤i→b3=true)∧(4≤i→b4=true)∧T 0=.sl (zXb c f1 f2 f3 f4)∧T 1=.fn 66 []∧T 7=.v (.int .i64 4)∧T 8=.v (.int .i64 i)∧H=[]) 4 ⟨_,_,Ghost.refl,0,rfl,by omega,by omega,by omega,by omega,by omega,rfl,rfl,rfl,rfl,rfl⟩ ?_
 rintro k T H ⟨i,rfl,hi,p1,p2,p3,p4,h0,ht1,h7,h8,rfl⟩
 refine HW.run 200 (by kernel_rfl) ?_
 rcases i with _ | _ | _ | _ | _ | i
 ·simp +decide only[go_sem,nT,nA,nS,nM,nB,reduceIte,reduceCtorEq,h0,ht1,h7,h8,htv]
  refine zD h1 rfl (hnm _) ?_
  cases b1 with
  | false =>
   simp +decide only[go_sem,nT,nA,nS,nM,nB,reduceIte,reduceCtorEq,h0,ht1,h7,h8]
   rfl
  | true =>
   simp +decide only[go_sem,nT,nA,nS,nM,nB,reduceIte,reduceCtorEq,h0,ht1,h7,h8]
   refine ⟨_,_,Ghost.refl,3,by omega,1,rfl,by omega,by intro hh;first | trivial | exact p1 (by omega) | omega,by intro hh;first | trivial | exact p2 (by omega) | omega,by intro hh;first | trivial | exact p3 (by omega) | omega,by intro hh;first | trivial | exact p4 (by omega) | omega,?_,?_,?_,?_,rfl⟩
   all_goals first | (simp +decide only[go_sem,nB,reduceIte,h0,ht1,h7];done) | rfl
 ·simp +decide only[go_sem,nT,nA,nS,nM,nB,reduceIte,reduceCtorEq,h0,ht1,h7,h8,htv]
  refine zD (h2 (p1 (by omega))) rfl (hnm _) ?_
  cases b2 with
  | false =>
   simp +decide only[go_sem,nT,nA,nS,nM,nB,reduceIte,reduceCtorEq,h0,ht1,h7,h8]
   try rw[p1 (by omega)]
   rfl
  | true =>
   simp +decide only[go_sem,nT,nA,nS,nM,nB,reduceIte,reduceCtorEq,h0,ht1,h7,h8]
   refine ⟨_,_,Ghost.refl,2,by omega,2,rfl,by omega,by intro hh;first | trivial | exact p1 (by omega) | omega,by intro hh;first | trivial | exact p2 (by omega) | omega,by intro hh;first | trivial | exact p3 (by omega) | omega,by intro hh;first | trivial | exact p4 (by omega) | omega,?_,?_,?_,?_,rfl⟩
   all_goals first | (simp +decide only[go_sem,nB,reduceIte,h0,ht1,h7];done) | rfl
 ·simp +decide only[go_sem,nT,nA,nS,nM,nB,reduceIte,reduceCtorEq,h0,ht1,h7,h8,htv]
  refine zD (h3 (p1 (by omega)) (p2 (by omega))) rfl (hnm _) ?_
  cases b3 with
  | false =>
   simp +decide only[go_sem,nT,nA,nS,nM,nB,reduceIte,reduceCtorEq,h0,ht1,h7,h8]
   try rw[p1 (by omega)]
   try rw[p2 (by omega)]
   rfl
  | true =>
   simp +decide only[go_sem,nT,nA,nS,nM,nB,reduceIte,reduceCtorEq,h0,ht1,h7,h8]
   refine ⟨_,_,Ghost.refl,1,by omega,3,rfl,by omega,by intro hh;first | trivial | exact p1 (by omega) | omega,by intro hh;first | trivial | exact p2 (by omega) | omega,by intro hh;first | trivial | exact p3 (by omega) | omega,by intro hh;first | trivial | exact p4 (by omega) | omega,?_,?_,?_,?_,rfl⟩
   all_goals first | (simp +decide only[go_sem,nB,reduceIte,h0,ht1,h7];done) | rfl
 ·simp +decide only[go_sem,nT,nA,nS,nM,nB,reduceIte,reduceCtorEq,h0,ht1,h7,h8,htv]
  refine zD (h4 (p1 (by omega)) (p2 (by omega)) (p3 (by omega))) rfl (hnm _) ?_
  cases b4 with
  | false =>
   simp +decide only[go_sem,nT,nA,nS,nM,nB,reduceIte,reduceCtorEq,h0,ht1,h7,h8]
   try rw[p1 (by omega)]
   try rw[p2 (by omega)]
   try rw[p3 (by omega)]
   rfl
  | true =>
   simp +decide only[go_sem,nT,nA,nS,nM,nB,reduceIte,reduceCtorEq,h0,ht1,h7,h8]
   refine ⟨_,_,Ghost.refl,0,by omega,4,rfl,by omega,by intro hh;first | trivial | exact p1 (by omega) | omega,by intro hh;first | trivial | exact p2 (by omega) | omega,by intro hh;first | trivial | exact p3 (by omega) | omega,by intro hh;first | trivial | exact p4 (by omega) | omega,?_,?_,?_,?_,rfl⟩
   all_goals first | (simp +decide only[go_sem,nB,reduceIte,h0,ht1,h7];done) | rfl
 ·have q1:=p1 (by omega)
  have q2:=p2 (by omega)
  have q3:=p3 (by omega)
  have q4:=p4 (by omega)
  subst q1 q2 q3 q4
  simp +decide only[go_sem,nT,nA,nS,nM,nB,reduceIte,reduceCtorEq,h0,ht1,h7,h8]
  rfl
 ·omega
theorem z2w (b1 b2 b3 b4:Bool):(!decide (0≤no4 b1 b2 b3 b4))=(b1 && (b2 && (b3 && b4))):=by
 cases b1 <;> cases b2 <;> cases b3 <;> cases b4 <;> rfl
set_option maxHeartbeats 4000000 in
theorem z1w (c:HV) (f1 f2 f3 f4:Nat) (b1 b2 b3 b4:Bool) (hc:nm 0 c=true) (htv:tv c=true) (hfz:fzo c=c) (h1:HFn Tryz.prog 66 [.fn f1 [c]] (.v (.bool (!b1)))) (h2:b1=true→HFn Tryz.prog 66 [.fn f2 [c]] (.v (.bool (!b2))))
  (h3:b1=true→b2=true→HFn Tryz.prog 66 [.fn f3 [c]] (.v (.bool (!b3)))) (h4:b1=true→b2=true→b3=true→HFn Tryz.prog 66 [.fn f4 [c]] (.v (.bool (!b4)))) :
  HFn Tryz.prog 37 [.sl (zXb c f1 f2 f3 f4)] (.v (.bool (b1 && (b2 && (b3 && b4))))):=by
 have hi:=zQN c f1 f2 f3 f4 b1 b2 b3 b4 hc htv h1 h2 h3 h4
 rw[←z2w]
 generalize no4 b1 b2 b3 b4=q at hi
 have hcon:HFn Tryz.prog 65 [.sl (zXb c f1 f2 f3 f4),.fn 66 []] (.v (.bool (decide (0≤q)))):=by
  refine zB (fn:=Tryz.f65) 9 [4] (by kernel_rfl) rfl (by kernel_rfl) (HW.run 400 (by kernel_rfl) ?_)
  simp +decide only[go_sem,nT,nA,nS,nM,nB,reduceIte,reduceCtorEq]
  refine zD (hi) rfl rfl ?_
  simp +decide only[go_sem,nT,nA,nS,nM,nB,reduceIte,reduceCtorEq]
 refine zB (fn:=Tryz.f37) 6 [2] (by kernel_rfl) rfl (by kernel_rfl) (HW.run 400 (by kernel_rfl) ?_)
 simp +decide only[go_sem,nT,nA,nS,nM,nB,reduceIte,reduceCtorEq]
 refine zD (hcon) rfl rfl ?_
 simp +decide only[go_sem,nT,nA,nS,nM,nB,reduceIte,reduceCtorEq]
theorem zRr {a:Ans} (h:zHK a=true):SetO a.ends:=by
 unfold zHK at h
 rw[Bool.and_eq_true] at h
 exact zFe.1 h.1
theorem zPM {a:Ans} (h:zHK a=true):SetO a.loose:=by
 unfold zHK at h
 rw[Bool.and_eq_true,Bool.and_eq_true] at h
 exact zFe.1 h.2.1
set_option maxHeartbeats 8000000 in
theorem zDD (p:Prg) (a:Ans) (hp:RightP p) (ha:SmallA a):HFn Tryz.prog 13 [prgH p,ansH a] (.v (.bool (zCl p a))):=by
 have hA:∀(m:Nat) (b:Bool),m<4294967296→HFn Tryz.prog m [chkC p a] (.v (.bool b))→HFn Tryz.prog 66 [.fn (m+4294967296) [chkC p a]] (.v (.bool (!b))):=fun m b hm h=>by
  have hge:¬m+4294967296<4294967296:=by omega
  refine zYY _ _ b (by rw[zGc hge];rfl) ?_
  rw[zTj hge,zGc hge]
  rw[Nat.add_sub_cancel]
  exact h
 have h:=z1w (chkC p a) (38+4294967296) (39+4294967296) (40+4294967296) (41+4294967296) (zHK a) (a.proofs.all (zBy p a)) (zG2 a) (zPo a) rfl rfl (by simp only[fzo,fzoR,fzoL];done)
  (hA _ _ (by decide) (zYV p a ha)) (fun h=>hA _ _ (by decide) (zRB p a hp ha (zRr h) (zPM h))) (fun _ _=>hA _ _ (by decide) (zUo p a ha)) (fun _ _ _=>hA _ _ (by decide) (zYX p a ha))
 unfold zCl
 generalize (zHK a && (a.proofs.all (zBy p a) && (zG2 a && zPo a)))=z at h
 refine zB (fn:=Tryz.f13) 20 [4] (by kernel_rfl) rfl (by kernel_rfl) (HW.run 400 (by kernel_rfl) ?_)
 simp +decide only[go_sem,nT,nA,nS,nM,nB,reduceIte,reduceCtorEq]
 refine zJ 4 h (by simp only[go_sem];rfl) rfl ?_
 simp +decide only[go_sem,nT,nA,nS,nM,nB,reduceIte,reduceCtorEq]
theorem zRD (g:List Int) (x:Prf) (hg:g.length≤1000000) (hx:x.slots.length≤1000000):HFn Tryz.prog 32 [prfH x,.fp [[.sl (ints g)]] 0 0] (.v (.bool (!zBE x.slots g))):=by
 have h:=z0N g [x.slots] hg (by simp) (fun r hr=>by obtain rfl:=List.mem_singleton.1 hr;exact hx)
 have e:zBb g [x.slots]=zBE x.slots g:=by simp[zBb]
 rw[e] at h
 refine zB (fn:=Tryz.f32) 10 [3] (by kernel_rfl) rfl (by kernel_rfl) (HW.run 400 (by kernel_rfl) ?_)
 simp +decide only[go_sem,nT,nA,nS,nM,nB,reduceIte,reduceCtorEq]
 refine zJ 3 h (by simp only[go_sem];rfl) rfl ?_
 simp +decide only[go_sem,nT,nA,nS,nM,nB,reduceIte,reduceCtorEq]
theorem zY5 (a:Ans) (g:List Int):(idxF (fun x=>!zBE x.slots g) a.proofs = -1∧zH3 a g=none)∨∃(i:Nat) (x:Prf),idxF (fun x=>!zBE x.slots g) a.proofs=(i:Int)∧a.proofs[i]?=some x∧zH3 a g=some x:=by
 unfold idxF zH3
 cases h:a.proofs.findIdx? (fun x=>!zBE x.slots g) with
 | none =>
  rw[List.findIdx?_eq_none_iff] at h
  refine .inl ⟨rfl,?_⟩
  rw[List.find?_eq_none]
  intro x hx
  simpa using h x hx
 | some i =>
  have h2:=List.findIdx?_eq_some_iff_getElem.1 h
  obtain ⟨h3,h4,h5⟩:=h2
  refine .inr ⟨i,a.proofs[i],rfl,List.getElem?_eq_getElem h3,?_⟩
  rw[List.find?_eq_some_iff_getElem]
  exact ⟨h4,i,h3,rfl,fun j hj=>by have:=h5 j hj;simpa using this⟩
def zN5 (p:Prg) (a:Ans) (g:List Int):HV:=match zH3 a g with
 | none=>.tu [.v (.slice none 0 0),.v (.bool false)]
 | some x=>.tu [.sl (pcks ((zAU p g (zI p) [] x.picks).getD [])),.v (.bool (zAU p g (zI p) [] x.picks).isSome)]
set_option maxHeartbeats 4000000 in
theorem certBeats (p:Prg) (a:Ans) (g:List Int) (hp:RightP p) (ha:SmallA a) (hg:g.length≤10000):HFn Tryz.prog 11 [prgH p,ansH a,.sl (ints g)] (zN5 p a g):=by
 have hi:=idxP a.proofs 32 [.fp [[.sl (ints g)]] 0 0] (fun x=>!zBE x.slots g) (by have:=ha.proofs;omega) (fun x _=>rfl) (fun i x hx _=>zRD g x (by omega) (by have:=ha.slots x (List.mem_of_getElem? hx);omega))
 have hcs:=zY5 a g
 unfold zN5
 generalize idxF (fun x=>!zBE x.slots g) a.proofs=q at hi hcs
 rcases hcs with ⟨rfl,hb⟩ | ⟨i,x,rfl,hx,hb⟩
 ·rw[hb]
  refine zB (fn:=Tryz.f11) 26 [6,7] (by kernel_rfl) rfl (by kernel_rfl) (HW.run 400 (by kernel_rfl) ?_)
  simp +decide only[go_sem,nT,nA,nS,nM,nB,reduceIte,reduceCtorEq]
  refine zJ 3 hi (by simp only[go_sem];rfl) rfl ?_
  simp +decide only[go_sem,nT,nA,nS,nM,nB,reduceIte,reduceCtorEq]
 ·rw[hb]
  simp only
  have hR:HFn Tryz.prog 34 [prgH p,.sl (ints g),.sl (pcks x.picks)] (.tu [.sl (pcks ((zAU p g (zI p) [] x.picks).getD [])),.v (.bool (zAU p g (zI p) [] x.picks).isSome)]):=HFn.shut (zQw p g x.picks hp hg (ha.picks x (List.mem_of_getElem? hx))) (by simp only[fzo,fzoL,zEL])
  have hi0:((i:Int)<0)=False:=by simp only[eq_iff_iff,iff_false];omega
  have hil:((i:Int)<(a.proofs.length:Int))=True:=by have:=(List.getElem?_eq_some_iff.1 hx).1;simp only[eq_iff_iff,iff_true];omega
  generalize (zAU p g (zI p) [] x.picks).isSome=b1 at hR
  generalize (zAU p g (zI p) [] x.picks).getD []=l1 at hR
  refine zB (fn:=Tryz.f11) 26 [6,7] (by kernel_rfl) rfl (by kernel_rfl) (HW.run 400 (by kernel_rfl) ?_)
  simp +decide only[go_sem,nT,nA,nS,nM,nB,reduceIte,reduceCtorEq]
  refine zJ 3 hi (by simp only[go_sem];rfl) rfl ?_
  simp +decide only[go_sem,nT,nA,nS,nM,nB,reduceIte,reduceCtorEq,hi0]
  refine HW.tree 1 (.light 0 (.light 1 (.light 2 (.light 3 (.light 4 (.light 5 (.light 6 (.light 7 (.heavy 8 [] (.light 9 (.light 10 (.light 11 (.light 12 .leaf)))) .stop))))))))) follows (by kernel_rfl) (by kernel_rfl) ?_
  simp +decide only[go_sem,nT,nA,nS,nM,nB,reduceIte,reduceCtorEq,hi0,hil,hx]
  refine zD (hR) rfl rfl ?_
  simp +decide only[go_sem,nT,nA,nS,nM,nB,reduceIte,reduceCtorEq]
end Go.Proofs.YtoknohandclcbaaGreat
namespace Go.Proofs.YtoknohandclcbaaGreat
open Go.RowKit
set_option maxRecDepth 8000
theorem zN6 {a b:List Int} {i:Nat} {x y:Int} (hx:a[i]?=some x) (hy:b[i]?=some y):zCm (a.drop i) (b.drop i)=if x=y then zCm (a.drop (i+1)) (b.drop (i+1)) else decide (x<y):=by
 obtain ⟨h1,e1⟩:=List.getElem?_eq_some_iff.1 hx
 obtain ⟨h2,e2⟩:=List.getElem?_eq_some_iff.1 hy
 rw[List.drop_eq_getElem_cons h1,List.drop_eq_getElem_cons h2,e1,e2,zCm]
set_option maxHeartbeats 4000000 in
theorem zWY (a b:List Int) (ha:a.length≤1000000) (hb:b.length≤1000000):HFn Tryz.prog 18 [.sl (ints a),.sl (ints b)] (.v (.bool (zL6 a b))):=by
 unfold zL6
 refine zB (fn:=Tryz.f18) 40 [4] (by kernel_rfl) rfl (by kernel_rfl) (HW.run 400 (by kernel_rfl) ?_)
 by_cases hn:a.length=b.length
 ·have hn' : ((a.length:Int)=(b.length:Int))=True:=by simp only[eq_iff_iff,iff_true];omega
  rw[if_pos hn]
  simp +decide only[go_sem,nT,nA,nS,nM,nB,reduceIte,reduceCtorEq,hn']
  refine HW.loopG (fun k T H=>∃i:Nat,k=a.length-i∧i≤a.length∧zCm a b=zCm (a.drop i) (b.drop i)∧T 0=.sl (ints a)∧T 1=.sl (ints b)∧T 5=.v (.int .i64 i)∧H=[]) a.length ⟨_,_,Ghost.refl,0,rfl,by omega,rfl,rfl,rfl,rfl,rfl⟩ ?_
  rintro k T H ⟨i,rfl,hi,hI,h0,h1,h5,rfl⟩
  refine HW.run 200 (by kernel_rfl) ?_
  by_cases hlt:i<a.length
  ·have hlt' : ((i:Int)<(a.length:Int))=True:=by simp only[eq_iff_iff,iff_true];omega
   have hlb' : ((i:Int)<(b.length:Int))=True:=by simp only[eq_iff_iff,iff_true];omega
   have hx:a[i]?=some a[i]:=List.getElem?_eq_getElem hlt
   have hy:b[i]?=some (b[i]'(by omega)):=List.getElem?_eq_getElem (by omega)
   generalize a[i]=x at hx
   generalize b[i]'(by omega)=y at hy
   rw[zN6 hx hy] at hI
   simp +decide only[go_sem,nT,nA,nS,nM,nB,reduceIte,reduceCtorEq,h0,h1,h5,hlt']
   refine HW.tree 1 (.light 0 (.light 1 (.light 2 (.light 3 (.light 4 (.light 5 (.light 6 (.light 7 (.light 8 .leaf))))))))) follows (by kernel_rfl) (by kernel_rfl) ?_
   simp +decide only[go_sem,nT,nA,nS,nM,nB,reduceIte,reduceCtorEq,h0,h1,h5,hlt',hlb',hx,hy]
   by_cases hxy:x=y
   ·rw[if_pos hxy] at hI
    simp +decide only[go_sem,nT,nA,nS,nM,nB,reduceIte,reduceCtorEq,h0,h1,h5,hxy]
    refine ⟨_,_,Ghost.refl,a.length-(i+1),by omega,i+1,rfl,by omega,hI,?_,?_,?_,rfl⟩
    all_goals first | (simp +decide only[go_sem,nB,reduceIte,h0,h1];done) | (simp +decide only[go_sem,nB,reduceIte];rw[w64 (by omega) (by omega)];rfl)
   ·rw[if_neg hxy] at hI
    have hxy' : (x=y)=False:=eq_false hxy
    rw[hI]
    simp +decide only[go_sem,nT,nA,nS,nM,nB,reduceIte,reduceCtorEq,h0,h1,h5,hxy']
    refine HW.tree 1 (.light 0 (.light 1 (.light 2 (.light 3 (.light 4 (.light 5 (.light 6 (.light 7 (.light 8 (.light 9 .leaf)))))))))) follows (by kernel_rfl) (by kernel_rfl) ?_
    simp +decide only[go_sem,nT,nA,nS,nM,nB,reduceIte,reduceCtorEq,h0,h1,h5,hlt',hlb',hx,hy]
  ·have hlt' : ((i:Int)<(a.length:Int))=False:=by simp only[eq_iff_iff,iff_false];omega
   have e:zCm (a.drop i) (b.drop i)=false:=by
    rw[List.drop_of_length_le (by omega:a.length≤i)]
    rfl
   rw[hI,e]
   simp +decide only[go_sem,nT,nA,nS,nM,nB,reduceIte,reduceCtorEq,h0,h1,h5,hlt']
 ·have hn' : ((a.length:Int)=(b.length:Int))=False:=by simp only[eq_iff_iff,iff_false];omega
  rw[if_neg hn,show decide (a.length<b.length)=decide ((a.length:Int)<(b.length:Int)) by simp]
  simp +decide only[go_sem,nT,nA,nS,nM,nB,reduceIte,reduceCtorEq,hn']
end Go.Proofs.YtoknohandclcbaaGreat
