/- Parts of the proof: Ch, Cj, HiDi, HiDj. -/
import Derived.Test.YtoknohandclcbaaGreatZc09
open Nat renaming reduceAdd → nA, reduceSub → nS, reduceMul → nM, reduceBEq → nB
open Int renaming reduceToNat → nT
set_option linter.unusedSectionVars false
set_option linter.unusedVariables false
set_option linter.unusedSimpArgs false
namespace Go.Proofs.YtoknohandclcbaaGreat
open Go.RowKit
set_option maxRecDepth 8000
theorem zE6 {s:Sta} {t:Nat} {mem:List Int} {y:Thd}:zBT s (t:Int) mem y=⟨mem,s.ths.set t y⟩:=by unfold zBT;rw[Int.toNat_natCast]
set_option maxHeartbeats 4000000 in
theorem zUz (s:Sta) (t:Nat) (y:Thd) (hx:s.ths[t]?=some y) (hml:s.mem.length≤100000) (htl:s.ths.length≤1000) (hrl:∀t∈s.ths,t.regs.length≤100000∧t.buf.length≤100000) :
  HFn Tryz.prog 127 [staH s,.v (.int .i64 t)] (.tu [staO (if (zA5 y.buf s.mem).2.2=true then zBT s t (zA5 y.buf s.mem).2.1 { y with buf:=(zA5 y.buf s.mem).1 } else s),.v (.bool (zA5 y.buf s.mem).2.2)]):=by
 refine zU (fn:=Tryz.f127) 36 [.cell 4 79,.tmp 5] (by kernel_rfl) rfl rfl (by kernel_rfl) (HW.weaken (Q':=fun e=>GQ _ _ (endC _ _ _ _ e)) (HW.run 400 (by kernel_rfl) ?_) (fun _ _ _ h=>h))
 have ht:t<s.ths.length:=(List.getElem?_eq_some_iff.1 hx).1
 have hyp:y∈s.ths:=List.mem_of_getElem? hx
 obtain ⟨_,hyb⟩:=hrl _ hyp
 have hc2:((t:Int)<(s.ths.length:Int))=True:=by rw[z8];simp[ht]
 have hst:∀X,((zW s.ths).set t X)[t]?=some X:=zE5 (by rw[zAf];exact ht)
 have hlv:(s.ths.length == s.ths.length && s.ths.length != 0)=true:=by
  rw[Bool.and_eq_true]
  exact ⟨beq_self_eq_true _,by simp only[bne_iff_ne];omega⟩
 simp +decide only[go_sem,nT,nA,nS,nM,nB,reduceIte,reduceCtorEq]
 refine zO 3 (zJI s hml htl hrl) (by simp only[go_sem]) (by simp only[go_sem]) ?_
 simp +decide only[go_sem,nT,nA,nS,nM,nB,reduceIte,reduceCtorEq]
 refine HW.ghost (Ghost.open 3 t 3) ?_
 simp +decide only[go_sem,nT,nA,nS,nM,nB,reduceIte,reduceCtorEq,hx]
 refine HW.mixed 100 16 (6,0) [8] follows (by kernel_rfl) (by decide) ?_
 simp +decide only[go_sem,nT,nA,nS,nM,nB,reduceIte,reduceCtorEq,hx,hc2,hlv,hst,List.map_set,List.set_set,List.length_set]
 refine zXr 3 (zXt y.buf s.mem (by omega) (by omega)) (by simp only[go_sem]) (by simp only[go_sem]) ?_
 have hdm:(zA5 y.buf s.mem).2.1.length=s.mem.length:=by
  unfold zA5
  split
  ·rfl
  ·split
   ·exact zBa
   ·rfl
 cases hd:(zA5 y.buf s.mem).2.2 with
 | true =>
  rw[if_pos rfl,zE6]
  simp +decide only[go_sem,nT,nA,nS,nM,nB,reduceIte,reduceCtorEq,hx,hc2,hlv,hst,List.map_set,List.set_set,List.length_set,hd,hdm]
  refine GQ.step (Ghost.absorb 3 t 3) ?_
  simp +decide only[go_sem,nT,nA,nS,nM,nB,reduceIte,reduceCtorEq,hx,hc2,hlv,hst,List.map_set,List.set_set,List.length_set,hd,hdm]
  refine GQ.done ?_
  simp +decide only[go_sem,nT,nA,nS,nM,nB,reduceIte,reduceCtorEq,hx,hc2,hlv,hst,List.map_set,List.set_set,List.length_set,hd,hdm]
 | false =>
  rw[if_neg (by simp)]
  simp +decide only[go_sem,nT,nA,nS,nM,nB,reduceIte,reduceCtorEq,hx,hc2,hlv,hst,List.map_set,List.set_set,List.length_set,hd,hdm]
  refine GQ.step (Ghost.absorb 3 t 3) ?_
  simp +decide only[go_sem,nT,nA,nS,nM,nB,reduceIte,reduceCtorEq,hx,hc2,hlv,hst,List.map_set,List.set_set,List.length_set,hd,hdm]
  refine GQ.done ?_
  simp +decide only[go_sem,nT,nA,nS,nM,nB,reduceIte,reduceCtorEq,hx,hc2,hlv,hst,List.map_set,List.set_set,List.length_set,hd,hdm]
  have e:s.ths.set t ⟨y.pc,y.regs,y.eq,y.buf⟩=s.ths:=zAI hx
  rw[e]
set_option maxHeartbeats 16000000 in
theorem zY6 (p:Prg) (s:Sta) (t:Nat) (y:Thd) (hx:s.ths[t]?=some y) (hp:RightP p) (hs:RightS p s) (hb:∀t∈s.ths,t.buf.length≤100000) :
  HFn Tryz.prog 128 [prgH p,staH s,.v (.int .i64 t)] (.tu [staO (zAA p s ⟨t,false⟩).1,.v (.bool (zAA p s ⟨t,false⟩).2)]):=by
 refine zU (fn:=Tryz.f128) 94 [.cell 6 79,.tmp 7] (by kernel_rfl) rfl rfl (by kernel_rfl) (HW.weaken (Q':=fun e=>GQ _ _ (endC _ _ _ _ e)) (HW.run 400 (by kernel_rfl) ?_) (fun _ _ _ h=>h))
 have hml:s.mem.length≤100000:=by have:=hs.mem;have:=hp.init;omega
 have htl:s.ths.length≤1000:=by have:=hs.ths;have:=hp.thr;omega
 have hrl:∀t∈s.ths,t.regs.length≤100000∧t.buf.length≤100000:=fun t ht=>by
  obtain ⟨i,hi⟩:=List.getElem?_of_mem ht
  have hlt:=(List.getElem?_eq_some_iff.1 hi).1
  have:=(hs.t i _ t (List.getElem?_eq_getElem (show i<p.thr.length by rw[←hs.ths];exact hlt)) hi).regs
  exact ⟨by omega,hb t ht⟩
 have ht:t<s.ths.length:=(List.getElem?_eq_some_iff.1 hx).1
 have hyp:y∈s.ths:=List.mem_of_getElem? hx
 obtain ⟨hyr,hyb⟩:=hrl _ hyp
 have htA:thAt s (t:Int)=y:=by unfold thAt;rw[Int.toNat_natCast,hx];rfl
 have hc2:((t:Int)<(s.ths.length:Int))=True:=by rw[z8];simp[ht]
 have hst:∀X,((zW s.ths).set t X)[t]?=some X:=zE5 (by rw[zAf];exact ht)
 have hlv:(s.ths.length == s.ths.length && s.ths.length != 0)=true:=by
  rw[Bool.and_eq_true]
  exact ⟨beq_self_eq_true _,by simp only[bne_iff_ne];omega⟩
 simp +decide only[go_sem,nT,nA,nS,nM,nB,reduceIte,reduceCtorEq,hx,hc2]
 refine zO 3 (zYK p s t hp hs hb) (by simp only[go_sem]) (by simp only[go_sem]) ?_
 cases ha:atS p s (t:Int) with
 | none =>
  have e:zAA p s ⟨t,false⟩=(s,false):=by
   unfold zAA
   rw[if_neg (fun h=>h ⟨Int.natCast_nonneg t,Int.ofNat_lt.2 ht⟩),if_neg (by simp)]
   simp only[ha]
  rw[e,zF8 ha]
  simp +decide only[go_sem,nT,nA,nS,nM,nB,reduceIte,reduceCtorEq,hx,hc2]
  refine GQ.done ?_
  simp +decide only[go_sem,nT,nA,nS,nM,nB,reduceIte,reduceCtorEq,hx,hc2]
 | some x =>
  obtain ⟨l,c1,c2,hpt,_,hT,hz,hR,hlt⟩:=zIw hp hs ha
  rw[Int.toNat_natCast] at hpt
  rw[htA] at hT hz hR hlt
  rw[zOJ ha,htA]
  simp only[zE6]
  have hW:zAA p s ⟨t,false⟩=if y.buf≠[]∧(x.op=6∨x.op=5) then (s,false)
    else if x.op=2 then (zBT s t s.mem { (zM x s.mem y).2 with regs:=setI y.regs x.reg (zO8 y.buf s.mem x.loc).1 },true)
    else if x.op=3 then (zBT s t s.mem { (zM x s.mem y).2 with buf:=y.buf++[(x.loc,getI y.regs x.reg)] },true)
    else if x.op=4 then (zBT s t s.mem { (zM x s.mem y).2 with buf:=y.buf++[(x.loc,x.n)] },true)
    else (zBT s t (zM x s.mem y).1 (zM x s.mem y).2,true):=by
   unfold zAA
   rw[if_neg (fun h=>h ⟨Int.natCast_nonneg t,Int.ofNat_lt.2 ht⟩),if_neg (by simp)]
   simp only[ha,htA]
  rw[hW]
  simp only[zE6]
  have hm' : (zM x s.mem y).1.length=s.mem.length:=zCw
  have hbz:(zM x s.mem y).2.buf=y.buf:=zB5
  have hrz:(zM x s.mem y).2.regs.length=y.regs.length:=zDZ
  obtain ⟨k,hk⟩:∃k:Nat,y.pc=k:=⟨y.pc.toNat,by have:=hT.pc;omega⟩
  rw[hk,Int.toNat_natCast] at hz
  have hkl:k<l.length:=by omega
  have hc3:((t:Int)<(p.thr.length:Int))=True:=by have:=hs.ths;rw[z8];simp;omega
  have hc4:((k:Int)<(l.length:Int))=True:=by rw[z8];simp[hkl]
  have hst2:∀(z:Thd) X,((zW (s.ths.set t z)).set t X)[t]?=some X:=fun z=>zE5 (by rw[zAf,List.length_set];exact ht)
  have hx2:∀z:Thd,(s.ths.set t z)[t]?=some z:=fun z=>by simp[ht]
  have hj2:x.op=2→(zM x s.mem y).1=s.mem∧(zM x s.mem y).2.regs=setI y.regs x.reg (getI s.mem x.loc):=fun h=>by simp[zM,h]
  generalize zM x s.mem y=z at hm' hbz hrz hj2⊢
  obtain ⟨m',z⟩:=z
  simp only at hm' hbz hrz hj2⊢
  have r1:(0≤x.reg)=True:=by simp only[eq_iff_iff,iff_true];exact hR.reg.1
  have r2:(x.reg<(z.regs.length:Int))=True:=by have:=hR.reg.2.1;have:=hT.regs;simp only[eq_iff_iff,iff_true];omega
  have r2y:(x.reg<(y.regs.length:Int))=True:=by have:=hR.reg.2.1;have:=hT.regs;simp only[eq_iff_iff,iff_true];omega
  have r3:y.regs[x.reg.toNat]?=some (getI y.regs x.reg):=by
   have:x.reg.toNat<y.regs.length:=by have:=hR.reg;have:=hT.regs;omega
   unfold getI;rw[List.getElem?_eq_getElem this];rfl
  have r4:z.regs[x.reg.toNat]?=some (z.regs[x.reg.toNat]'(by have:=hR.reg;have:=hT.regs;omega)):=List.getElem?_eq_getElem _
  have hop:x.op=1∨x.op=2∨x.op=3∨x.op=4∨x.op=5∨x.op=6∨x.op=7∨x.op=8∨x.op=9∨x.op=10:=by have:=hR.op;omega
  by_cases hbe:y.buf=[]
  ·have b0:((0:Int)<(y.buf.length:Int))=False:=by rw[hbe];simp
   rw[if_neg (fun h=>h.1 hbe)]
   rcases hop with h | h | h | h | h | h | h | h | h | h
   ·rw[if_neg (by omega),if_neg (by omega),if_neg (by omega)]
    simp +decide only[go_sem,nT,nA,nS,nM,nB,reduceIte,reduceCtorEq,hx,hc2,hm',hlv,hx2,hst2,List.length_set,hpt,hc3,hk,hc4,hz,h,List.map_set,List.set_set,b0]
    refine HW.mixed 100 10 (6,0) [9] follows (by kernel_rfl) (by decide) ?_
    simp +decide only[go_sem,nT,nA,nS,nM,nB,reduceIte,reduceCtorEq,hx,hc2,hm',hlv,hx2,hst2,List.length_set,hpt,hc3,hk,hc4,hz,h,List.map_set,List.set_set,b0]
    refine GQ.done ?_
    simp +decide only[go_sem,nT,nA,nS,nM,nB,reduceIte,reduceCtorEq,hx,hc2,hm',hlv,hx2,hst2,List.length_set,hpt,hc3,hk,hc4,hz,h,List.map_set,List.set_set,b0]
   ·rw[if_pos h]
    obtain ⟨e1,e2⟩:=hj2 h
    simp +decide only[go_sem,nT,nA,nS,nM,nB,reduceIte,reduceCtorEq,hx,hc2,hm',hlv,hx2,hst2,List.length_set,hpt,hc3,hk,hc4,hz,h,List.map_set,List.set_set,b0]
    refine HW.mixed 100 10 (6,0) [9] follows (by kernel_rfl) (by decide) ?_
    simp +decide only[go_sem,nT,nA,nS,nM,nB,reduceIte,reduceCtorEq,hx,hc2,hm',hlv,hx2,hst2,List.length_set,hpt,hc3,hk,hc4,hz,h,List.map_set,List.set_set,b0]
    refine HW.ghost (Ghost.open 5 t 1) ?_
    simp +decide only[go_sem,nT,nA,nS,nM,nB,reduceIte,reduceCtorEq,hx,hc2,hm',hlv,hx2,hst2,List.length_set,hpt,hc3,hk,hc4,hz,h,List.map_set,List.set_set,b0]
    refine HW.mixed 120 18 (4,10) [17,2017,1000,1001,1002,1003,1004,1005,1006,1007,1008,1009,1010,1011,1016] follows (by kernel_rfl) (by decide) ?_
    simp +decide only[go_sem,nT,nA,nS,nM,nB,reduceIte,reduceCtorEq,hx,hc2,hm',hlv,hx2,hst2,List.length_set,hpt,hc3,hk,hc4,hz,h,List.map_set,List.set_set,b0,r1,r2,r4]
    refine zOF (zUW y.buf s.mem x.loc (by omega)) rfl rfl ?_
    simp +decide only[go_sem,nT,nA,nS,nM,nB,reduceIte,reduceCtorEq,hx,hc2,hm',hlv,hx2,hst2,List.length_set,hpt,hc3,hk,hc4,hz,h,List.map_set,List.set_set,b0,r1,r2,r4]
    refine GQ.step (Ghost.absorb 5 t 1) ?_
    simp +decide only[go_sem,nT,nA,nS,nM,nB,reduceIte,reduceCtorEq,hx,hc2,hm',hlv,hx2,hst2,List.length_set,hpt,hc3,hk,hc4,hz,h,List.map_set,List.set_set,b0,r1,r2,r4]
    refine GQ.done ?_
    simp +decide only[go_sem,nT,nA,nS,nM,nB,reduceIte,reduceCtorEq,hx,hc2,hm',hlv,hx2,hst2,List.length_set,hpt,hc3,hk,hc4,hz,h,List.map_set,List.set_set,b0,r1,r2,r4]
    rw[e1,e2]
    simp only[setI,List.set_set]
   ·rw[if_neg (by omega),if_pos h]
    simp +decide only[go_sem,nT,nA,nS,nM,nB,reduceIte,reduceCtorEq,hx,hc2,hm',hlv,hx2,hst2,List.length_set,hpt,hc3,hk,hc4,hz,h,List.map_set,List.set_set,b0]
    refine HW.mixed 100 10 (6,0) [9] follows (by kernel_rfl) (by decide) ?_
    simp +decide only[go_sem,nT,nA,nS,nM,nB,reduceIte,reduceCtorEq,hx,hc2,hm',hlv,hx2,hst2,List.length_set,hpt,hc3,hk,hc4,hz,h,List.map_set,List.set_set,b0]
    refine HW.mixed 120 9 (9,0) [] follows (by kernel_rfl) (by decide) ?_
    simp +decide only[go_sem,nT,nA,nS,nM,nB,reduceIte,reduceCtorEq,hx,hc2,hm',hlv,hx2,hst2,List.length_set,hpt,hc3,hk,hc4,hz,h,List.map_set,List.set_set,b0,r1,r2y,r3]
    refine ⟨_,zWF p s ⟨k,y.regs,y.eq,y.buf⟩ z ⟨3,x.reg,x.loc,x.n,x.to⟩ m' t x.loc (getI y.regs x.reg) ht hml hyb hm',?_⟩
    rintro r H' ⟨rfl,rfl⟩ -
    simp +decide only[go_sem,nT,nA,nS,nM,nB,reduceIte,reduceCtorEq,hx,hc2,hm',hlv,hx2,hst2,List.length_set,hpt,hc3,hk,hc4,hz,h,List.map_set,List.set_set,b0,r1,r2y,r3]
    refine GQ.done ?_
    simp +decide only[go_sem,nT,nA,nS,nM,nB,reduceIte,reduceCtorEq,hx,hc2,hm',hlv,hx2,hst2,List.length_set,hpt,hc3,hk,hc4,hz,h,List.map_set,List.set_set,b0,r1,r2y,r3]
   ·rw[if_neg (by omega),if_neg (by omega),if_pos h]
    simp +decide only[go_sem,nT,nA,nS,nM,nB,reduceIte,reduceCtorEq,hx,hc2,hm',hlv,hx2,hst2,List.length_set,hpt,hc3,hk,hc4,hz,h,List.map_set,List.set_set,b0]
    refine HW.mixed 100 10 (6,0) [9] follows (by kernel_rfl) (by decide) ?_
    simp +decide only[go_sem,nT,nA,nS,nM,nB,reduceIte,reduceCtorEq,hx,hc2,hm',hlv,hx2,hst2,List.length_set,hpt,hc3,hk,hc4,hz,h,List.map_set,List.set_set,b0]
    refine ⟨_,zWF p s ⟨k,y.regs,y.eq,y.buf⟩ z ⟨4,x.reg,x.loc,x.n,x.to⟩ m' t x.loc x.n ht hml hyb hm',?_⟩
    rintro r H' ⟨rfl,rfl⟩ -
    simp +decide only[go_sem,nT,nA,nS,nM,nB,reduceIte,reduceCtorEq,hx,hc2,hm',hlv,hx2,hst2,List.length_set,hpt,hc3,hk,hc4,hz,h,List.map_set,List.set_set,b0,r1,r2y,r3]
    refine GQ.done ?_
    simp +decide only[go_sem,nT,nA,nS,nM,nB,reduceIte,reduceCtorEq,hx,hc2,hm',hlv,hx2,hst2,List.length_set,hpt,hc3,hk,hc4,hz,h,List.map_set,List.set_set,b0,r1,r2y,r3]
   ·rw[if_neg (by omega),if_neg (by omega),if_neg (by omega)]
    simp +decide only[go_sem,nT,nA,nS,nM,nB,reduceIte,reduceCtorEq,hx,hc2,hm',hlv,hx2,hst2,List.length_set,hpt,hc3,hk,hc4,hz,h,List.map_set,List.set_set,b0]
    refine HW.mixed 100 10 (6,0) [9] follows (by kernel_rfl) (by decide) ?_
    simp +decide only[go_sem,nT,nA,nS,nM,nB,reduceIte,reduceCtorEq,hx,hc2,hm',hlv,hx2,hst2,List.length_set,hpt,hc3,hk,hc4,hz,h,List.map_set,List.set_set,b0]
    refine GQ.done ?_
    simp +decide only[go_sem,nT,nA,nS,nM,nB,reduceIte,reduceCtorEq,hx,hc2,hm',hlv,hx2,hst2,List.length_set,hpt,hc3,hk,hc4,hz,h,List.map_set,List.set_set,b0]
   ·rw[if_neg (by omega),if_neg (by omega),if_neg (by omega)]
    simp +decide only[go_sem,nT,nA,nS,nM,nB,reduceIte,reduceCtorEq,hx,hc2,hm',hlv,hx2,hst2,List.length_set,hpt,hc3,hk,hc4,hz,h,List.map_set,List.set_set,b0]
    refine HW.mixed 100 10 (6,0) [9] follows (by kernel_rfl) (by decide) ?_
    simp +decide only[go_sem,nT,nA,nS,nM,nB,reduceIte,reduceCtorEq,hx,hc2,hm',hlv,hx2,hst2,List.length_set,hpt,hc3,hk,hc4,hz,h,List.map_set,List.set_set,b0]
    refine GQ.done ?_
    simp +decide only[go_sem,nT,nA,nS,nM,nB,reduceIte,reduceCtorEq,hx,hc2,hm',hlv,hx2,hst2,List.length_set,hpt,hc3,hk,hc4,hz,h,List.map_set,List.set_set,b0]
   ·rw[if_neg (by omega),if_neg (by omega),if_neg (by omega)]
    simp +decide only[go_sem,nT,nA,nS,nM,nB,reduceIte,reduceCtorEq,hx,hc2,hm',hlv,hx2,hst2,List.length_set,hpt,hc3,hk,hc4,hz,h,List.map_set,List.set_set,b0]
    refine HW.mixed 100 10 (6,0) [9] follows (by kernel_rfl) (by decide) ?_
    simp +decide only[go_sem,nT,nA,nS,nM,nB,reduceIte,reduceCtorEq,hx,hc2,hm',hlv,hx2,hst2,List.length_set,hpt,hc3,hk,hc4,hz,h,List.map_set,List.set_set,b0]
    refine GQ.done ?_
    simp +decide only[go_sem,nT,nA,nS,nM,nB,reduceIte,reduceCtorEq,hx,hc2,hm',hlv,hx2,hst2,List.length_set,hpt,hc3,hk,hc4,hz,h,List.map_set,List.set_set,b0]
   ·rw[if_neg (by omega),if_neg (by omega),if_neg (by omega)]
    simp +decide only[go_sem,nT,nA,nS,nM,nB,reduceIte,reduceCtorEq,hx,hc2,hm',hlv,hx2,hst2,List.length_set,hpt,hc3,hk,hc4,hz,h,List.map_set,List.set_set,b0]
    refine HW.mixed 100 10 (6,0) [9] follows (by kernel_rfl) (by decide) ?_
    simp +decide only[go_sem,nT,nA,nS,nM,nB,reduceIte,reduceCtorEq,hx,hc2,hm',hlv,hx2,hst2,List.length_set,hpt,hc3,hk,hc4,hz,h,List.map_set,List.set_set,b0]
    refine GQ.done ?_
    simp +decide only[go_sem,nT,nA,nS,nM,nB,reduceIte,reduceCtorEq,hx,hc2,hm',hlv,hx2,hst2,List.length_set,hpt,hc3,hk,hc4,hz,h,List.map_set,List.set_set,b0]
   ·rw[if_neg (by omega),if_neg (by omega),if_neg (by omega)]
    simp +decide only[go_sem,nT,nA,nS,nM,nB,reduceIte,reduceCtorEq,hx,hc2,hm',hlv,hx2,hst2,List.length_set,hpt,hc3,hk,hc4,hz,h,List.map_set,List.set_set,b0]
    refine HW.mixed 100 10 (6,0) [9] follows (by kernel_rfl) (by decide) ?_
    simp +decide only[go_sem,nT,nA,nS,nM,nB,reduceIte,reduceCtorEq,hx,hc2,hm',hlv,hx2,hst2,List.length_set,hpt,hc3,hk,hc4,hz,h,List.map_set,List.set_set,b0]
    refine GQ.done ?_
    simp +decide only[go_sem,nT,nA,nS,nM,nB,reduceIte,reduceCtorEq,hx,hc2,hm',hlv,hx2,hst2,List.length_set,hpt,hc3,hk,hc4,hz,h,List.map_set,List.set_set,b0]
   ·rw[if_neg (by omega),if_neg (by omega),if_neg (by omega)]
    simp +decide only[go_sem,nT,nA,nS,nM,nB,reduceIte,reduceCtorEq,hx,hc2,hm',hlv,hx2,hst2,List.length_set,hpt,hc3,hk,hc4,hz,h,List.map_set,List.set_set,b0]
    refine HW.mixed 100 10 (6,0) [9] follows (by kernel_rfl) (by decide) ?_
    simp +decide only[go_sem,nT,nA,nS,nM,nB,reduceIte,reduceCtorEq,hx,hc2,hm',hlv,hx2,hst2,List.length_set,hpt,hc3,hk,hc4,hz,h,List.map_set,List.set_set,b0]
    refine GQ.done ?_
    simp +decide only[go_sem,nT,nA,nS,nM,nB,reduceIte,reduceCtorEq,hx,hc2,hm',hlv,hx2,hst2,List.length_set,hpt,hc3,hk,hc4,hz,h,List.map_set,List.set_set,b0]
  ·have b0:((0:Int)<(y.buf.length:Int))=True:=by
    have:=List.length_pos_iff.mpr hbe
    simp only[eq_iff_iff,iff_true];omega
   rcases hop with h | h | h | h | h | h | h | h | h | h
   ·rw[if_neg (fun h'=>by have:=h'.2;omega)]
    rw[if_neg (by omega),if_neg (by omega),if_neg (by omega)]
    simp +decide only[go_sem,nT,nA,nS,nM,nB,reduceIte,reduceCtorEq,hx,hc2,hm',hlv,hx2,hst2,List.length_set,hpt,hc3,hk,hc4,hz,h,List.map_set,List.set_set,b0]
    refine HW.mixed 100 10 (6,0) [9] follows (by kernel_rfl) (by decide) ?_
    simp +decide only[go_sem,nT,nA,nS,nM,nB,reduceIte,reduceCtorEq,hx,hc2,hm',hlv,hx2,hst2,List.length_set,hpt,hc3,hk,hc4,hz,h,List.map_set,List.set_set,b0]
    refine GQ.done ?_
    simp +decide only[go_sem,nT,nA,nS,nM,nB,reduceIte,reduceCtorEq,hx,hc2,hm',hlv,hx2,hst2,List.length_set,hpt,hc3,hk,hc4,hz,h,List.map_set,List.set_set,b0]
   ·rw[if_neg (fun h'=>by have:=h'.2;omega)]
    rw[if_pos h]
    obtain ⟨e1,e2⟩:=hj2 h
    simp +decide only[go_sem,nT,nA,nS,nM,nB,reduceIte,reduceCtorEq,hx,hc2,hm',hlv,hx2,hst2,List.length_set,hpt,hc3,hk,hc4,hz,h,List.map_set,List.set_set,b0]
    refine HW.mixed 100 10 (6,0) [9] follows (by kernel_rfl) (by decide) ?_
    simp +decide only[go_sem,nT,nA,nS,nM,nB,reduceIte,reduceCtorEq,hx,hc2,hm',hlv,hx2,hst2,List.length_set,hpt,hc3,hk,hc4,hz,h,List.map_set,List.set_set,b0]
    refine HW.ghost (Ghost.open 5 t 1) ?_
    simp +decide only[go_sem,nT,nA,nS,nM,nB,reduceIte,reduceCtorEq,hx,hc2,hm',hlv,hx2,hst2,List.length_set,hpt,hc3,hk,hc4,hz,h,List.map_set,List.set_set,b0]
    refine HW.mixed 120 18 (4,10) [17,2017,1000,1001,1002,1003,1004,1005,1006,1007,1008,1009,1010,1011,1016] follows (by kernel_rfl) (by decide) ?_
    simp +decide only[go_sem,nT,nA,nS,nM,nB,reduceIte,reduceCtorEq,hx,hc2,hm',hlv,hx2,hst2,List.length_set,hpt,hc3,hk,hc4,hz,h,List.map_set,List.set_set,b0,r1,r2,r4]
    refine zOF (zUW y.buf s.mem x.loc (by omega)) rfl rfl ?_
    simp +decide only[go_sem,nT,nA,nS,nM,nB,reduceIte,reduceCtorEq,hx,hc2,hm',hlv,hx2,hst2,List.length_set,hpt,hc3,hk,hc4,hz,h,List.map_set,List.set_set,b0,r1,r2,r4]
    refine GQ.step (Ghost.absorb 5 t 1) ?_
    simp +decide only[go_sem,nT,nA,nS,nM,nB,reduceIte,reduceCtorEq,hx,hc2,hm',hlv,hx2,hst2,List.length_set,hpt,hc3,hk,hc4,hz,h,List.map_set,List.set_set,b0,r1,r2,r4]
    refine GQ.done ?_
    simp +decide only[go_sem,nT,nA,nS,nM,nB,reduceIte,reduceCtorEq,hx,hc2,hm',hlv,hx2,hst2,List.length_set,hpt,hc3,hk,hc4,hz,h,List.map_set,List.set_set,b0,r1,r2,r4]
    rw[e1,e2]
    simp only[setI,List.set_set]
   ·rw[if_neg (fun h'=>by have:=h'.2;omega)]
    rw[if_neg (by omega),if_pos h]
    simp +decide only[go_sem,nT,nA,nS,nM,nB,reduceIte,reduceCtorEq,hx,hc2,hm',hlv,hx2,hst2,List.length_set,hpt,hc3,hk,hc4,hz,h,List.map_set,List.set_set,b0]
    refine HW.mixed 100 10 (6,0) [9] follows (by kernel_rfl) (by decide) ?_
    simp +decide only[go_sem,nT,nA,nS,nM,nB,reduceIte,reduceCtorEq,hx,hc2,hm',hlv,hx2,hst2,List.length_set,hpt,hc3,hk,hc4,hz,h,List.map_set,List.set_set,b0]
    refine HW.mixed 120 9 (9,0) [] follows (by kernel_rfl) (by decide) ?_
    simp +decide only[go_sem,nT,nA,nS,nM,nB,reduceIte,reduceCtorEq,hx,hc2,hm',hlv,hx2,hst2,List.length_set,hpt,hc3,hk,hc4,hz,h,List.map_set,List.set_set,b0,r1,r2y,r3]
    refine ⟨_,zWF p s ⟨k,y.regs,y.eq,y.buf⟩ z ⟨3,x.reg,x.loc,x.n,x.to⟩ m' t x.loc (getI y.regs x.reg) ht hml hyb hm',?_⟩
    rintro r H' ⟨rfl,rfl⟩ -
    simp +decide only[go_sem,nT,nA,nS,nM,nB,reduceIte,reduceCtorEq,hx,hc2,hm',hlv,hx2,hst2,List.length_set,hpt,hc3,hk,hc4,hz,h,List.map_set,List.set_set,b0,r1,r2y,r3]
    refine GQ.done ?_
    simp +decide only[go_sem,nT,nA,nS,nM,nB,reduceIte,reduceCtorEq,hx,hc2,hm',hlv,hx2,hst2,List.length_set,hpt,hc3,hk,hc4,hz,h,List.map_set,List.set_set,b0,r1,r2y,r3]
   ·rw[if_neg (fun h'=>by have:=h'.2;omega)]
    rw[if_neg (by omega),if_neg (by omega),if_pos h]
    simp +decide only[go_sem,nT,nA,nS,nM,nB,reduceIte,reduceCtorEq,hx,hc2,hm',hlv,hx2,hst2,List.length_set,hpt,hc3,hk,hc4,hz,h,List.map_set,List.set_set,b0]
    refine HW.mixed 100 10 (6,0) [9] follows (by kernel_rfl) (by decide) ?_
    simp +decide only[go_sem,nT,nA,nS,nM,nB,reduceIte,reduceCtorEq,hx,hc2,hm',hlv,hx2,hst2,List.length_set,hpt,hc3,hk,hc4,hz,h,List.map_set,List.set_set,b0]
    refine ⟨_,zWF p s ⟨k,y.regs,y.eq,y.buf⟩ z ⟨4,x.reg,x.loc,x.n,x.to⟩ m' t x.loc x.n ht hml hyb hm',?_⟩
    rintro r H' ⟨rfl,rfl⟩ -
    simp +decide only[go_sem,nT,nA,nS,nM,nB,reduceIte,reduceCtorEq,hx,hc2,hm',hlv,hx2,hst2,List.length_set,hpt,hc3,hk,hc4,hz,h,List.map_set,List.set_set,b0,r1,r2y,r3]
    refine GQ.done ?_
    simp +decide only[go_sem,nT,nA,nS,nM,nB,reduceIte,reduceCtorEq,hx,hc2,hm',hlv,hx2,hst2,List.length_set,hpt,hc3,hk,hc4,hz,h,List.map_set,List.set_set,b0,r1,r2y,r3]
   ·rw[if_pos ⟨hbe,by omega⟩]
    simp +decide only[go_sem,nT,nA,nS,nM,nB,reduceIte,reduceCtorEq,hx,hc2,hm',hlv,hx2,hst2,List.length_set,hpt,hc3,hk,hc4,hz,h,List.map_set,List.set_set,b0]
    refine HW.mixed 100 10 (6,0) [9] follows (by kernel_rfl) (by decide) ?_
    simp +decide only[go_sem,nT,nA,nS,nM,nB,reduceIte,reduceCtorEq,hx,hc2,hm',hlv,hx2,hst2,List.length_set,hpt,hc3,hk,hc4,hz,h,List.map_set,List.set_set,b0]
    refine zO 3 (zJI s hml htl hrl) (by simp only[go_sem]) (by simp only[go_sem]) ?_
    simp +decide only[go_sem,nT,nA,nS,nM,nB,reduceIte,reduceCtorEq,hx,hc2,hm',hlv,hx2,hst2,List.length_set,hpt,hc3,hk,hc4,hz,h,List.map_set,List.set_set,b0]
    refine GQ.done ?_
    simp +decide only[go_sem,nT,nA,nS,nM,nB,reduceIte,reduceCtorEq,hx,hc2,hm',hlv,hx2,hst2,List.length_set,hpt,hc3,hk,hc4,hz,h,List.map_set,List.set_set,b0]
   ·rw[if_pos ⟨hbe,by omega⟩]
    simp +decide only[go_sem,nT,nA,nS,nM,nB,reduceIte,reduceCtorEq,hx,hc2,hm',hlv,hx2,hst2,List.length_set,hpt,hc3,hk,hc4,hz,h,List.map_set,List.set_set,b0]
    refine HW.mixed 100 10 (6,0) [9] follows (by kernel_rfl) (by decide) ?_
    simp +decide only[go_sem,nT,nA,nS,nM,nB,reduceIte,reduceCtorEq,hx,hc2,hm',hlv,hx2,hst2,List.length_set,hpt,hc3,hk,hc4,hz,h,List.map_set,List.set_set,b0]
    refine zO 3 (zJI s hml htl hrl) (by simp only[go_sem]) (by simp only[go_sem]) ?_
    simp +decide only[go_sem,nT,nA,nS,nM,nB,reduceIte,reduceCtorEq,hx,hc2,hm',hlv,hx2,hst2,List.length_set,hpt,hc3,hk,hc4,hz,h,List.map_set,List.set_set,b0]
    refine GQ.done ?_
    simp +decide only[go_sem,nT,nA,nS,nM,nB,reduceIte,reduceCtorEq,hx,hc2,hm',hlv,hx2,hst2,List.length_set,hpt,hc3,hk,hc4,hz,h,List.map_set,List.set_set,b0]
   ·rw[if_neg (fun h'=>by have:=h'.2;omega)]
    rw[if_neg (by omega),if_neg (by omega),if_neg (by omega)]
    simp +decide only[go_sem,nT,nA,nS,nM,nB,reduceIte,reduceCtorEq,hx,hc2,hm',hlv,hx2,hst2,List.length_set,hpt,hc3,hk,hc4,hz,h,List.map_set,List.set_set,b0]
    refine HW.mixed 100 10 (6,0) [9] follows (by kernel_rfl) (by decide) ?_
    simp +decide only[go_sem,nT,nA,nS,nM,nB,reduceIte,reduceCtorEq,hx,hc2,hm',hlv,hx2,hst2,List.length_set,hpt,hc3,hk,hc4,hz,h,List.map_set,List.set_set,b0]
    refine GQ.done ?_
    simp +decide only[go_sem,nT,nA,nS,nM,nB,reduceIte,reduceCtorEq,hx,hc2,hm',hlv,hx2,hst2,List.length_set,hpt,hc3,hk,hc4,hz,h,List.map_set,List.set_set,b0]
   ·rw[if_neg (fun h'=>by have:=h'.2;omega)]
    rw[if_neg (by omega),if_neg (by omega),if_neg (by omega)]
    simp +decide only[go_sem,nT,nA,nS,nM,nB,reduceIte,reduceCtorEq,hx,hc2,hm',hlv,hx2,hst2,List.length_set,hpt,hc3,hk,hc4,hz,h,List.map_set,List.set_set,b0]
    refine HW.mixed 100 10 (6,0) [9] follows (by kernel_rfl) (by decide) ?_
    simp +decide only[go_sem,nT,nA,nS,nM,nB,reduceIte,reduceCtorEq,hx,hc2,hm',hlv,hx2,hst2,List.length_set,hpt,hc3,hk,hc4,hz,h,List.map_set,List.set_set,b0]
    refine GQ.done ?_
    simp +decide only[go_sem,nT,nA,nS,nM,nB,reduceIte,reduceCtorEq,hx,hc2,hm',hlv,hx2,hst2,List.length_set,hpt,hc3,hk,hc4,hz,h,List.map_set,List.set_set,b0]
   ·rw[if_neg (fun h'=>by have:=h'.2;omega)]
    rw[if_neg (by omega),if_neg (by omega),if_neg (by omega)]
    simp +decide only[go_sem,nT,nA,nS,nM,nB,reduceIte,reduceCtorEq,hx,hc2,hm',hlv,hx2,hst2,List.length_set,hpt,hc3,hk,hc4,hz,h,List.map_set,List.set_set,b0]
    refine HW.mixed 100 10 (6,0) [9] follows (by kernel_rfl) (by decide) ?_
    simp +decide only[go_sem,nT,nA,nS,nM,nB,reduceIte,reduceCtorEq,hx,hc2,hm',hlv,hx2,hst2,List.length_set,hpt,hc3,hk,hc4,hz,h,List.map_set,List.set_set,b0]
    refine GQ.done ?_
    simp +decide only[go_sem,nT,nA,nS,nM,nB,reduceIte,reduceCtorEq,hx,hc2,hm',hlv,hx2,hst2,List.length_set,hpt,hc3,hk,hc4,hz,h,List.map_set,List.set_set,b0]
   ·rw[if_neg (fun h'=>by have:=h'.2;omega)]
    rw[if_neg (by omega),if_neg (by omega),if_neg (by omega)]
    simp +decide only[go_sem,nT,nA,nS,nM,nB,reduceIte,reduceCtorEq,hx,hc2,hm',hlv,hx2,hst2,List.length_set,hpt,hc3,hk,hc4,hz,h,List.map_set,List.set_set,b0]
    refine HW.mixed 100 10 (6,0) [9] follows (by kernel_rfl) (by decide) ?_
    simp +decide only[go_sem,nT,nA,nS,nM,nB,reduceIte,reduceCtorEq,hx,hc2,hm',hlv,hx2,hst2,List.length_set,hpt,hc3,hk,hc4,hz,h,List.map_set,List.set_set,b0]
    refine GQ.done ?_
    simp +decide only[go_sem,nT,nA,nS,nM,nB,reduceIte,reduceCtorEq,hx,hc2,hm',hlv,hx2,hst2,List.length_set,hpt,hc3,hk,hc4,hz,h,List.map_set,List.set_set,b0]
end Go.Proofs.YtoknohandclcbaaGreat
namespace Go.Proofs.YtoknohandclcbaaGreat
open Go.RowKit
set_option maxRecDepth 8000
set_option maxHeartbeats 4000000 in
theorem zQu (p:Prg) (s:Sta) (k:Pck) (hp:RightP p) (hs:RightS p s) (hb:∀t∈s.ths,t.buf.length≤100000):HFn Tryz.prog 94 [prgH p,staH s,pckH k] (.tu [staO (zAA p s k).1,.v (.bool (zAA p s k).2)]):=by
 refine zU (fn:=Tryz.f94) 38 [.cell 6 79,.tmp 7] (by kernel_rfl) rfl rfl (by kernel_rfl) (HW.weaken (Q':=fun e=>GQ _ _ (endC _ _ _ _ e)) (HW.run 400 (by kernel_rfl) ?_) (fun _ _ _ h=>h))
 obtain ⟨th,dr⟩:=k
 have hml:s.mem.length≤100000:=by have:=hs.mem;have:=hp.init;omega
 have htl:s.ths.length≤1000:=by have:=hs.ths;have:=hp.thr;omega
 have hrl:∀t∈s.ths,t.regs.length≤100000∧t.buf.length≤100000:=fun t ht=>by
  obtain ⟨i,hi⟩:=List.getElem?_of_mem ht
  have hlt:=(List.getElem?_eq_some_iff.1 hi).1
  have:=(hs.t i _ t (List.getElem?_eq_getElem (show i<p.thr.length by rw[←hs.ths];exact hlt)) hi).regs
  exact ⟨by omega,hb t ht⟩
 by_cases c1:0≤th
 case neg =>
  have c1' : (th<0)=True:=by simp only[eq_iff_iff,iff_true];omega
  have e:zAA p s ⟨th,dr⟩=(s,false):=if_pos (fun h=>c1 h.1)
  rw[e]
  simp +decide only[go_sem,nT,nA,nS,nM,nB,reduceIte,reduceCtorEq,c1']
  refine zO 3 (zJI s hml htl hrl) (by simp only[go_sem]) (by simp only[go_sem]) ?_
  simp +decide only[go_sem,nT,nA,nS,nM,nB,reduceIte,reduceCtorEq,c1']
  refine GQ.done ?_
  simp +decide only[go_sem,nT,nA,nS,nM,nB,reduceIte,reduceCtorEq]
 have c1' : (th<0)=False:=by simp only[eq_iff_iff,iff_false];omega
 by_cases c2:th<s.ths.length
 case neg =>
  have c2' : ((s.ths.length:Int)≤th)=True:=by simp only[eq_iff_iff,iff_true];omega
  have e:zAA p s ⟨th,dr⟩=(s,false):=if_pos (fun h=>c2 h.2)
  rw[e]
  simp +decide only[go_sem,nT,nA,nS,nM,nB,reduceIte,reduceCtorEq,c1',c2']
  refine zO 3 (zJI s hml htl hrl) (by simp only[go_sem]) (by simp only[go_sem]) ?_
  simp +decide only[go_sem,nT,nA,nS,nM,nB,reduceIte,reduceCtorEq,c1',c2']
  refine GQ.done ?_
  simp +decide only[go_sem,nT,nA,nS,nM,nB,reduceIte,reduceCtorEq]
 have c2' : ((s.ths.length:Int)≤th)=False:=by simp only[eq_iff_iff,iff_false];omega
 obtain ⟨t,rfl⟩:∃t:Nat,th=t:=⟨th.toNat,by omega⟩
 have ht:t<s.ths.length:=by omega
 have hx:s.ths[t]?=some s.ths[t]:=List.getElem?_eq_getElem ht
 have htA:thAt s (t:Int)=s.ths[t]:=by unfold thAt;rw[Int.toNat_natCast,hx];rfl
 cases dr with
 | true =>
  have e:zAA p s ⟨t,true⟩=if (zA5 (s.ths[t]).buf s.mem).2.2=true then (zBT s t (zA5 (s.ths[t]).buf s.mem).2.1 { s.ths[t] with buf:=(zA5 (s.ths[t]).buf s.mem).1 },true) else (s,false):=by
   unfold zAA
   rw[if_neg (fun h=>h ⟨c1,c2⟩),if_pos rfl,htA]
  rw[e]
  have hD:=zUz s t _ hx hml htl hrl
  generalize s.ths[t]=y at hx hD⊢
  simp +decide only[go_sem,nT,nA,nS,nM,nB,reduceIte,reduceCtorEq,c1',c2']
  cases hd:(zA5 y.buf s.mem).2.2 with
  | true =>
   rw[hd,if_pos rfl] at hD
   refine zO 3 (hD) (by simp only[go_sem]) (by simp only[go_sem]) ?_
   rw[if_pos rfl]
   simp +decide only[go_sem,nT,nA,nS,nM,nB,reduceIte,reduceCtorEq,c1',c2']
   refine GQ.done ?_
   simp +decide only[go_sem,nT,nA,nS,nM,nB,reduceIte,reduceCtorEq]
  | false =>
   rw[hd,if_neg (by simp)] at hD
   refine zO 3 (hD) (by simp only[go_sem]) (by simp only[go_sem]) ?_
   rw[if_neg (by simp)]
   simp +decide only[go_sem,nT,nA,nS,nM,nB,reduceIte,reduceCtorEq,c1',c2']
   refine GQ.done ?_
   simp +decide only[go_sem,nT,nA,nS,nM,nB,reduceIte,reduceCtorEq]
 | false =>
  simp +decide only[go_sem,nT,nA,nS,nM,nB,reduceIte,reduceCtorEq,c1',c2']
  refine zO 3 (zY6 p s t _ hx hp hs hb) (by simp only[go_sem]) (by simp only[go_sem]) ?_
  simp +decide only[go_sem,nT,nA,nS,nM,nB,reduceIte,reduceCtorEq,c1',c2']
  refine GQ.done ?_
  simp +decide only[go_sem,nT,nA,nS,nM,nB,reduceIte,reduceCtorEq]
end Go.Proofs.YtoknohandclcbaaGreat
namespace Go.Proofs.YtoknohandclcbaaGreat
open Go.RowKit
inductive Plan where
 | leaf
 | stop
 | light (i:Nat) (p:Plan)
 | heavy (j:Nat) (keep:List Nat) (p q:Plan)
def zGJ:Op→Bool
 | .call { callee:=.value _,args:=_,argTypes:=_ }=>false
 | .call { callee:=.invoke _ _,args:=_,argTypes:=_ }=>false
 | _=>true
def zOG (all:List Oper) (i:Nat):Bool:=match all[i]? with | some o=>zGJ o.op | none=>false
def dm (Ls Ss:List Nat) (k:Nat):Bool:=Ls.contains k || Ss.contains k
def Plan.chk (all:List Oper) (bs:List Nat):Plan→List Nat→List Nat→List Nat→Bool
 | .leaf,Ls,Ss,alts=>alts.isEmpty && (List.range all.length).all fun i=>dm Ls Ss i
 | .stop,Ls,Ss,alts=>!alts.isEmpty && (List.range all.length).all fun i=>dm Ls Ss i || alts.contains i || (List.range all.length).any fun k=>!dm Ls Ss k && zAd bs k i
 | .light i p,Ls,Ss,alts=>alts.isEmpty && decide (i<all.length) && !dm Ls Ss i && zOG all i && ((List.range all.length).all fun k=>!zAd bs k i || dm Ls Ss k) && p.chk all bs (i::Ls) Ss []
 | .heavy j keep p q,Ls,Ss,alts=>decide (j<all.length) && !dm Ls Ss j && ((List.range all.length).all fun k=>!zAd bs k j || dm Ls Ss k) && (Ls.all fun i=>zAd bs i j || keep.contains i) && p.chk all bs Ls (j::Ss) [] && q.chk all bs Ls Ss (j::alts)
def idsV:HV→List Nat
 | .hd i _ _=>[i]
 | .pt i _ _ _=>[i]
 | _=>[]
def idsO (T:Nat→HV) (op:Op):List Nat :=
 if zBq op=true then [] else match op with
 | .buildSlice ..=>[]
 | op=>op.operands.toList.flatMap fun y=>idsV (hev T y)
def zFn (H H' : Heap):List Nat→Prop
 | []=>True
 | i::l=>getO H' i=getO H i∧zFn H H' l
def zGp (H H' : Heap) (ids:List Nat):Bool→Prop
 | true=>zFn H H' ids
 | false=>True
def zDW (keep:List Nat) (H H' : Heap):List (Nat×List Nat)→Prop
 | []=>True
 | e::rd=>zGp H H' e.2 (keep.contains e.1)∧zDW keep H H' rd
def nthO:List Oper→Nat→Option Oper
 | [],_=>none
 | o::_,0=>some o
 | _::l,i+1=>nthO l i
theorem zME:∀(l:List Oper) (i:Nat),nthO l i=l[i]?
 | [],_=>by simp[nthO]
 | o::l,0=>rfl
 | o::l,i+1=>by simp only[nthO,List.getElem?_cons_succ];exact zME l i
def atO (r:Option Oper) (f:Oper→Prop):Prop:=match r with | some o=>f o | none=>False
def zO6 (ids:List Nat) (f:List Nat→Prop):Prop:=f ids
def zO7 (H:Heap) (f:Heap→Prop):Prop:=f H
def exT (P:Program) (all:List Oper) (K:KS):Plan→List (Nat×List Nat)→KS
 | .leaf,_=>K
 | .stop,_=>fun _ _=>True
 | .light i p,rd=>fun T H=>atO (nthO all i) fun o=>zO6 (idsO T o.op) fun ids=>exGq (fun _ T' _=>exT P all K p ((i,ids)::rd) T' H) P all o [] [] T H
 | .heavy j keep p q,rd=>fun T H=>(atO (nthO all j) fun o=>exG (fun _ T' H'=>zO7 H' fun H'=>zDW keep H H' rd∧exT P all K p rd T' H') P all o [] [] T H)∧exT P all K q rd T H
section
variable {P:Program} {all:List Oper}
theorem zMH {N m:Nat} (hA:AnyOk N m all):∀(j i:Nat),j<all.length→zAd (befs all []) i j=true→i<j:=by
 intro j
 induction j using Nat.strongRecOn with
 | _ j ih =>
  intro i hj hm
  unfold zAd at hm
  obtain ⟨e,he,h1,h2⟩:=zGi all [] j _ (List.getElem?_eq_getElem hj) (by simpa using hm)
  have hlt:=hA.back j _ (List.getElem?_eq_getElem hj) e he h1
  rcases h2 with rfl | h2
  ·exact hlt
  ·have:=ih e.on hlt i (by omega) h2
   omega
theorem zR3 {S:Nat→Bool}:∀(l:List Oper) (xs xs' : List HV) (i:Nat) (T:Nat→HV),xs.length=xs'.length→(∀j,S (i+j)=true→xs[j]?=xs'[j]?)→runM S i l xs T=runM S i l xs' T
 | [],xs,xs',i,T,_,_=>by cases xs <;> cases xs' <;> rfl
 | o::l,[],xs',i,T,hl,_=>by
  obtain rfl:xs'=[]:=by cases xs' with | nil=>rfl | cons=>simp at hl
  rfl
 | o::l,x::xs,[],i,T,hl,_=>by simp at hl
 | o::l,x::xs,x'::xs',i,T,hl,h=>by
  simp only[runM]
  have e:(if S i=true then updO T o.dst x else T)=if S i=true then updO T o.dst x' else T:=by
   split
   ·rename_i hs
    have:=h 0 (by rw[Nat.add_zero];exact hs)
    simp only[List.getElem?_cons_zero,Option.some.injEq] at this
    rw[this]
   ·rfl
  rw[e]
  exact zR3 l xs xs' (i+1) _ (by simpa using hl) fun j hj=>by
   have:=h (j+1) (by rw[show i+(j+1)=i+1+j by omega];exact hj)
   simpa using this
def vals (n:Nat) (f:Nat→HV):List HV:=(List.range n).map f
theorem zIA {n j:Nat} {f:Nat→HV} (h:j<n):(vals n f)[j]?=some (f j):=by simp[vals,h]
theorem zFZ {n:Nat} {f:Nat→HV}:(vals n f).length=n:=by simp[vals]
def tvS (all:List Oper) (S:Nat→Bool) (f:Nat→HV) (T0:Nat→HV):Nat→HV:=runM S 0 all (vals all.length f) T0
variable {S S' : Nat→Bool} {f f' : Nat→HV} {T0:Nat→HV}
theorem zLZ (h:∀j,j<all.length→S j=true→f j=f' j):tvS all S f T0=tvS all S f' T0:=by
 unfold tvS
 refine zR3 all _ _ 0 T0 (by rw[zFZ,zFZ]) fun j hj=>?_
 rw[Nat.zero_add] at hj
 by_cases hl:j<all.length
 ·rw[zIA hl,zIA hl,h j hl hj]
 ·rw[List.getElem?_eq_none (by rw[zFZ];omega),List.getElem?_eq_none (by rw[zFZ];omega)]
theorem zYI {t:Nat} (h:∀(j:Nat) o,all[j]?=some o→o.dst=some t→S j=S' j):tvS all S f T0 t=tvS all S' f T0 t:=by
 unfold tvS
 refine zCB _ _ _ _ _ rfl fun j hj=>?_
 unfold zA4 at hj
 cases ho:all[j]? with
 | none=>rw[ho] at hj;cases hj
 | some o =>
  rw[ho] at hj
  rw[Nat.zero_add]
  exact h j o ho hj
theorem zL0 {j:Nat} {o:Oper} (ho:all[j]?=some o) (h1:S' j=true) (h2:S j=false) (h3:∀k,k≠j→S' k=S k) (h4:∀(k:Nat) ok,j<k→S k=true→all[k]?=some ok→∀t,o.dst=some t→ok.dst≠some t):tvS all S' f T0=updO (tvS all S f T0) o.dst (f j):=by
 have hl:=(List.getElem?_eq_some_iff.1 ho).1
 unfold tvS
 refine zCx all _ 0 j T0 o (f j) ho (zIA hl) (by rw[Nat.zero_add];exact h1) (by rw[Nat.zero_add];exact h2) (fun k hk=>h3 k (by omega)) fun k hk hS t ht hd=>?_
 unfold zA4 at hd
 cases hok:all[k]? with
 | none=>rw[hok] at hd;cases hd
 | some ok =>
  rw[hok] at hd
  exact h4 k ok hk (by rw[Nat.zero_add] at hS;exact hS) hok t ht hd
theorem zFm {H H' : Heap}:∀{l:List Nat},zFn H H' l→∀i∈l,getO H' i=getO H i
 | [],_,i,h=>by simp at h
 | j::l,hs,i,h=>by
  rcases List.mem_cons.1 h with rfl | h
  ·exact hs.1
  ·exact zFm hs.2 i h
theorem zGn {keep:List Nat} {H H' : Heap}:∀{rd:List (Nat×List Nat)},zDW keep H H' rd→∀e∈rd,keep.contains e.1=true→∀i∈e.2,getO H' i=getO H i
 | [],_,e,h=>by simp at h
 | a::rd,hs,e,h=>by
  rcases List.mem_cons.1 h with rfl | h
  ·intro hk
   have h1:=hs.1
   rw[hk] at h1
   exact zFm h1
  ·exact zGn hs.2 e h
theorem zWV {x:HV} {i:Nat} (h:nmed i x):i∈idsV x:=by
 cases x <;> simp only[nmed] at h <;> simp[idsV,h]
theorem zLT {T:Nat→HV} {H H' : Heap} {op:Op} {x:HV} (hn:zGJ op=true) (hs:∀i∈idsO T op,getO H' i=getO H i) (hc:zJF P T H op x):zJF P T H' op x:=by
 rcases hc with ⟨p,H0,hp,hr⟩ | ⟨f,args,tys,fid,caps,n,R,args',rfl,_⟩ | ⟨rv,name,args,tys,t,y,fid,n,R,args',rfl,_⟩ | ⟨t,len,parts,p,H0,rfl,hp,hr⟩
 ·have hR:RRel (ropQ P T H op) (ropQ P T H' op):=by
   by_cases hi:zBq op=true
   ·exact zH0 hi
   ·refine zN5 fun y hy id hid ob ho=>?_
    have:id∈idsO T op:=by
     unfold idsO
     rw[if_neg hi]
     split
     ·unfold ropQ at hr;cases hr
     ·exact List.mem_flatMap.2 ⟨y,hy,zWV hid⟩
    rw[hs id this];exact ho
  obtain ⟨p',H0',hp',hr'⟩:=hR p x H0 hp hr
  exact .inl ⟨p',H0',hp',hr'⟩
 ·simp[zGJ] at hn
 ·simp[zGJ] at hn
 ·exact .inr (.inr (.inr ⟨t,len,parts,p,H',rfl,hp,zBC (fun _ _=>rfl) hr⟩))
theorem zUr {T:Nat→HV} {H H' : Heap} {o:Oper} {x:HV} (hn:zGJ o.op=true) (hs:∀i∈idsO T o.op,getO H' i=getO H i) (hc:zFB P all T H o x):zFB P all T H' o x:=by
 unfold zFB at hc⊢
 split at hc
 ·exact zLT hn hs hc
 ·obtain ⟨t,ht,⟨c,h1,h2,h3⟩ | hc⟩:=hc
  ·exact ⟨t,ht,.inl ⟨c,h1,fun e=>zLT hn hs (h2 e),h3⟩⟩
  ·exact ⟨t,ht,.inr hc⟩
theorem zPa {T T' : Nat→HV} {op:Op} (h:∀y∈op.operands.toList,hev T y=hev T' y):idsO T op=idsO T' op:=by
 unfold idsO
 split
 ·rfl
 ·split
  ·rfl
  ·have:∀(l:List Operand),(∀y∈l,hev T y=hev T' y)→l.flatMap (fun y=>idsV (hev T y))=l.flatMap fun y=>idsV (hev T' y):=by
    intro l
    induction l with
    | nil=>intro _;rfl
    | cons a l ih =>
     intro h
     simp only[List.flatMap_cons]
     rw[h a (by simp),ih fun y hy=>h y (by simp[hy])]
   exact this _ h
def zYJ (T T' : Nat→HV) (d:Option Nat) (kk:KS):KS:=fun T1 H1=>∃x,T1=updO T' d x∧kk (updO T d x) H1
theorem zK2 {kk:KS} {d:Option Nat} {op:Op} {T T' : Nat→HV} {H:Heap} (h:∀y∈op.operands.toList,hev T y=hev T' y) (hx:exO (fun _=>kk) P all d op [] [] T H):exO (fun _=>zYJ T T' d kk) P all d op [] [] T' H:=by
 unfold exO at hx⊢
 split at hx
 ·rename_i f args tys
  have e1:=h f (by simp[Op.operands,Call.operands])
  have e2:args.toList.map (hev T)=args.toList.map (hev T'):=zAS fun x hx=>h x (by simp[Op.operands,Call.operands];exact .inr (by simpa using hx))
  rw[←e1,←e2]
  unfold zDT at hx⊢
  split at hx
  ·obtain ⟨Q,h1,h2⟩:=hx
   exact ⟨Q,h1,fun x H' hq hl=>⟨_,rfl,h2 x H' hq hl⟩⟩
  ·obtain ⟨Kb,h1,h2⟩:=hx
   exact ⟨Kb,h1,fun b H' hq hl=>⟨_,rfl,h2 b H' hq hl⟩⟩
  ·exact hx.elim
 ·rename_i rv name args tys
  have e1:=h rv (by simp[Op.operands,Call.operands])
  have e2:args.toList.map (hev T)=args.toList.map (hev T'):=zAS fun x hx=>h x (by simp[Op.operands,Call.operands];exact .inr (by simpa using hx))
  rw[←e1,←e2]
  unfold zKc at hx⊢
  split at hx
  ·unfold zFK at hx⊢
   split at hx
   ·obtain ⟨Q,h1,h2⟩:=hx
    exact ⟨Q,h1,fun x H' hq hl=>⟨_,rfl,h2 x H' hq hl⟩⟩
   ·exact hx.elim
  ·exact hx.elim
 ·unfold exR at hx⊢
  rw[←zJe h]
  cases hr:rop P T H op with
  | none=>rw[hr] at hx;exact hx.elim
  | some q =>
   obtain ⟨p,x,H'⟩:=q
   rw[hr] at hx
   exact ⟨hx.1,x,rfl,hx.2⟩
theorem zTy {kk:KS} {o:Oper} {T T' : Nat→HV} {H:Heap} (h:∀t∈zCc all o,T t=T' t) (hx:exG (fun _=>kk) P all o [] [] T H):exG (fun _=>zYJ T T' o.dst kk) P all o [] [] T' H:=by
 have hv:=zF3 h
 unfold exG at hx⊢
 split at hx
 ·exact zK2 hv hx
 ·rename_i j b hg
  unfold exB at hx⊢
  split at hx
  ·rename_i t ht
   have e:T t=T' t:=h t (by unfold zCc;rw[hg];simp[ht])
   rw[←e]
   unfold exB2 at hx⊢
   split at hx
   ·exact ⟨fun hc=>zK2 hv (hx.1 hc),fun hc=>⟨_,rfl,hx.2 hc⟩⟩
   ·exact ⟨_,rfl,hx⟩
   ·exact hx.elim
  ·exact hx.elim
end
section
variable {P:Program} {N L B mm:Nat} {all:List Oper} {Z:Nat→Prop} {G:List (Option OG)} {FP:Nat→List Nat} {ds:List Nat} {T:Nat→HV} {H:Heap} {a:Act} {w:World} {ro:Option Nat}
theorem z3k {kk:KS} {o:Oper} (hok:zG N o=true) (hn:zAD o=true) (h:exO (fun _=>kk) P all o.dst o.op [] [] T H):HO P N L o T H kk:=by
 have hnd:=zBV hn
 have hdst:∀i,o.dst=some i→i<N:=fun i hi=>by
  have:=hok;simp only[zG,zBr,hi,Bool.and_eq_true,decide_eq_true_eq] at this;exact this.1
 unfold exO at h
 split at h
 ·rename_i f args tys hop
  unfold zDT at h
  split at h
  ·rename_i fid caps hf
   obtain ⟨Q',hc,hk⟩:=h
   exact zNQ (K:=kk) hop hok hf hc hk
  ·rename_i id hf
   obtain ⟨Kb,hc,hk⟩:=h
   exact zO2 (K:=kk) hop hok hf hc hk
  ·exact h.elim
 ·rename_i rv name args tys hop
  unfold zKc at h
  split at h
  ·rename_i t x hf
   unfold zFK at h
   split at h
   ·rename_i fid hm
    obtain ⟨Q',hc,hk⟩:=h
    exact zGr (K:=kk) hop hok hf hm hc hk
   ·exact h.elim
  ·exact h.elim
 ·exact zEY (K:=kk) hnd hdst (zOU hok h)
theorem z1K {kk:KS} {j:Nat} {o:Oper} {K:Act→World→Prop} {Q' : Exit→Act→World→Prop} (hall:all.all (zBr N)=true) (hj:all[j]?=some o) (hok:zG N o=true) (hn:zAD o=true) (h:exG (fun _=>kk) P all o [] [] T H)
  (hs:St N B Z G FP ds T H a w) (hB:Bo ro B FP w) (hL:L≤G.length)
  (hK:∀T' H' Z' G' FP' a' w',kk T' H'→St N B Z' G' FP' ds T' H' a' w'→GLt L G G'→Evo Z FP w Z' FP' w'→K a' w'):wpOpIn (Wd ro) mm P all.toArray Q' j K a w:=by
 have hdst:∀i,o.dst=some i→i<N:=fun i hi=>by
  have:=hok;simp only[zG,zBr,hi,Bool.and_eq_true,decide_eq_true_eq] at this;exact this.1
 have run:exO (fun _=>kk) P all o.dst o.op [] [] T H→o.wpIn (Wd ro) mm P a w K Q':=fun hM=>by
  refine z3k (L:=L) hok hn hM ro mm B Z G FP ds a w hB hL hs K Q' ?_
  rintro a' w' ⟨T2,H2,Z',G',FP',hk,hs',hG',hE'⟩
  exact hK T2 H2 Z' G' FP' a' w' hk hs' hG' hE'
 have noRun:kk (updO T o.dst (.v undef)) H→K (a.put o.dst undef) w:=fun hk =>
  hK _ _ _ _ _ _ _ hk (hs.drop o.dst hdst) (GLt.refl hL) (Evo.refl _ _ _)
 unfold wpOpIn
 rw[List.getElem?_toArray,hj]
 dsimp only
 unfold exG at h
 split at h
 ·rename_i hg
  simp only[Region.wanted,hg,if_true]
  exact run h
 ·rename_i k b hg
  unfold exB at h
  split at h
  ·rename_i t ht
   unfold exB2 at h
   split at h
   ·rename_i c h1
    have hy:yielded all.toArray a.tmps k=some c:=hs.yields hall (by rw[zAy ht];exact h1)
    have hw:Region.wanted o (yielded all.toArray a.tmps)=(c == b):=by
     simp only[Region.wanted,hg,hy]
     cases c <;> cases b <;> rfl
    rw[hw]
    by_cases hcb:c=b
    ·rw[if_pos (by simp[hcb])]
     exact run (h.1 hcb)
    ·have hc:c=(!b):=by cases c <;> cases b <;> simp_all
     rw[if_neg (by simp[hcb])]
     exact ⟨fun _ _=>trivial,noRun (h.2 hc)⟩
   ·rename_i ts h1
    have hy:yielded all.toArray a.tmps k=none:=hs.yieldsNo hall (by rw[zAy ht];exact h1)
    have hw:Region.wanted o (yielded all.toArray a.tmps)=false:=by
     simp only[Region.wanted,hg,hy]
     cases b <;> rfl
    rw[hw,if_neg (by simp)]
    exact ⟨fun _ _=>trivial,noRun h⟩
   ·exact h.elim
  ·exact h.elim
end
section
variable {P:Program} {N L B mm:Nat} {all:List Oper} {K:KS} {T0:Nat→HV}
theorem zEw {i k:Nat} {Ls Ss:List Nat}:dm (i::Ls) Ss k=(k == i || dm Ls Ss k):=by
 simp only[dm,List.contains_cons,Bool.or_assoc]
theorem zER {i k:Nat} {Ls Ss:List Nat}:dm Ls (i::Ss) k=(k == i || dm Ls Ss k):=by
 simp only[dm,List.contains_cons]
 cases (k == i) <;> cases Ls.contains k <;> simp
structure NodeI (P:Program) (N:Nat) (all:List Oper) (K:KS) (T0:Nat→HV) (p:Plan) (Ls Ss:List Nat) (rd:List (Nat×List Nat)) (f:Nat→HV) (T:Nat→HV) (H:Heap) (lst:Nat→Bool):Prop where
 chk:p.chk all (befs all []) Ls Ss []=true
 run:exT P all K p rd T H
 teq:T=tvS all (dm Ls Ss) f T0
 closed:∀i k,dm Ls Ss i=true→zAd (befs all []) k i=true→dm Ls Ss k=true
 lt:∀i,dm Ls Ss i=true→i<all.length
 sub:∀i,lst i=true→dm Ls Ss i=true
 hs:∀i,Ss.contains i=true→lst i=true
 cert:∀i,Ls.contains i=true→lst i=false→∃ids,(i,ids)∈rd∧∀o,all[i]?=some o→zGJ o.op=true∧∀H',(∀id∈ids,getO H' id=getO H id)→zFB P all (tvS all (fun k=>zAd (befs all []) k i) f T0) H' o (f i)
def Plan.isLight:Plan→Bool
 | .light _ _=>true
 | _=>false
theorem zGB {n:Nat} {q:Nat→Bool} (h:(List.range n).all q=true) {i:Nat} (hi:i<n):q i=true:=List.all_eq_true.1 h i (List.mem_range.2 hi)
theorem zDt {m:Nat} (hA:AnyOk N m all) {S:Nat→Bool} {f:Nat→HV} {i:Nat} {o:Oper} (ho:all[i]?=some o) (h1:∀k,zAd (befs all []) k i=true→S k=true) (h2:S i=false) (h3:∀k,S k=true→zAd (befs all []) i k=true→S i=true) (hS:∀k,S k=true→k<all.length) :
  ∀t∈zCc all o,tvS all (fun k=>zAd (befs all []) k i) f T0 t=tvS all S f T0 t:=by
 intro t ht
 have hil:=(List.getElem?_eq_some_iff.1 ho).1
 refine zYI fun j oj hoj hd=>?_
 have hjl:=(List.getElem?_eq_some_iff.1 hoj).1
 rcases Nat.lt_trichotomy j i with h | h | h
 ·have hm:=hA.ord j i oj o h hoj ho (.inr (by simp[zCq,hd,ht]))
  rw[hm,h1 j hm]
 ·subst h
  rw[h2]
  cases hx:zAd (befs all []) j j with
  | false=>rfl
  | true=>have:=zMH hA j j hil hx;omega
 ·have e1:zAd (befs all []) j i=false:=by
   cases hx:zAd (befs all []) j i with
   | false=>rfl
   | true=>have:=zMH hA i j hil hx;omega
  have e2:S j=false:=by
   cases hx:S j with
   | false=>rfl
   | true =>
    have:=h3 j hx (hA.ord i j o oj h ho hoj (.inr (by unfold zCq;rw[hd];simp[ht])))
    rw[h2] at this;cases this
  rw[e1,e2]
theorem zNI {m:Nat} (hA:AnyOk N m all) {S:Nat→Bool} {i:Nat} {o:Oper} (ho:all[i]?=some o) (h2:S i=false) (h3:∀k,S k=true→zAd (befs all []) i k=true→S i=true) :
  ∀(k:Nat) ok,i<k→S k=true→all[k]?=some ok→∀t,o.dst=some t→ok.dst≠some t:=by
 intro k ok hik hS hok t ht hd
 have:=h3 k hS (hA.ord i k o ok hik ho hok (.inr (by unfold zCq;rw[ht];simp[hd])))
 rw[h2] at this;cases this
theorem settle {m:Nat} (hA:AnyOk N m all) {H:Heap} {lst:Nat→Bool} {Ss:List Nat}:∀(p:Plan) (Ls:List Nat) (rd:List (Nat×List Nat)) (f:Nat→HV) (T:Nat→HV),NodeI P N all K T0 p Ls Ss rd f T H lst→
  ∃p' Ls' rd' f' T',NodeI P N all K T0 p' Ls' Ss rd' f' T' H lst∧p'.isLight=false∧∀k,dm Ls Ss k=true→f' k=f k
 | .leaf,Ls,rd,f,T,h=>⟨_,_,_,_,_,h,rfl,fun _ _=>rfl⟩
 | .stop,Ls,rd,f,T,h=>⟨_,_,_,_,_,h,rfl,fun _ _=>rfl⟩
 | .heavy ..,Ls,rd,f,T,h=>⟨_,_,_,_,_,h,rfl,fun _ _=>rfl⟩
 | .light i p,Ls,rd,f,T,h=>by
  have hc:=h.chk
  simp only[Plan.chk,Bool.and_eq_true,decide_eq_true_eq,Bool.not_eq_true'] at hc
  obtain ⟨⟨⟨⟨⟨_,hil⟩,hnd⟩,hcf⟩,hpre⟩,hp⟩:=hc
  have ho:all[i]?=some all[i]:=List.getElem?_eq_getElem hil
  generalize all[i]=o at ho
  have hno:zGJ o.op=true:=by unfold zOG at hcf;rw[ho] at hcf;exact hcf
  have hpre' : ∀k,zAd (befs all []) k i=true→dm Ls Ss k=true:=fun k hk=>by
   have hkl:=zMH hA i k hil hk
   have:=zGB hpre (i:=k) (by omega)
   simpa [hk] using this
  have hr:=h.run
  simp only[exT,zME,ho,atO,zO6] at hr
  obtain ⟨x,hcert,hk⟩:=zKd (k:=fun _ T' _=>exT P all K p ((i,idsO T o.op)::rd) T' H) hr
  have hcl:∀k,dm Ls Ss k=true→zAd (befs all []) i k=true→dm Ls Ss i=true:=fun k h1 h2=>h.closed k i h1 h2
  let f1:Nat→HV:=fun k=>if k=i then x else f k
  have f1i:f1 i=x:=if_pos rfl
  have f1n:∀k,dm Ls Ss k=true→f k=f1 k:=fun k hk=>by
   have:k≠i:=fun e=>by rw[e,hnd] at hk;cases hk
   exact (if_neg this).symm
  have hT1:T=tvS all (dm Ls Ss) f1 T0:=h.teq.trans (zLZ fun j _ hj=>f1n j hj)
  have hsee:=zDt (T0:=T0) (f:=f1) hA ho hpre' hnd hcl h.lt
  have new:NodeI P N all K T0 p (i::Ls) Ss ((i,idsO T o.op)::rd) f1 (updO T o.dst x) H lst:=by
   refine ⟨hp,hk,?_,fun a k ha hm=>?_,fun a ha=>?_,fun a ha=>?_,h.hs,fun a ha hl=>?_⟩
   ·rw[hT1,←f1i]
    exact (zL0 ho (by rw[zEw];simp) hnd (fun k hk=>by rw[zEw];simp[hk]) (zNI hA ho hnd hcl)).symm
   ·rw[zEw] at ha⊢
    simp only[Bool.or_eq_true,beq_iff_eq] at ha⊢
    rcases ha with rfl | ha
    ·exact .inr (hpre' k hm)
    ·exact .inr (h.closed a k ha hm)
   ·rw[zEw] at ha
    simp only[Bool.or_eq_true,beq_iff_eq] at ha
    rcases ha with rfl | ha
    ·exact hil
    ·exact h.lt a ha
   ·rw[zEw,h.sub a ha];simp
   ·by_cases e:a=i
    ·subst e
     refine ⟨_,List.mem_cons_self,fun o' ho'=>?_⟩
     rw[ho] at ho';cases ho'
     refine ⟨hno,fun H' hH'=>?_⟩
     rw[f1i]
     refine zUr (H:=H) hno (fun id hid=>hH' id ?_) ?_
     ·rw[zPa (T':=T) (zF3 fun t ht=>by rw[hT1];exact hsee t ht)] at hid
      exact hid
     ·refine zBo (T:=T) (fun t ht=>?_) hcert
      rw[hT1];exact (hsee t ht).symm
    ·have ha' : Ls.contains a=true:=by
      simp only[List.contains_cons,Bool.or_eq_true,beq_iff_eq] at ha
      exact ha.resolve_left e
     obtain ⟨ids,h1,h2⟩:=h.cert a ha' hl
     refine ⟨ids,List.mem_cons_of_mem _ h1,fun o' ho'=>⟨(h2 o' ho').1,fun H' hH'=>?_⟩⟩
     have hda:dm Ls Ss a=true:=by unfold dm;rw[ha'];rfl
     have:=(h2 o' ho').2 H' hH'
     rw[f1n a hda] at this
     rw[zLZ (f':=f1) fun j _ hj=>f1n j (h.closed a j hda hj)] at this
     exact this
  obtain ⟨p',Ls',rd',f',T',h1,h2,h3⟩:=settle hA p (i::Ls) _ f1 _ new
  exact ⟨p',Ls',rd',f',T',h1,h2,fun k hk=>(h3 k (by rw[zEw,hk];simp)).trans (f1n k hk).symm⟩
theorem zLG {H:Heap} {Ls Ss:List Nat} {rd:List (Nat×List Nat)} {T:Nat→HV} {j:Nat} (hj:j<all.length) (hd:dm Ls Ss j=false) (hpre:∀k,zAd (befs all []) k j=true→dm Ls Ss k=true) :
  ∀(p:Plan) (alts:List Nat),p.chk all (befs all []) Ls Ss alts=true→(p.isLight=false∨alts≠[])→exT P all K p rd T H→
  alts.contains j=true∨∃keep p',p'.chk all (befs all []) Ls (j::Ss) []=true∧(Ls.all fun i=>zAd (befs all []) i j || keep.contains i)=true∧∃o,all[j]?=some o∧exG (fun _ T' H'=>zDW keep H H' rd∧exT P all K p' rd T' H') P all o [] [] T H
 | .leaf,alts,hc,_,_=>by
  simp only[Plan.chk,Bool.and_eq_true] at hc
  have:=zGB hc.2 hj
  rw[hd] at this;cases this
 | .stop,alts,hc,_,_=>by
  simp only[Plan.chk,Bool.and_eq_true] at hc
  have:=zGB hc.2 hj
  rw[hd] at this
  simp only[Bool.false_or,Bool.or_eq_true] at this
  rcases this with h | h
  ·exact .inl h
  ·obtain ⟨k,_,hk⟩:=List.any_eq_true.1 h
   simp only[Bool.and_eq_true,Bool.not_eq_true'] at hk
   have:=hpre k hk.2
   rw[hk.1] at this;cases this
 | .light i p,alts,hc,hl,_=>by
  simp only[Plan.chk,Bool.and_eq_true] at hc
  rcases hl with hl | hl
  ·cases hl
  ·have:=hc.1.1.1.1.1
   exact absurd (List.isEmpty_iff.1 this) hl
 | .heavy i keep p q,alts,hc,_,hx=>by
  simp only[Plan.chk,Bool.and_eq_true,decide_eq_true_eq] at hc
  obtain ⟨⟨⟨⟨⟨h1,h2⟩,h3⟩,h4⟩,h5⟩,h6⟩:=hc
  obtain ⟨hx1,hx2⟩:=hx
  by_cases e:i=j
  ·subst e
   have ho:all[i]?=some all[i]:=List.getElem?_eq_getElem h1
   rw[zME,ho] at hx1
   exact .inr ⟨keep,p,h5,h4,_,ho,hx1⟩
  ·rcases zLG hj hd hpre q (i::alts) h6 (.inr (by simp)) hx2 with h | h
   ·simp only[List.contains_cons,Bool.or_eq_true,beq_iff_eq] at h
    rcases h with h | h
    ·exact absurd h.symm e
    ·exact .inl h
   ·exact .inr h
theorem zOK {m:Nat} {ro:Option Nat} {Φ:Exit→Act→World→Prop} (hA:AnyOk N m all) {Z0:Nat→Prop} {G0:List (Option OG)} {FP0:Nat→List Nat} {ds:List Nat} {w0:World}
  (hB:∀Z FP w,Evo Z0 FP0 w0 Z FP w→Bo ro B FP w)
  (hend:∀T H Z G FP a w,K T H→St N B Z G FP ds T H a w→GLt L G0 G→Evo Z0 FP0 w0 Z FP w→Φ .normal a w) :
  ∀(fuel:Nat) (listed:Array Bool) (p:Plan) (Ls Ss:List Nat) (rd:List (Nat×List Nat)) (f:Nat→HV) (T:Nat→HV) (H:Heap) (Z:Nat→Prop) (G:List (Option OG)) (FP:Nat→List Nat) (a:Act) (w:World),
  listed.size=all.length→left listed≤fuel→zCv all listed→NodeI P N all K T0 p Ls Ss rd f T H (fun k=>listed.getD k false)→
  St N B Z G FP ds (tvS all (fun k=>listed.getD k false) f T0) H a w→GLt L G0 G→Evo Z0 FP0 w0 Z FP w→wpAnyIn (Wd ro) mm P .any all.toArray Φ fuel listed a w:=by
 have hdall:all.all (zBr N)=true:=by
  rw[List.all_eq_true]
  intro o' ho'
  obtain ⟨j',hj'⟩:=List.mem_iff_getElem?.1 ho'
  have:=(hA.ok j' o' hj').1
  simp only[zG,Bool.and_eq_true] at this
  exact this.1
 have fin:∀(listed:Array Bool) (p:Plan) (Ls Ss:List Nat) (rd:List (Nat×List Nat)) (f:Nat→HV) (T:Nat→HV) (H:Heap) (Z:Nat→Prop) (G:List (Option OG)) (FP:Nat→List Nat) (a:Act) (w:World),
   (∀k,k<all.length→listed.getD k false=true)→p.isLight=false→NodeI P N all K T0 p Ls Ss rd f T H (fun k=>listed.getD k false)→
   St N B Z G FP ds (tvS all (fun k=>listed.getD k false) f T0) H a w→GLt L G0 G→Evo Z0 FP0 w0 Z FP w→Φ .normal a w:=by
  intro listed p Ls Ss rd f T H Z G FP a w hall hpl hN hs hG hE
  have hT:tvS all (fun k=>listed.getD k false) f T0=T:=by
   rw[hN.teq]
   funext t
   refine zYI fun j o ho hd=>?_
   have h1:=hall j (List.getElem?_eq_some_iff.1 ho).1
   rw[h1,hN.sub j h1]
  rw[hT] at hs
  have hc:=hN.chk
  have hr:=hN.run
  cases p with
  | leaf=>exact hend T H Z G FP a w hr hs hG hE
  | stop=>simp[Plan.chk] at hc
  | light i p=>cases hpl
  | heavy j keep p q =>
   simp only[Plan.chk,Bool.and_eq_true,decide_eq_true_eq,Bool.not_eq_true'] at hc
   have h1:=hc.1.1.1.1.1
   have h2:=hN.sub j (hall j h1)
   rw[hc.1.1.1.1.2] at h2;cases h2
 intro fuel
 induction fuel with
 | zero =>
  intro listed p Ls Ss rd f T H Z G FP a w hsz hf hc hN hs hG hE
  obtain ⟨p',Ls',rd',f',T',hN',hpl,hff⟩:=settle hA p Ls rd f T hN
  rw[zLZ (f':=f') fun j _ hj=>(hff j (hN.sub j hj)).symm] at hs
  have hall:=zCl (Nat.le_zero.1 hf)
  refine ⟨?_,fin listed p' Ls' Ss rd' f' T' H Z G FP a w (fun k hk=>hall k (by omega)) hpl hN' hs hG hE⟩
  rw[List.eq_nil_iff_forall_not_mem]
  intro i hi
  obtain ⟨h1,o,ho,_⟩:=mem_ready.1 hi
  rw[List.getElem?_toArray] at ho
  have hi':=(List.getElem?_eq_some_iff.1 ho).1
  have h2:=hall i (by omega)
  rw[Array.getD_eq_getD_getElem?,zAR h1] at h2
  simp at h2
 | succ fuel ih =>
  intro listed p Ls Ss rd f T H Z G FP a w hsz hf hc hN hs hG hE
  obtain ⟨p',Ls',rd',f',T',hN',hpl,hff⟩:=settle hA p Ls rd f T hN
  rw[zLZ (f':=f') fun j _ hj=>(hff j (hN.sub j hj)).symm] at hs
  clear hN
  refine ⟨fun h0=>?_,fun i hi=>?_⟩
  ·refine fin listed p' Ls' Ss rd' f' T' H Z G FP a w (fun k hk=>?_) hpl hN' hs hG hE
   cases hx:listed.getD k false with
   | true=>rfl
   | false =>
    obtain ⟨k',⟨h1,h2⟩,h3⟩:=zR (p:=fun k=>k<all.length∧listed.getD k false=false) ⟨k,hk,hx⟩
    have:=zBH hA hsz h1 h2 (fun j hj=>by
     cases hx:listed.getD j false with
     | true=>rfl
     | false=>have:=h3 j ⟨by omega,hx⟩;omega)
    rw[h0] at this;simp at this
  obtain ⟨h1,o,ho,ha⟩:=mem_ready.1 hi
  rw[List.getElem?_toArray] at ho
  have hil:=(List.getElem?_eq_some_iff.1 ho).1
  have hnl:=zAR h1
  have hnf:listed.getD i false=false:=by rw[Array.getD_eq_getD_getElem?,hnl];rfl
  obtain ⟨hok,hnd⟩:=hA.ok i o ho
  have hadd:=zEF hnl
  have hcl2:=zB8 hc (fun o' ho' e he hb=>by rw[ho] at ho';cases ho';exact ha e (by simpa using he) hb)
  have hmust:∀k,zAd (befs all []) k i=true→listed.getD k false=true:=fun k hk=>zAE hA hc hi hk
  have hlt:∀k,listed.getD k false=true→k<all.length:=fun k hk=>hN'.lt k (hN'.sub k hk)
  have hclm:∀k,listed.getD k false=true→zAd (befs all []) i k=true→listed.getD i false=true:=fun k hk hm=>by
   have hkl:=hlt k hk
   exact zAL hA hc k i _ (List.getElem?_eq_getElem hkl) (hc k _ (List.getElem?_eq_getElem hkl) hk) hm
  have hset:∀k,(listed.setIfInBounds i true).getD k false=(k == i || listed.getD k false):=fun k=>by
   by_cases e:k=i
   ·subst e;rw[zAJ (by omega)];simp
   ·simp only[Array.getD_eq_getD_getElem?,Array.getElem?_setIfInBounds_ne (Ne.symm e)]
    simp[e]
  have hTadd:∀g:Nat→HV,tvS all (fun k=>(listed.setIfInBounds i true).getD k false) g T0=updO (tvS all (fun k=>listed.getD k false) g T0) o.dst (g i):=fun g =>
   zL0 ho (by rw[hset];simp) hnf (fun k hk=>by rw[hset];simp[hk]) (zNI hA ho hnf hclm)
  by_cases hdi:dm Ls' Ss i=true
  ·
   have hiL:Ls'.contains i=true:=by
    unfold dm at hdi
    rcases Bool.or_eq_true_iff.1 hdi with h | h
    ·exact h
    ·have:listed.getD i false=true:=hN'.hs i h
     rw[hnf] at this;cases this
   obtain ⟨ids,_,h2⟩:=hN'.cert i hiL hnf
   obtain ⟨_,h3⟩:=h2 o ho
   have hcert:=h3 H (fun _ _=>rfl)
   have hsee:=zDt (T0:=T0) (f:=f') hA ho hmust hnf hclm hlt
   refine zKt hdall ho hok hnd (zBo hsee hcert) hs fun Z' G' FP' a' w' hs2 hG' hE'=>?_
   refine ih (listed.setIfInBounds i true) p' Ls' Ss rd' f' T' H Z' G' FP' a' w' (by simpa using hsz) (by omega) hcl2 ?_ (by rw[hTadd];exact hs2) (hG.trans (GLt.of hG.len hG')) (hE.trans hE')
   refine ⟨hN'.chk,hN'.run,hN'.teq,hN'.closed,hN'.lt,fun k hk=>?_,fun k hk=>?_,fun k hk hl=>?_⟩
   ·rw[hset] at hk
    simp only[Bool.or_eq_true,beq_iff_eq] at hk
    rcases hk with rfl | hk
    ·exact hdi
    ·exact hN'.sub k hk
   ·rw[hset,hN'.hs k hk];simp
   ·rw[hset] at hl
    exact hN'.cert k hk (Bool.or_eq_false_iff.1 hl).2
  ·
   have hdi:dm Ls' Ss i=false:=by simpa using hdi
   have hpre:∀k,zAd (befs all []) k i=true→dm Ls' Ss k=true:=fun k hk=>hN'.sub k (hmust k hk)
   rcases zLG hil hdi hpre p' [] hN'.chk (.inl hpl) hN'.run with h | ⟨keep,p2,hc2,hk2,o',ho',hx⟩
   ·simp at h
   rw[ho] at ho';cases ho'
   have hcl:∀k,dm Ls' Ss k=true→zAd (befs all []) i k=true→dm Ls' Ss i=true:=fun k h1 h2=>hN'.closed k i h1 h2
   have hsee:∀t∈zCc all o,T' t=tvS all (fun k=>listed.getD k false) f' T0 t:=fun t ht=>by
    rw[hN'.teq,←zDt (T0:=T0) (f:=f') hA ho hpre hdi hcl hN'.lt t ht]
    exact zDt (T0:=T0) (f:=f') hA ho hmust hnf hclm hlt t ht
   refine z1K (L:=L) hdall ho hok hnd (zTy hsee hx) hs (hB Z FP w hE) hG.len fun T2 H2 Z' G' FP' a' w' hkk hs2 hG' hE'=>?_
   obtain ⟨x,rfl,hag,hrun⟩:=hkk
   let f1:Nat→HV:=fun k=>if k=i then x else f' k
   have f1i:f1 i=x:=if_pos rfl
   have f1n:∀k,dm Ls' Ss k=true→f' k=f1 k:=fun k hk=>by
    have:k≠i:=fun e=>by rw[e,hdi] at hk;cases hk
    exact (if_neg this).symm
   refine ih (listed.setIfInBounds i true) p2 Ls' (i::Ss) rd' f1 (updO T' o.dst x) H2 Z' G' FP' a' w' (by simpa using hsz) (by omega) hcl2 ?_ ?_ (hG.trans hG') (hE.trans hE')
   ·refine ⟨hc2,hrun,?_,fun a k ha hm=>?_,fun a ha=>?_,fun a ha=>?_,fun a ha=>?_,fun a ha hl=>?_⟩
    ·rw[hN'.teq,zLZ (f':=f1) fun j _ hj=>f1n j hj,←f1i]
     exact (zL0 ho (by rw[zER];simp) hdi (fun k hk=>by rw[zER];simp[hk]) (zNI hA ho hdi hcl)).symm
    ·rw[zER] at ha⊢
     simp only[Bool.or_eq_true,beq_iff_eq] at ha⊢
     rcases ha with rfl | ha
     ·exact .inr (hpre k hm)
     ·exact .inr (hN'.closed a k ha hm)
    ·rw[zER] at ha
     simp only[Bool.or_eq_true,beq_iff_eq] at ha
     rcases ha with rfl | ha
     ·exact hil
     ·exact hN'.lt a ha
    ·rw[hset] at ha
     rw[zER]
     simp only[Bool.or_eq_true,beq_iff_eq] at ha⊢
     exact ha.imp id fun ha=>hN'.sub a ha
    ·rw[hset]
     simp only[List.contains_cons,Bool.or_eq_true,beq_iff_eq] at ha⊢
     exact ha.imp id fun ha=>hN'.hs a ha
    ·rw[hset] at hl
     obtain ⟨e,hl⟩:=Bool.or_eq_false_iff.1 hl
     have hda:dm Ls' Ss a=true:=by unfold dm;rw[ha];rfl
     obtain ⟨ids,h1,h2⟩:=hN'.cert a ha hl
     refine ⟨ids,h1,fun o' ho'=>⟨(h2 o' ho').1,fun H' hH'=>?_⟩⟩
     have hka:keep.contains a=true:=by
      have:=List.all_eq_true.1 hk2 a (by simpa using ha)
      rcases Bool.or_eq_true_iff.1 this with hm | hk
      ·have:=hmust a hm
       rw[hl] at this;cases this
      ·exact hk
     have:=(h2 o' ho').2 H' (fun id hid=>(hH' id hid).trans (zGn hag _ h1 hka id hid))
     rw[f1n a hda] at this
     rw[zLZ (f':=f1) fun j _ hj=>f1n j (hN'.closed a j hda hj)] at this
     exact this
   ·rw[hTadd,f1i,←zLZ (f:=f') fun j _ hj=>f1n j (hN'.sub j hj)]
    exact hs2
theorem HW.tree {id:Nat} {Q:Exit→KS} {T:Nat→HV} {H:Heap} (n:Nat) (p:Plan) (hm:P.follows .mixedOrders=true) (hB:anyB N all.length all=true) (hp:p.chk all (befs all []) [] [] []=true)
  (h:exT P all (ex P N L Q n []) p [] T H):HW P N L (.region id all.toArray true) Q T H:=by
 intro ro mm B Z G FP ds a w hB' hL hst
 have hA:=zEW hB
 have hEv:Evo Z FP w Z FP { w with drawn:=w.drawn+1 }:=⟨rfl,rfl,rfl,Nat.le_refl _,fun _ _ _=>rfl,fun _ h=>h,fun _ h=>.inl h,fun id b hb=>.inr ⟨id,hb⟩⟩
 have hi:HInv Z G FP H { w with drawn:=w.drawn+1 }:=hst.inv.keep (Nat.le_refl _) (fun _ _=>rfl)
 have hs':=hst.evo hi (GLe.refl _) hEv
 have hrep:∀k,(Array.replicate all.toArray.size false).getD k false=false:=fun k=>by
  simp only[Array.getD_eq_getD_getElem?]
  by_cases hlt:k<all.toArray.size
  ·rw[Array.getElem?_eq_getElem (by simpa using hlt)]
   simp
  ·rw[Array.getElem?_eq_none (by simpa using hlt)];rfl
 have e:∀g,tvS all (fun k=>(Array.replicate all.toArray.size false).getD k false) g T=T:=fun g=>by
  funext t
  unfold tvS
  rw[zBc]
  intro j _
  exact hrep _
 have e2:∀g,tvS all (dm [] []) g T=T:=fun g=>by
  funext t
  unfold tvS
  rw[zBc]
  intro j _
  rfl
 refine wpIn_region_any hm ?_
 refine zOK (K:=ex P N L Q n []) (T0:=T) (B:=B) (L:=L) (Z0:=Z) (G0:=G) (FP0:=FP) (ds:=ds) (w0:=w) hA (fun Z' FP' w' hE=>hB'.evo hE) ?_ _ _ p [] [] [] (fun _=>.any) T H Z G FP _ _ (by simp) ?_ ?_ ?_ ?_ (GLt.refl hL) hEv
 ·intro T1 H1 Z1 G1 FP1 a1 w1 hK hs1 hG1 hE1
  exact zCP n [] T1 H1 hK (by simp) ro mm B Z G FP w Z1 G1 FP1 ds a1 w1 (hB'.evo hE1) hs1 hG1 hE1
 ·have:∀k:Nat,left (Array.replicate k false)=k:=by intro k;simp[left]
  rw[this];simp
 ·intro j o hj hl
  rw[hrep] at hl;cases hl
 ·exact ⟨hp,h,(e2 _).symm,fun i k hi=>(by simp[dm] at hi),fun i hi=>(by simp[dm] at hi),fun i hi=>(by rw[hrep] at hi;cases hi),fun i hi=>(by simp at hi),fun i hi=>(by simp at hi)⟩
 ·rw[e];exact hs'
def zGH (R:KS):Exit→KS
 | .normal=>R
 | _=>fun _ _=>False
theorem HW.treeI {id:Nat} {Q:Exit→KS} {T:Nat→HV} {H:Heap} (I:KS) (p:Plan) (hm:P.follows .mixedOrders=true) (hB:anyB N all.length all=true) (hp:p.chk all (befs all []) [] [] []=true)
  (h:exT P all (GQ N L I) p [] T H) (k:∀T H,I T H→Q .normal T H):HW P N L (.region id all.toArray true) Q T H:=by
 refine HW.weaken (Q':=zGH (GQ N L I)) (HW.tree 1 p hm hB hp h) fun e T' H' hq=>?_
 cases e with
 | normal =>
  obtain ⟨T2,H2,g,hi⟩:=hq
  exact ⟨T2,H2,g,k _ _ hi⟩
 | _=>exact hq.elim
end
section
variable {P:Program} {all l:List Oper} {K:KS} {k:List Item→KS} {p q:Plan} {rd:List (Nat×List Nat)} {T:Nat→HV} {H H' : Heap} {i j:Nat} {keep:List Nat} {d:Option Nat} {r:List Item}
def z3r (P:Program) (all:List Oper) (K:KS) (p:Plan) (rd:List (Nat×List Nat)) (i:Nat) (ids:List Nat) (H:Heap):List Item→KS:=fun _ T' _=>exT P all K p ((i,ids)::rd) T' H
def z1R (P:Program) (all:List Oper) (K:KS) (p:Plan) (rd:List (Nat×List Nat)) (keep:List Nat) (H:Heap):List Item→KS:=fun _ T' H'=>zO7 H' fun H'=>zDW keep H H' rd∧exT P all K p rd T' H'
theorem zXi {ids:List Nat}:z3r P all K p rd i ids H r T H'=exT P all K p ((i,ids)::rd) T H:=rfl
theorem zXh:z1R P all K p rd keep H r T H'=zO7 H' fun H'=>zDW keep H H' rd∧exT P all K p rd T H':=rfl
theorem zXJ:exT P all K .leaf rd T H=K T H:=rfl
theorem zXI:exT P all K .stop rd T H=True:=rfl
theorem zTS:exT P all K (.light i p) rd T H=atO (nthO all i) fun o=>zO6 (idsO T o.op) fun ids=>exGq (z3r P all K p rd i ids H) P all o [] [] T H:=rfl
theorem zPm:exT P all K (.heavy j keep p .stop) rd T H=atO (nthO all j) fun o=>exG (z1R P all K p rd keep H) P all o [] [] T H:=and_true _
theorem zTT {j' : Nat} {keep' : List Nat} {p' q' : Plan}:exT P all K (.heavy j keep p (.heavy j' keep' p' q')) rd T H=((atO (nthO all j) fun o=>exG (z1R P all K p rd keep H) P all o [] [] T H)∧exT P all K (.heavy j' keep' p' q') rd T H):=rfl
theorem zSQ {o:Oper}:nthO (o::l) 0=some o:=rfl
theorem zSR {o:Oper} {i:Nat}:nthO (o::l) (i+1)=nthO l i:=rfl
theorem zXw {o:Oper} {f:Oper→Prop}:atO (some o) f=f o:=rfl
theorem zU3 {r r' : Option Oper} {f:Oper→Prop} (h:r=r'):atO r f=atO r' f:=by rw[h]
theorem zLW {a b:List Nat} {f:List Nat→Prop} (h:a=b):zO6 a f=zO6 b f:=by rw[h]
theorem zLX {f:Heap→Prop} (h:H=H'):zO7 H f=zO7 H' f:=by rw[h]
theorem zUw {a:List Nat} {f:List Nat→Prop}:zO6 a f=f a:=rfl
theorem zUx {f:Heap→Prop}:zO7 H f=f H:=rfl
theorem zKv {fid:Nat} {args args' : List HV} (hH:H=H') (ha:args=args'):zFY k P fid H args all d l r T=zFY k P fid H' args' all d l r T:=by rw[hH,ha]
theorem zHz {id:Nat} {args args' : List HV} (hH:H=H') (ha:args=args'):zJG k P id H args all d l r T=zJG k P id H' args' all d l r T:=by rw[hH,ha]
theorem zTw {op:Op} {ty:TypeId} {pos:String} {af:Array Edge}:exGq k P all ⟨d,op,ty,pos,af,none⟩ l r T H=exOq k P all d op l r T H:=rfl
theorem zTv {op:Op} {ty:TypeId} {pos:String} {af:Array Edge} {b:Bool}:exGq k P all ⟨d,op,ty,pos,af,some (i,b)⟩ l r T H=exBq k P (zA4 all i) b all d op l r T H:=rfl
theorem zX3 {op:Op} {ty:TypeId} {pos:String} {af:Array Edge}:exG k P all ⟨d,op,ty,pos,af,none⟩ l r T H=exO k P all d op l r T H:=rfl
theorem zX2 {op:Op} {ty:TypeId} {pos:String} {af:Array Edge} {b:Bool}:exG k P all ⟨d,op,ty,pos,af,some (i,b)⟩ l r T H=exB k P (zA4 all i) b all d op l r T H:=rfl
theorem zOq:zFn H H' []=True:=rfl
theorem zLj {l:List Nat}:zFn H H' (i::l)=(getO H' i=getO H i∧zFn H H' l):=rfl
theorem zNH {ids:List Nat}:zGp H H' ids true=zFn H H' ids:=rfl
theorem zLI {ids:List Nat}:zGp H H' ids false=True:=rfl
theorem zLJ {ids:List Nat} {b c:Bool} (h:b=c):zGp H H' ids b=zGp H H' ids c:=by rw[h]
theorem zQf:zDW keep H H' []=True:=rfl
theorem zGo {e:Nat×List Nat}:zDW keep H H' (e::rd)=(zGp H H' e.2 (keep.contains e.1)∧zDW keep H H' rd):=rfl
theorem zNG:zDW [] H H' rd=True:=by
 induction rd with
 | nil=>rfl
 | cons e rd ih=>rw[zGo,ih];simp[zGp]
theorem zGT {t:TypeId} {len:Nat} {ps:Array (Nat×Operand)}:idsO T (.buildSlice t len ps)=[]:=rfl
theorem zSk {t:TypeId} {x:Operand}:idsO T (.load t x)=idsV (hev T x):=by simp[idsO,zBq,Op.operands]
theorem zIa {x:Operand}:idsO T (.nilCheck x)=idsV (hev T x):=by simp[idsO,zBq,Op.operands]
theorem zKL {s t:TypeId} {x:Operand}:idsO T (.convert s t x)=idsV (hev T x):=by simp[idsO,zBq,Op.operands]
theorem zHC {t:TypeId} {x:Operand} {i:Nat}:idsO T (.fieldAddr t x i)=idsV (hev T x):=by simp[idsO,zBq,Op.operands]
theorem zHB {t:TypeId} {x y:Operand}:idsO T (.indexAddr t x y)=idsV (hev T x)++idsV (hev T y):=by simp[idsO,zBq,Op.operands]
theorem zWe {x:Operand} {t:TypeId}:idsO T (.call { callee:=.builtin .len,args:=#[x],argTypes:=#[t] })=idsV (hev T x):=by simp[idsO,zBq,Op.operands,Call.operands]
theorem zWd {x y:Operand} {t u:TypeId}:idsO T (.call { callee:=.builtin .max,args:=#[x,y],argTypes:=#[t,u] })=idsV (hev T x)++idsV (hev T y):=by simp[idsO,zBq,Op.operands,Call.operands]
theorem zWc {x y:Operand} {t u:TypeId}:idsO T (.call { callee:=.builtin .min,args:=#[x,y],argTypes:=#[t,u] })=idsV (hev T x)++idsV (hev T y):=by simp[idsO,zBq,Op.operands,Call.operands]
theorem zMT {x:Operand} {t:TypeId}:idsO T (.slice t x none none none)=idsV (hev T x):=by simp[idsO,zBq,Op.operands]
theorem zMR {x y:Operand} {t:TypeId}:idsO T (.slice t x (some y) none none)=idsV (hev T x)++idsV (hev T y):=by simp[idsO,zBq,Op.operands]
theorem zMU {x y z:Operand} {t:TypeId}:idsO T (.slice t x (some y) (some z) none)=idsV (hev T x)++(idsV (hev T y)++idsV (hev T z)):=by simp[idsO,zBq,Op.operands]
theorem zMS {x y:Operand} {t:TypeId}:idsO T (.slice t x none (some y) none)=idsV (hev T x)++idsV (hev T y):=by simp[idsO,zBq,Op.operands]
theorem zSj {x:Operand}:idsO T (.move x)=[]:=rfl
theorem zMV {x:Operand}:idsO T (.assign x)=[]:=rfl
theorem zSi {x y z:Operand}:idsO T (.pick x y z)=[]:=rfl
theorem zPb {t:TypeId} {ps:Array (Nat×Operand)}:idsO T (.build t ps)=[]:=rfl
theorem zWf {op:BinOp} {t t' : TypeId} {x y:Operand}:idsO T (.binOp op t x y t')=[]:=rfl
theorem zZ8 {op:UnOp} {t:TypeId} {x:Operand}:idsO T (.unOp op t x)=[]:=rfl
theorem zP8 {t:TypeId} {x:Operand}:idsO T (.makeInterface t x)=[]:=rfl
theorem zSl {f:Fn} {xs ys:Array Operand}:idsO T (.makeFunc f xs ys)=[]:=rfl
theorem zP9 {t:TypeId} {x:Operand} {i:Nat}:idsO T (.field t x i)=[]:=rfl
theorem zP7 {t:TypeId} {x i:Operand}:idsO T (.index t x i)=[]:=rfl
theorem zKK {x:Operand} {i:Nat}:idsO T (.extract x i)=[]:=rfl
theorem zZ4 {a b c:Nat}:idsV (.hd a b c)=[a]:=rfl
theorem zZ2 {a b c e:Nat}:idsV (.pt a b c e)=[a]:=rfl
theorem z2Y {x:Value}:idsV (.v x)=[]:=rfl
theorem zZ1 {x:List (List HV)}:idsV (.sl x)=[]:=rfl
theorem zZ5 {x:List (List HV)} {a b:Nat}:idsV (.fp x a b)=[]:=rfl
theorem zZ6 {x:List HV} {a:Nat}:idsV (.fn a x)=[]:=rfl
theorem zZ3 {x:HV} {a:Nat}:idsV (.ic a x)=[]:=rfl
theorem zZ7 {x:List HV}:idsV (.ag x)=[]:=rfl
end
attribute [congr] zU3 zLW zLX zLJ zKv zHz
attribute [go_sem] zUw zUx zOq zLj zNH zLI zZ4 zZ2 z2Y zZ1 zZ5 zZ6 zZ3 zZ7 List.append_nil List.isEmpty_nil
attribute [go_sem ↓] zXi zXh zXJ zXI zTS zPm zTT zSQ zSR zXw zTw zTv zX3 zX2 zNG zQf zGo zGT zSk zIa zKL zHC zHB zWe zWd zWc zMU zMT zMS zMR zSj zMV zSi zPb zWf zZ8 zP8 zSl zP9 zP7 zKK
end Go.Proofs.YtoknohandclcbaaGreat
namespace Go.Proofs.YtoknohandclcbaaGreat
open Go.RowKit
def sw (i j k:Nat):Nat:=if k=i then j else if k=j then i else k
theorem zVO (i j k:Nat):sw i j (sw i j k)=k:=by
 unfold sw
 by_cases h1:k=i
 ·subst h1
  rw[if_pos rfl]
  by_cases h2:j=k
  ·rw[if_pos h2];exact h2
  ·rw[if_neg h2,if_pos rfl]
 ·rw[if_neg h1]
  by_cases h2:k=j
  ·rw[if_pos h2,if_pos rfl];exact h2.symm
  ·rw[if_neg h2,if_neg h1,if_neg h2]
theorem z1l {i j k n:Nat} (hi:i<n) (hj:j<n) (hk:k<n):sw i j k<n:=by
 unfold sw
 split
 ·exact hj
 ·split
  ·exact hi
  ·exact hk
def swL {α:Type} (l:List α) (i j:Nat):List α :=
 match l[i]?,l[j]? with
 | some a,some b=>(l.set i b).set j a
 | _,_=>l
theorem zL7 {α:Type} {l:List α} {i j:Nat} (hi:i<l.length) (hj:j<l.length) (k:Nat):(swL l i j)[k]?=l[sw i j k]?:=by
 unfold swL
 rw[List.getElem?_eq_getElem hi,List.getElem?_eq_getElem hj]
 simp only
 unfold sw
 by_cases h1:k=i
 ·subst h1
  rw[if_pos rfl]
  by_cases h2:j=k
  ·subst h2;simp[hj]
  ·rw[List.getElem?_set_ne h2,List.getElem?_set_self hi,List.getElem?_eq_getElem hj]
 ·rw[if_neg h1]
  by_cases h2:k=j
  ·subst h2
   rw[if_pos rfl,List.getElem?_set_self (by simpa using hj),List.getElem?_eq_getElem hi]
  ·rw[if_neg h2,List.getElem?_set_ne (fun e=>h2 e.symm),List.getElem?_set_ne (fun e=>h1 e.symm)]
theorem zFd {α:Type} {l:List α} {i j:Nat}:(swL l i j).length=l.length:=by
 unfold swL
 split <;> simp
mutual
def rn (p:Nat→Nat):HV→HV
 | .hd id a b=>.hd (p id) a b
 | .pt id a b c=>.pt (p id) a b c
 | .mp id=>.mp (p id)
 | .yl id=>.yl (p id)
 | .ag cs=>.ag (rnL p cs)
 | .tu cs=>.tu (rnL p cs)
 | .fn f cs=>.fn f (rnL p cs)
 | .ic t x=>.ic t (rn p x)
 | .any=>.any
 | .v x=>.v x
 | .sl r=>.sl r
 | .ow e s r=>.ow e s r
 | .fp r i o=>.fp r i o
 | .bx e s r=>.bx e s r
 | .ob x=>.ob x
 | .om x h=>.om x h
 | .gv b=>.gv b
def rnL (p:Nat→Nat):List HV→List HV
 | []=>[]
 | h::t=>rn p h::rnL p t
end
def rnR (p:Nat→Nat) (rows:List (List HV)):List (List HV):=rows.map (rnL p)
theorem zLr {p:Nat→Nat}:∀l:List HV,(rnL p l).length=l.length
 | []=>rfl
 | h::t=>by simp[rnL,zLr t]
section
variable {Z:Nat→Prop} {w:World} {p:Nat→Nat} {G G' : List (Option OG)} (hp:∀id,id<G.length→p id<G'.length∧G'[p id]?=G[id]?)
include hp
mutual
theorem zYA:∀(h:HV) (y:Value) (fp:List Nat),RV Z G w h y fp→RV Z G' w (rn p h) y fp
 | .any,y,fp,hr=>by simpa only[RV,rn] using hr
 | .v x,y,fp,hr=>by simpa only[RV,rn] using hr
 | .sl rows,y,fp,hr=>by simpa only[RV,rn] using hr
 | .ow e sz rows,y,fp,hr=>by simpa only[RV,rn] using hr
 | .fp rows i o,y,fp,hr=>by simpa only[RV,rn] using hr
 | .bx e sz row,y,fp,hr=>by simpa only[RV,rn] using hr
 | .ob x,y,fp,hr=>by simp only[RV] at hr
 | .om x hs,y,fp,hr=>by simpa only[RV,rn] using hr
 | .gv b,y,fp,hr=>by simpa only[RV,rn] using hr
 | .hd id a b,y,fp,hr=>by
  simp only[RV,rn] at hr⊢
  obtain ⟨h1,h2,h3,h4⟩:=hr
  obtain ⟨e1,e2⟩:=hp id h3
  exact ⟨h1,h2,e1,fun g hg=>h4 g (e2▸hg)⟩
 | .pt id a b c,y,fp,hr=>by
  simp only[RV,rn] at hr⊢
  obtain ⟨h1,h2,h3,h4⟩:=hr
  obtain ⟨e1,e2⟩:=hp id h3
  exact ⟨h1,h2,e1,fun g hg=>h4 g (e2▸hg)⟩
 | .mp id,y,fp,hr=>by
  simp only[RV,rn] at hr⊢
  obtain ⟨h1,h2,h3,h4⟩:=hr
  obtain ⟨e1,e2⟩:=hp id h3
  exact ⟨h1,h2,e1,fun g hg=>h4 g (e2▸hg)⟩
 | .yl id,y,fp,hr=>by
  simp only[RV,rn] at hr⊢
  obtain ⟨h1,h3,l,h2,h4⟩:=hr
  obtain ⟨e1,e2⟩:=hp id h3
  exact ⟨h1,e1,l,h2,fun g hg=>h4 g (e2▸hg)⟩
 | .ag cs,y,fp,hr=>by
  simp only[RV,rn] at hr⊢
  obtain ⟨ys,h1,h2⟩:=hr
  exact ⟨ys,h1,zUd cs _ fp h2⟩
 | .tu cs,y,fp,hr=>by
  simp only[RV,rn] at hr⊢
  obtain ⟨ys,h1,h2⟩:=hr
  exact ⟨ys,h1,zUd cs _ fp h2⟩
 | .fn f cs,y,fp,hr=>by
  simp only[RV,rn] at hr⊢
  obtain ⟨ys,h1,h2⟩:=hr
  exact ⟨ys,h1,zUd cs _ fp h2⟩
 | .ic t x,y,fp,hr=>by
  simp only[RV,rn] at hr⊢
  obtain ⟨h0,z,h1,h2⟩:=hr
  exact ⟨h0,z,h1,zYA x z [] h2⟩
theorem zUd:∀(l:List HV) (ys:List Value) (fp:List Nat),RL Z G w l ys fp→RL Z G' w (rnL p l) ys fp
 | [],ys,fp,hr=>by simpa only[RL,rnL] using hr
 | h::t,ys,fp,hr=>by
  simp only[RL,rnL] at hr⊢
  obtain ⟨y,ys',f1,f2,h1,h2,h3,h4⟩:=hr
  exact ⟨y,ys',f1,f2,h1,h2,zYA h y f1 h3,zUd t ys' f2 h4⟩
end
theorem z4P:∀(l:List HV) (b k:Nat) (fp:List Nat),RC Z G w l b k fp→RC Z G' w (rnL p l) b k fp
 | [],b,k,fp,hr=>by simpa only[RC,rnL] using hr
 | h::t,b,k,fp,hr=>by
  simp only[RC,rnL] at hr⊢
  obtain ⟨y,f1,f2,h1,h2,h3,h4,h5⟩:=hr
  exact ⟨y,f1,f2,h1,h2,h3,zYA hp h y f1 h4,z4P t b (k+1) f2 h5⟩
theorem z4J:∀(l:List (List HV)) (b k:Nat) (fp:List Nat),RR Z G w l b k fp→RR Z G' w (rnR p l) b k fp
 | [],b,k,fp,hr=>by simpa only[RR,rnR,List.map_nil] using hr
 | r::t,b,k,fp,hr=>by
  simp only[RR,rnR,List.map_cons] at hr⊢
  obtain ⟨f1,f2,h1,h2,h3⟩:=hr
  refine ⟨f1,f2,h1,z4P hp r b k f1 h2,?_⟩
  rw[zLr]
  exact z4J t b (k+r.length) f2 h3
end
mutual
theorem z1t {p:Nat→Nat}:∀h:HV,nm 0 h=true→rn p h=h
 | .any,_=>rfl
 | .v _,_=>rfl
 | .sl _,_=>rfl
 | .ow ..,_=>rfl
 | .fp ..,_=>rfl
 | .bx ..,_=>rfl
 | .ob _,_=>rfl
 | .om ..,_=>rfl
 | .gv _,_=>rfl
 | .hd id a b,h=>by simp[nm] at h
 | .pt id a b c,h=>by simp[nm] at h
 | .mp id,h=>by simp[nm] at h
 | .yl id,h=>by simp[nm] at h
 | .ag cs,h=>by simp only[nm] at h;simp only[rn];rw[zJg cs h]
 | .tu cs,h=>by simp only[nm] at h;simp only[rn];rw[zJg cs h]
 | .fn f cs,h=>by simp only[nm] at h;simp only[rn];rw[zJg cs h]
 | .ic t x,h=>by simp only[nm] at h;simp only[rn];rw[z1t x h]
theorem zJg {p:Nat→Nat}:∀l:List HV,nmL 0 l=true→rnL p l=l
 | [],_=>rfl
 | h::t,hn=>by
  simp only[nmL,Bool.and_eq_true] at hn
  simp only[rnL]
  rw[z1t h hn.1,zJg t hn.2]
end
theorem zYM {p:Nat→Nat}:∀l:List (List HV),nmR 0 l=true→rnR p l=l
 | [],_=>rfl
 | r::t,hn=>by
  simp only[nmR,Bool.and_eq_true] at hn
  simp only[rnR,List.map_cons]
  rw[zJg r hn.1]
  have:=zYM (p:=p) t hn.2
  unfold rnR at this
  rw[this]
def rnO (p:Nat→Nat) (ob:HObj):HObj:=match nmR 0 ob.rows with
 | true=>ob
 | false=>{ ob with rows:=rnR p ob.rows }
theorem z1w {p:Nat→Nat} {ob:HObj}:rnO p ob = { ob with rows:=rnR p ob.rows }:=by
 unfold rnO
 split
 ·rename_i h;rw[zYM _ h]
 ·rfl
def swH (H:Heap) (i j:Nat):Heap:=swL (H.map (Option.map (rnO (sw i j)))) i j
theorem yBP {Z:Nat→Prop} {w:World} {p:Nat→Nat} {G G' : List (Option OG)} (hp:∀id,id<G.length→p id<G'.length∧G'[p id]?=G[id]?) {o:HObj} {g:OG} {fp:List Nat} (h:OB Z G w o g fp):OB Z G' w { o with rows:=rnR p o.rows } g fp:=by
 refine ⟨h.e,h.sz,by simp[rnR,h.n],fun r hr=>?_,?_⟩
 ·obtain ⟨r',hr',rfl⟩:=List.mem_map.1 hr
  rw[zLr];exact h.len r' hr'
 ·rcases h.at_ with ⟨h1,h2,h3⟩ | ⟨b,cells,f,h1,h2,h3,h4,h5,h6,h7⟩ | ⟨x,hs,obj,f,h1,h2,h3,h4,h5,h6⟩
  ·exact .inl ⟨h1,by simp[h2,rnR],h3⟩
  ·exact .inr (.inl ⟨b,cells,f,h1,h2,h3,h4,by simpa [rnR] using h5,h6,z4J hp _ _ _ _ h7⟩)
  ·exact .inr (.inr ⟨x,rnL p hs,obj,f,h1,by simp[h2,rnR,rnL,rn],h3,h4,h5,zUd hp _ _ _ h6⟩)
theorem HInv.swap {Z:Nat→Prop} {G:List (Option OG)} {FP:Nat→List Nat} {H:Heap} {w:World} {i j:Nat} (hi:i<H.length) (hj:j<H.length) (h:HInv Z G FP H w):HInv Z (swL G i j) (fun k=>FP (sw i j k)) (swH H i j) w:=by
 have hg:∀k,(swH H i j)[k]?=(H[sw i j k]?).map (Option.map (rnO (sw i j))):=fun k=>by
  unfold swH
  rw[zL7 (by simpa using hi) (by simpa using hj),List.getElem?_map]
 have hG:∀k,(swL G i j)[k]?=G[sw i j k]?:=fun k=>zL7 (by rw[h.len];exact hi) (by rw[h.len];exact hj) k
 have hp:∀id,id<G.length→sw i j id<(swL G i j).length∧(swL G i j)[sw i j id]?=G[id]?:=fun id hid=>by
  rw[zFd,hG,zVO]
  exact ⟨z1l (by rw[h.len];exact hi) (by rw[h.len];exact hj) hid,rfl⟩
 have hinj:∀a b,sw i j a=sw i j b→a=b:=fun a b e=>by rw[←zVO i j a,e,zVO]
 refine ⟨by rw[zFd,h.len];unfold swH;rw[zFd,List.length_map],fun k hk=>?_,fun k hk=>?_,fun k o hk=>?_,fun k=>h.nodup _,fun a b c ha hb=>hinj a b (h.disj _ _ c ha hb),h.zlt,fun k b hb=>h.flt _ b hb,fun k b hb=>h.zfp _ b hb,h.glob⟩
 ·rw[hg] at hk
  rw[hG]
  cases hx:H[sw i j k]? with
  | none=>rw[hx] at hk;cases hk
  | some x =>
   rw[hx] at hk
   cases x with
   | none=>exact h.dead _ hx
   | some ob=>simp at hk
 ·refine h.nofp _ fun o ho=>hk (rnO (sw i j) o) ?_
  rw[hg,ho];rfl
 ·rw[hg] at hk
  cases hx:H[sw i j k]? with
  | none=>rw[hx] at hk;cases hk
  | some x =>
   rw[hx] at hk
   cases x with
   | none=>simp at hk
   | some ob =>
    simp only[Option.map_some,Option.some.injEq] at hk
    subst hk
    obtain ⟨g,h1,h2⟩:=h.live _ _ hx
    exact ⟨g,by rw[hG];exact h1,by rw[z1w];exact yBP hp h2⟩
def rnT (i j:Nat) (T:Nat→HV):Nat→HV:=fun t=>rn (sw i j) (T t)
theorem Ghost.swap {N L:Nat} {T:Nat→HV} {H:Heap} (i j:Nat) (h1:L≤i) (h2:L≤j) (hi:i<H.length) (hj:j<H.length):Ghost N L T H (rnT i j T) (swH H i j):=fun B Z G FP ds a w hL hs=>by
 have hlen:=hs.inv.len
 have hG:∀k,(swL G i j)[k]?=G[sw i j k]?:=fun k=>zL7 (by rw[hlen];exact hi) (by rw[hlen];exact hj) k
 have hp:∀id,id<G.length→sw i j id<(swL G i j).length∧(swL G i j)[sw i j id]?=G[id]?:=fun id hid=>by
  rw[zFd,hG,zVO]
  exact ⟨z1l (by rw[hlen];exact hi) (by rw[hlen];exact hj) hid,rfl⟩
 refine ⟨Z,swL G i j,fun k=>FP (sw i j k),⟨hs.inv.swap hi hj,hs.size,fun t ht=>zYA hp _ _ _ (hs.tmps t ht),hs.defers,hs.dsn,fun d hd=>?_⟩,⟨by rw[zFd];exact hL,fun id hid=>?_⟩,⟨rfl,rfl,rfl,Nat.le_refl _,fun _ _ _=>rfl,fun _ h=>h,fun _ h=>.inl h,fun k b hb=>.inr ⟨_,hb⟩⟩⟩
 ·obtain ⟨k1,k2,k3,k4⟩:=hs.dsat d hd
  exact ⟨k1,k2,k3,fun id=>k4 _⟩
 ·refine .inr (.inl ?_)
  rw[hG]
  have:sw i j id=id:=by
   unfold sw
   rw[if_neg (by omega),if_neg (by omega)]
  rw[this]
section
variable {p:Nat→Nat} {T:Nat→HV}
theorem z1v {i j t:Nat}:rnT i j T t=rn (sw i j) (T t):=rfl
theorem z9p {i j k:Nat}:sw i j k=if k=i then j else if k=j then i else k:=rfl
theorem yAA {a b c:Nat}:rn p (.hd a b c)=.hd (p a) b c:=rfl
theorem z9v {a b c d:Nat}:rn p (.pt a b c d)=.pt (p a) b c d:=rfl
theorem z9y {a:Nat}:rn p (.mp a)=.mp (p a):=rfl
theorem z9s {a:Nat}:rn p (.yl a)=.yl (p a):=rfl
theorem yAE {cs:List HV}:rn p (.ag cs)=.ag (rnL p cs):=rfl
theorem z9t {cs:List HV}:rn p (.tu cs)=.tu (rnL p cs):=rfl
theorem yAC {f:Nat} {cs:List HV}:rn p (.fn f cs)=.fn f (rnL p cs):=rfl
theorem z9z {t:Nat} {x:HV}:rn p (.ic t x)=.ic t (rn p x):=rfl
theorem z1u:rn p .any=.any:=rfl
theorem rn_v {x:Value}:rn p (.v x)=.v x:=rfl
theorem z9u {r:List (List HV)}:rn p (.sl r)=.sl r:=rfl
theorem z9w {e s:Nat} {r:List (List HV)}:rn p (.ow e s r)=.ow e s r:=rfl
theorem yAB {a b:Nat} {r:List (List HV)}:rn p (.fp r a b)=.fp r a b:=rfl
theorem yAD {e s:Nat} {r:List HV}:rn p (.bx e s r)=.bx e s r:=rfl
theorem z9x {x:Obj} {r:List HV}:rn p (.om x r)=.om x r:=rfl
theorem zYr:rnL p []=[]:=rfl
theorem zVk {h:HV} {t:List HV}:rnL p (h::t)=rn p h::rnL p t:=rfl
theorem zYq {e sz:Nat} {rows:List (List HV)}:rnO p ⟨e,sz,rows⟩=if nmR 0 rows=true then ⟨e,sz,rows⟩ else ⟨e,sz,rows.map (rnL p)⟩:=by
 unfold rnO
 cases h:nmR 0 rows <;> simp[rnR]
theorem z1m {H:Heap} {i j:Nat}:swH H i j=swL (H.map (Option.map (rnO (sw i j)))) i j:=rfl
def swX {α:Type} (l:List α) (i j:Nat):Option α→Option α→List α
 | some a,some b=>(l.set i b).set j a
 | _,_=>l
theorem z9q {α:Type} {l:List α} {i j:Nat}:swL l i j=swX l i j l[i]? l[j]?:=by unfold swL swX;split <;> simp_all
theorem zVP {α:Type} {l:List α} {i j:Nat} {a b:α}:swX l i j (some a) (some b)=(l.set i b).set j a:=rfl
end
attribute [go_sem] z1v yAA z9v z9y z9s yAE z9t yAC z9z z1u rn_v z9u z9w yAB yAD z9x zYr zVk zYq z1m z9q zVP z9p
end Go.Proofs.YtoknohandclcbaaGreat
