/- Parts of the proof: Cb, Se, HiDh, Cg, Pa, Cf, Cc, Cd, Ce, Ci. -/
import Derived.Test.YtoknohandclcbaaGreatZc08
import Derived.Test.YtoknohandclcbaaGreatZc07
open Nat renaming reduceAdd → nA, reduceSub → nS, reduceMul → nM, reduceBEq → nB
open Int renaming reduceToNat → nT
set_option linter.unusedSectionVars false
set_option linter.unusedVariables false
set_option linter.unusedSimpArgs false
namespace Go.Proofs.YtoknohandclcbaaGreat
open Go.RowKit
set_option maxRecDepth 8000
theorem zLp {α:Type} {l:List α} {i:Nat} {x:α} {r:List α} (h:l.length=i):(l++x::r)[i]?=some x:=by subst h;simp
theorem zLh {α:Type} {l:List α} {i:Nat} {x y:α} {r:List α} (h:l.length=i):(l++x::r).set i y=l++y::r:=by subst h;simp
set_option maxHeartbeats 4000000 in
theorem z9r (s:Sta) (hm:s.mem.length≤100000) (ht:s.ths.length≤1000) (hr:∀t∈s.ths,t.regs.length≤100000∧t.buf.length≤100000):HFn Tryz.prog 190 [staH s] (staO s):=by
 refine zU (fn:=Tryz.f190) 41 [.cell 2 79] (by kernel_rfl) rfl rfl (by kernel_rfl) (HW.run 400 (by kernel_rfl) ?_)
 simp +decide only[go_sem,nT,nA,nS,nM,nB,reduceIte,reduceCtorEq]
 refine HW.float 80 8 (2,0) [2,5] 7 _ follows (by kernel_rfl) (by decide) rfl (by kernel_rfl) ?_
 simp +decide only[go_sem,nT,nA,nS,nM,nB,reduceIte,reduceCtorEq]
 refine zB3 (zAh s.mem (by omega)) rfl rfl ?_
 simp +decide only[go_sem,nT,nA,nS,nM,nB,reduceIte,reduceCtorEq]
 refine zB3 (zKs s.ths (by omega)) rfl rfl ?_
 simp +decide only[go_sem,nT,nA,nS,nM,nB,reduceIte,reduceCtorEq]
 refine HW.loopG (fun k T H=>∃i:Nat,k=s.ths.length-i∧i≤s.ths.length∧T 2=.pt 1 1 0 0∧T 3=.pt 4 1 0 0∧T 15=.v (.int .i64 s.ths.length)∧T 16=.v (.int .i64 i)∧
  H=[some ⟨79,2,[[.sl (ints s.mem),.sl (thds s.ths)]]⟩,some ⟨79,2,[[.v (.slice none 0 0),.v (.slice none 0 0)]]⟩,some ⟨3,1,ints s.mem⟩,some ⟨106,4,zW (s.ths.take i)++thds (s.ths.drop i)⟩,some ⟨79,2,[[.hd 2 0 s.mem.length,.hd 3 0 s.ths.length]]⟩]) s.ths.length
  ⟨_,_,Ghost.refl,0,rfl,by omega,rfl,rfl,rfl,rfl,?_⟩ ?_
 ·rfl
 rintro k T H ⟨i,rfl,hi,h2,h3,h15,h16,rfl⟩
 refine HW.run 200 (by kernel_rfl) ?_
 by_cases hlt:i<s.ths.length
 ·have hlt' : ((i:Int)<(s.ths.length:Int))=True:=by rw[z8];simp[hlt]
  have hx:s.ths[i]?=some s.ths[i]:=List.getElem?_eq_getElem hlt
  obtain ⟨r1,r2⟩:=hr _ (List.getElem_mem hlt)
  have htk:s.ths.take (i+1)=s.ths.take i++[s.ths[i]]:=by rw[List.take_add_one,hx];rfl
  have hdr:s.ths.drop i=s.ths[i]::s.ths.drop (i+1):=List.drop_eq_getElem_cons hlt
  generalize s.ths[i]=x at hx r1 r2 htk hdr
  have hlk:(s.ths.take i).length=i:=by rw[List.length_take];omega
  have hlen:(zW (s.ths.take i)).length=i:=by simp[zW];omega
  rw[hdr]
  have hrl:∀X,(zW (s.ths.take i)++X::thds (s.ths.drop (i+1)))[i]?=some X:=fun X=>zLp hlen
  have hsl:∀X Y,(zW (s.ths.take i)++X::thds (s.ths.drop (i+1))).set i Y=zW (s.ths.take i)++Y::thds (s.ths.drop (i+1)):=fun X Y=>zLh hlen
  have hn:i+(s.ths.length-(i+1)+1)=s.ths.length:=by omega
  have hlv:(s.ths.length == s.ths.length && s.ths.length != 0)=true:=by
   rw[Bool.and_eq_true]
   exact ⟨beq_self_eq_true _,by simp only[bne_iff_ne];omega⟩
  simp +decide only[go_sem,nT,nA,nS,nM,nB,reduceIte,reduceCtorEq,h2,h3,h15,h16,hlt',hx,hlk,zBR,hrl,hsl,List.length_drop,hn,hlv]
  repeat (with_reducible refine And.intro ?_ ?_;·(with_reducible and_intros) <;> omega)
  refine HW.mixed 80 15 (3,5) [6,11,14,2014,1003,1004,1005,1008,1009,1010,1012,1013] follows (by kernel_rfl) (by decide) ?_
  simp +decide only[go_sem,nT,nA,nS,nM,nB,reduceIte,reduceCtorEq,h2,h3,h15,h16,hlt',hx,hlk,zBR,hrl,hsl,List.length_drop,hn,hlv]
  refine zB3 (zAh x.regs (by omega)) rfl rfl ?_
  simp +decide only[go_sem,nT,nA,nS,nM,nB,reduceIte,reduceCtorEq,h2,h3,h15,h16,hlt',hx,hlk,zBR,hrl,hsl,List.length_drop,hn,hlv]
  refine zB3 (zCQ x.buf (by omega)) rfl rfl ?_
  simp +decide only[go_sem,nT,nA,nS,nM,nB,reduceIte,reduceCtorEq,h2,h3,h15,h16,hlt',hx,hlk,zBR,hrl,hsl,List.length_drop,hn,hlv]
  refine GQ.step (Ghost.absorb 3 i 1) ?_
  simp +decide only[go_sem,nT,nA,nS,nM,nB,reduceIte,reduceCtorEq,hrl,hsl,zCU,zCK]
  refine GQ.step (Ghost.absorb 3 i 3) ?_
  simp +decide only[go_sem,nT,nA,nS,nM,nB,reduceIte,reduceCtorEq,hrl,hsl,zCU,zCK]
  refine GQ.step (Ghost.trunc [2,3,15,16] 5 (by omega) ?_ ?_) (GQ.done ⟨s.ths.length-(i+1),by omega,i+1,rfl,by omega,?_,?_,?_,?_,?_⟩)
  ·simp +decide only[go_sem,nB,reduceIte,h2,h3,h15]
  ·simp +decide only[go_sem,nB,reduceIte,List.set_cons_succ,List.set_cons_zero,zDA]
  iterate 3 simp +decide only[go_sem,nB,reduceIte,h2,h3,h15]
  ·simp +decide only[go_sem,nB,reduceIte];rw[w64 (by omega) (by omega)];rfl
  ·have e:zW (s.ths.take i)++zBB x::thds (s.ths.drop (i+1))=zW (s.ths.take (i+1))++thds (s.ths.drop (i+1)):=by
    rw[htk,←zE1];simp
   simp +decide only[go_sem,nT,nA,nS,nM,nB,reduceIte,reduceCtorEq,hsl]
   rw[←e]
   rfl
 ·have hlt' : ((i:Int)<(s.ths.length:Int))=False:=by rw[z8];simp[hlt]
  have e:i=s.ths.length:=by omega
  have htk:s.ths.take i=s.ths:=by rw[e,List.take_length]
  have hdr:s.ths.drop i=[]:=by rw[e,List.drop_length]
  simp +decide only[go_sem,nT,nA,nS,nM,nB,reduceIte,reduceCtorEq,h2,h3,h15,h16,hlt',htk,hdr]
set_option maxHeartbeats 4000000 in
theorem zJI (s:Sta) (hm:s.mem.length≤100000) (ht:s.ths.length≤1000) (hr:∀t∈s.ths,t.regs.length≤100000∧t.buf.length≤100000):HFn Tryz.prog 126 [staH s] (staO s):=by
 refine zU (fn:=Tryz.f126) 41 [.cell 2 79] (by kernel_rfl) rfl rfl (by kernel_rfl) (HW.run 400 (by kernel_rfl) ?_)
 simp +decide only[go_sem,nT,nA,nS,nM,nB,reduceIte,reduceCtorEq]
 refine HW.float 80 8 (2,0) [2,5] 7 _ follows (by kernel_rfl) (by decide) rfl (by kernel_rfl) ?_
 simp +decide only[go_sem,nT,nA,nS,nM,nB,reduceIte,reduceCtorEq]
 refine zB3 (zAh s.mem (by omega)) rfl rfl ?_
 simp +decide only[go_sem,nT,nA,nS,nM,nB,reduceIte,reduceCtorEq]
 refine zB3 (zKs s.ths (by omega)) rfl rfl ?_
 simp +decide only[go_sem,nT,nA,nS,nM,nB,reduceIte,reduceCtorEq]
 refine HW.loopG (fun k T H=>∃i:Nat,k=s.ths.length-i∧i≤s.ths.length∧T 2=.pt 1 1 0 0∧T 3=.pt 4 1 0 0∧T 15=.v (.int .i64 s.ths.length)∧T 16=.v (.int .i64 i)∧
  H=[some ⟨79,2,[[.sl (ints s.mem),.sl (thds s.ths)]]⟩,some ⟨79,2,[[.v (.slice none 0 0),.v (.slice none 0 0)]]⟩,some ⟨3,1,ints s.mem⟩,some ⟨106,4,zW (s.ths.take i)++thds (s.ths.drop i)⟩,some ⟨79,2,[[.hd 2 0 s.mem.length,.hd 3 0 s.ths.length]]⟩]) s.ths.length
  ⟨_,_,Ghost.refl,0,rfl,by omega,rfl,rfl,rfl,rfl,?_⟩ ?_
 ·rfl
 rintro k T H ⟨i,rfl,hi,h2,h3,h15,h16,rfl⟩
 refine HW.run 200 (by kernel_rfl) ?_
 by_cases hlt:i<s.ths.length
 ·have hlt' : ((i:Int)<(s.ths.length:Int))=True:=by rw[z8];simp[hlt]
  have hx:s.ths[i]?=some s.ths[i]:=List.getElem?_eq_getElem hlt
  obtain ⟨r1,r2⟩:=hr _ (List.getElem_mem hlt)
  have htk:s.ths.take (i+1)=s.ths.take i++[s.ths[i]]:=by rw[List.take_add_one,hx];rfl
  have hdr:s.ths.drop i=s.ths[i]::s.ths.drop (i+1):=List.drop_eq_getElem_cons hlt
  generalize s.ths[i]=x at hx r1 r2 htk hdr
  have hlk:(s.ths.take i).length=i:=by rw[List.length_take];omega
  have hlen:(zW (s.ths.take i)).length=i:=by simp[zW];omega
  rw[hdr]
  have hrl:∀X,(zW (s.ths.take i)++X::thds (s.ths.drop (i+1)))[i]?=some X:=fun X=>zLp hlen
  have hsl:∀X Y,(zW (s.ths.take i)++X::thds (s.ths.drop (i+1))).set i Y=zW (s.ths.take i)++Y::thds (s.ths.drop (i+1)):=fun X Y=>zLh hlen
  have hn:i+(s.ths.length-(i+1)+1)=s.ths.length:=by omega
  have hlv:(s.ths.length == s.ths.length && s.ths.length != 0)=true:=by
   rw[Bool.and_eq_true]
   exact ⟨beq_self_eq_true _,by simp only[bne_iff_ne];omega⟩
  simp +decide only[go_sem,nT,nA,nS,nM,nB,reduceIte,reduceCtorEq,h2,h3,h15,h16,hlt',hx,hlk,zBR,hrl,hsl,List.length_drop,hn,hlv]
  repeat (with_reducible refine And.intro ?_ ?_;·(with_reducible and_intros) <;> omega)
  refine HW.mixed 80 15 (3,5) [6,11,14,2014,1003,1004,1005,1008,1009,1010,1012,1013] follows (by kernel_rfl) (by decide) ?_
  simp +decide only[go_sem,nT,nA,nS,nM,nB,reduceIte,reduceCtorEq,h2,h3,h15,h16,hlt',hx,hlk,zBR,hrl,hsl,List.length_drop,hn,hlv]
  refine zB3 (zAh x.regs (by omega)) rfl rfl ?_
  simp +decide only[go_sem,nT,nA,nS,nM,nB,reduceIte,reduceCtorEq,h2,h3,h15,h16,hlt',hx,hlk,zBR,hrl,hsl,List.length_drop,hn,hlv]
  refine zB3 (zCQ x.buf (by omega)) rfl rfl ?_
  simp +decide only[go_sem,nT,nA,nS,nM,nB,reduceIte,reduceCtorEq,h2,h3,h15,h16,hlt',hx,hlk,zBR,hrl,hsl,List.length_drop,hn,hlv]
  refine GQ.step (Ghost.absorb 3 i 1) ?_
  simp +decide only[go_sem,nT,nA,nS,nM,nB,reduceIte,reduceCtorEq,hrl,hsl,zCU,zCK]
  refine GQ.step (Ghost.absorb 3 i 3) ?_
  simp +decide only[go_sem,nT,nA,nS,nM,nB,reduceIte,reduceCtorEq,hrl,hsl,zCU,zCK]
  refine GQ.step (Ghost.trunc [2,3,15,16] 5 (by omega) ?_ ?_) (GQ.done ⟨s.ths.length-(i+1),by omega,i+1,rfl,by omega,?_,?_,?_,?_,?_⟩)
  ·simp +decide only[go_sem,nB,reduceIte,h2,h3,h15]
  ·simp +decide only[go_sem,nB,reduceIte,List.set_cons_succ,List.set_cons_zero,zDA]
  iterate 3 simp +decide only[go_sem,nB,reduceIte,h2,h3,h15]
  ·simp +decide only[go_sem,nB,reduceIte];rw[w64 (by omega) (by omega)];rfl
  ·have e:zW (s.ths.take i)++zBB x::thds (s.ths.drop (i+1))=zW (s.ths.take (i+1))++thds (s.ths.drop (i+1)):=by
    rw[htk,←zE1];simp
   simp +decide only[go_sem,nT,nA,nS,nM,nB,reduceIte,reduceCtorEq,hsl]
   rw[←e]
   rfl
 ·have hlt' : ((i:Int)<(s.ths.length:Int))=False:=by rw[z8];simp[hlt]
  have e:i=s.ths.length:=by omega
  have htk:s.ths.take i=s.ths:=by rw[e,List.take_length]
  have hdr:s.ths.drop i=[]:=by rw[e,List.drop_length]
  simp +decide only[go_sem,nT,nA,nS,nM,nB,reduceIte,reduceCtorEq,h2,h3,h15,h16,hlt',htk,hdr]
end Go.Proofs.YtoknohandclcbaaGreat
namespace Go.Proofs.YtoknohandclcbaaGreat
open Go.RowKit
set_option maxRecDepth 8000
abbrev stpH (x:Stp):HV:=.ag [.v (.int .i64 x.op),.v (.int .i64 x.reg),.v (.int .i64 x.loc),.v (.int .i64 x.n),.v (.int .i64 x.to)]
theorem zF8 {p:Prg} {s:Sta} {th:Int} (h:atS p s th=none):zD1 p s th=(s,false):=by unfold zD1;rw[h]
theorem zOJ {p:Prg} {s:Sta} {th:Int} {x:Stp} (h:atS p s th=some x):zD1 p s th=(zBT s th (zM x s.mem (thAt s th)).1 (zM x s.mem (thAt s th)).2,true):=by unfold zD1;rw[h]
end Go.Proofs.YtoknohandclcbaaGreat
namespace Go.Proofs.YtoknohandclcbaaGreat
open Go.RowKit
section
variable {N L:Nat} {T:Nat→HV} {H:Heap}
theorem Ghost.freeze (i n j q o:Nat) {ob:HObj} {row:List HV} (hi:T i=.pt n j q o) (ho:H[n]?=some (some ob)) (hj:j=ob.rows.length) (hq:ob.rows[q]?=some row):Ghost N L T H (upd T i (.fp (fzoR ob.rows) q o)) (H.set n none):=fun B Z G FP ds a w hL hs=>by
 have hk:=hs.inv.freeze n
 have hG:GLe G (G.set n none):=GLe.kill n
 have hE:Evo Z FP w (Zid Z FP n) (fun j=>if j=n then [] else FP j) w:=zDH n
 have hs':=hs.evo hk hG hE
 refine ⟨_,_,_,⟨hs'.inv,hs'.size,fun c hc=>?_,hs'.defers,hs'.dsn,hs'.dsat⟩,GLt.of hL hG,hE⟩
 unfold upd
 split
 ·rename_i e
  subst e
  have h0:=hs.tmps c hc
  rw[hi] at h0
  obtain ⟨g,b,cells,f,hg,hOB,hb,e2,e3,e4,e5,e6,e7,hy,hrl⟩:=zPM hs.inv ho hj hq h0
  rw[hy]
  simp only[RV]
  have hrow:zFv (fzoR ob.rows)=ob.sz:=by
   cases hr:ob.rows with
   | nil=>rw[hr] at hq;cases hq
   | cons r0 rs =>
    have:=hOB.len r0 (by rw[hr];simp)
    simp only[fzoR,zFv,List.headD_cons]
    rw[zA0];exact this
  refine ⟨trivial,b,0,by rw[hrow,Nat.zero_add],.inr (by rw[e2];simp),?_,?_⟩
  ·refine zBy (sz:=ob.sz) fun r hr=>?_
   rw[zBv] at hr
   obtain ⟨r',hr',rfl⟩:=List.mem_map.1 hr
   rw[zA0];exact hOB.len r' hr'
  ·exact zCN ob.rows G b 0 f ⟨fun b hb=>.inl hb,fun b hb=>.inr (by rw[e2];simp[hb])⟩ e7
 ·exact hs'.tmps c hc
end
end Go.Proofs.YtoknohandclcbaaGreat
namespace Go.Proofs.YtoknohandclcbaaGreat
open Go.RowKit
set_option maxRecDepth 8000
theorem zAK {L:Nat} {H:Heap}:zAl L (zDM []) H=(.tu [],H):=rfl
theorem zBO {L:Nat} {Q:HV→Heap→Prop} {x:HV} {H:Heap}:endP L Q (x,H)=(nmH L H=true∧Q x (H.take L)):=rfl
abbrev z1k (p:Prg) (s:Sta) (mem:List Int) (ths:List (List HV)) (t:Nat):Heap :=
  [some ⟨25,2,[[.sl (ints p.init),.sl (thrs p.thr)]]⟩,some ⟨79,2,[[.sl (ints s.mem),.sl (thds s.ths)]]⟩,
   some ⟨79,2,[[.v (.slice none 0 0),.v (.slice none 0 0)]]⟩,some ⟨3,1,ints mem⟩,some ⟨106,4,ths⟩,
   some ⟨79,2,[[.hd 3 0 s.mem.length,.hd 4 0 s.ths.length]]⟩,some ⟨230,2,[[.pt 4 s.ths.length t 0,.hd 3 0 s.mem.length]]⟩]
set_option maxHeartbeats 8000000 in
theorem z9o (p:Prg) (s:Sta) (x:Stp) (y:Thd) (t k many:Nat) (ht:t<s.ths.length) (hx:s.ths[t]?=some y) (hR:RightX p x k many) (hmany:many≤80) (q2:y.regs.length=4) (hmm:s.mem.length=p.init.length) (hin:p.init.length≤4) (hk:0≤y.pc∧y.pc≤1000) :
  HCalls Tryz.prog 191 (z1k p s s.mem (zW s.ths) t) [.pt 6 1 0 0,.ag [.v (.int .i64 x.op),.v (.int .i64 x.reg),.v (.int .i64 x.loc),.v (.int .i64 x.n),.v (.int .i64 x.to)]]
   (fun r H'=>r=.tu []∧H'=z1k p s (zM x s.mem y).1 ((zW s.ths).set t (zBB (zM x s.mem y).2)) t):=by
 refine zU (fn:=Tryz.f191) 173 [] (by kernel_rfl) rfl rfl (by kernel_rfl) (HW.weaken (Q':=fun e=>GQ _ _ (endC _ _ _ _ e)) (HW.run 400 (by kernel_rfl) ?_) (fun _ _ _ h=>h))
 have hst:∀X,((zW s.ths).set t X)[t]?=some X:=zE5 (by rw[zAf];exact ht)
 have hw:IntKind.i64.wrap (y.pc+1)=y.pc+1:=w64 (by omega) (by omega)
 have r1:(0≤x.reg)=True:=by simp only[eq_iff_iff,iff_true];exact hR.reg.1
 have r2:(x.reg<(y.regs.length:Int))=True:=by have:=hR.reg.2.1;simp only[eq_iff_iff,iff_true];omega
 have r3:y.regs[x.reg.toNat]?=some (getI y.regs x.reg):=by
  have:x.reg.toNat<y.regs.length:=by have:=hR.reg;omega
  unfold getI;rw[List.getElem?_eq_getElem this];rfl
 have hlv:(s.ths.length == s.ths.length && s.ths.length != 0)=true:=by
  rw[Bool.and_eq_true]
  exact ⟨beq_self_eq_true _,by simp only[bne_iff_ne];omega⟩
 have hop:x.op=1∨x.op=2∨x.op=3∨x.op=4∨x.op=5∨x.op=6∨x.op=7∨x.op=8∨x.op=9∨x.op=10:=by have:=hR.op;omega
 have locs:hasL x.op=true→(0≤x.loc)=True∧(x.loc<(s.mem.length:Int))=True∧s.mem[x.loc.toNat]?=some (getI s.mem x.loc):=fun h=>by
  obtain ⟨k1,k2⟩:=hR.loc.1 h
  refine ⟨by simp[k1],by simp only[eq_iff_iff,iff_true];omega,?_⟩
  have:x.loc.toNat<s.mem.length:=by omega
  unfold getI;rw[List.getElem?_eq_getElem this];rfl
 rcases hop with h | h | h | h | h | h | h | h | h | h
 ·have hj:zAP x y.eq=false:=by simp[zAP,h]
  have e:zM x s.mem y=(s.mem,{ y with pc:=y.pc+1,regs:=setI y.regs x.reg x.n }):=by simp[zM,h,hj]
  rw[e]
  simp +decide only[go_sem,nT,nA,nS,nM,nB,reduceIte,reduceCtorEq,hx,h,hw,hlv,hst,r1,r2,r3,List.map_set,List.set_set,setI]
  refine HW.ghost (Ghost.open 4 t 1) ?_
  simp +decide only[go_sem,nT,nA,nS,nM,nB,reduceIte,reduceCtorEq,hx,h,hw,hlv,hst,r1,r2,r3,List.map_set,List.set_set,setI]
  refine HW.mixed 120 11 (9,0) [] follows (by kernel_rfl) (by decide) ?_
  simp +decide only[go_sem,nT,nA,nS,nM,nB,reduceIte,reduceCtorEq,hx,h,hw,hlv,hst,r1,r2,r3,List.map_set,List.set_set,setI]
  refine GQ.step (Ghost.absorb 4 t 1) ?_
  simp +decide only[go_sem,nT,nA,nS,nM,nB,reduceIte,reduceCtorEq,hst,List.set_set,setI]
  refine GQ.done ?_
  simp +decide only[go_sem,nT,nA,nS,nM,nB,reduceIte,reduceCtorEq,hst,List.set_set,setI,zAK,zBO]
  try exact ⟨rfl,rfl⟩
 ·have hj:zAP x y.eq=false:=by simp[zAP,h]
  have e:zM x s.mem y=(s.mem,{ y with pc:=y.pc+1,regs:=setI y.regs x.reg (getI s.mem x.loc) }):=by simp[zM,h,hj]
  rw[e]
  obtain ⟨m1,m2,m3⟩:=locs (by rw[h];rfl)
  have hms:∀v,(s.mem.set x.loc.toNat v)[x.loc.toNat]?=some v:=fun v=>by simp[(List.getElem?_eq_some_iff.1 m3).1]
  have hrs:y.regs.set x.reg.toNat (getI y.regs x.reg)=y.regs:=zAI r3
  simp +decide only[go_sem,nT,nA,nS,nM,nB,reduceIte,reduceCtorEq,hx,h,hw,hlv,hst,r1,r2,r3,List.map_set,List.set_set,setI,m1,m2,m3,hms,hrs,List.length_set]
  refine HW.ghost (Ghost.open 4 t 1) ?_
  simp +decide only[go_sem,nT,nA,nS,nM,nB,reduceIte,reduceCtorEq,hx,h,hw,hlv,hst,r1,r2,r3,List.map_set,List.set_set,setI,m1,m2,m3,hms,hrs,List.length_set]
  refine HW.mixed 120 17 (9,0) [] follows (by kernel_rfl) (by decide) ?_
  simp +decide only[go_sem,nT,nA,nS,nM,nB,reduceIte,reduceCtorEq,hx,h,hw,hlv,hst,r1,r2,r3,List.map_set,List.set_set,setI,m1,m2,m3,hms,hrs,List.length_set]
  refine GQ.step (Ghost.absorb 4 t 1) ?_
  simp +decide only[go_sem,nT,nA,nS,nM,nB,reduceIte,reduceCtorEq,hst,List.set_set,setI]
  refine GQ.done ?_
  simp +decide only[go_sem,nT,nA,nS,nM,nB,reduceIte,reduceCtorEq,hst,List.set_set,setI,zAK,zBO]
  try exact ⟨rfl,rfl⟩
 ·have hj:zAP x y.eq=false:=by simp[zAP,h]
  have e:zM x s.mem y=(setI s.mem x.loc (getI y.regs x.reg),{ y with pc:=y.pc+1 }):=by simp[zM,h,hj]
  rw[e]
  obtain ⟨m1,m2,m3⟩:=locs (by rw[h];rfl)
  have hms:∀v,(s.mem.set x.loc.toNat v)[x.loc.toNat]?=some v:=fun v=>by simp[(List.getElem?_eq_some_iff.1 m3).1]
  have hrs:y.regs.set x.reg.toNat (getI y.regs x.reg)=y.regs:=zAI r3
  simp +decide only[go_sem,nT,nA,nS,nM,nB,reduceIte,reduceCtorEq,hx,h,hw,hlv,hst,r1,r2,r3,List.map_set,List.set_set,setI,m1,m2,m3,hms,hrs,List.length_set]
  refine HW.ghost (Ghost.open 4 t 1) ?_
  simp +decide only[go_sem,nT,nA,nS,nM,nB,reduceIte,reduceCtorEq,hx,h,hw,hlv,hst,r1,r2,r3,List.map_set,List.set_set,setI,m1,m2,m3,hms,hrs,List.length_set]
  refine HW.mixed 120 17 (9,0) [] follows (by kernel_rfl) (by decide) ?_
  simp +decide only[go_sem,nT,nA,nS,nM,nB,reduceIte,reduceCtorEq,hx,h,hw,hlv,hst,r1,r2,r3,List.map_set,List.set_set,setI,m1,m2,m3,hms,hrs,List.length_set]
  refine HW.mixed 120 17 (9,0) [] follows (by kernel_rfl) (by decide) ?_
  simp +decide only[go_sem,nT,nA,nS,nM,nB,reduceIte,reduceCtorEq,hx,h,hw,hlv,hst,r1,r2,r3,List.map_set,List.set_set,setI,m1,m2,m3,hms,hrs,List.length_set]
  refine GQ.step (Ghost.absorb 4 t 1) ?_
  simp +decide only[go_sem,nT,nA,nS,nM,nB,reduceIte,reduceCtorEq,hst,List.set_set,setI]
  refine GQ.done ?_
  simp +decide only[go_sem,nT,nA,nS,nM,nB,reduceIte,reduceCtorEq,hst,List.set_set,setI,zAK,zBO]
  try exact ⟨rfl,rfl⟩
 ·have hj:zAP x y.eq=false:=by simp[zAP,h]
  have e:zM x s.mem y=(setI s.mem x.loc x.n,{ y with pc:=y.pc+1 }):=by simp[zM,h,hj]
  rw[e]
  obtain ⟨m1,m2,m3⟩:=locs (by rw[h];rfl)
  have hms:∀v,(s.mem.set x.loc.toNat v)[x.loc.toNat]?=some v:=fun v=>by simp[(List.getElem?_eq_some_iff.1 m3).1]
  have hrs:y.regs.set x.reg.toNat (getI y.regs x.reg)=y.regs:=zAI r3
  simp +decide only[go_sem,nT,nA,nS,nM,nB,reduceIte,reduceCtorEq,hx,h,hw,hlv,hst,r1,r2,r3,List.map_set,List.set_set,setI,m1,m2,m3,hms,hrs,List.length_set]
  refine HW.ghost (Ghost.open 4 t 1) ?_
  simp +decide only[go_sem,nT,nA,nS,nM,nB,reduceIte,reduceCtorEq,hx,h,hw,hlv,hst,r1,r2,r3,List.map_set,List.set_set,setI,m1,m2,m3,hms,hrs,List.length_set]
  refine HW.mixed 120 8 (9,0) [] follows (by kernel_rfl) (by decide) ?_
  simp +decide only[go_sem,nT,nA,nS,nM,nB,reduceIte,reduceCtorEq,hx,h,hw,hlv,hst,r1,r2,r3,List.map_set,List.set_set,setI,m1,m2,m3,hms,hrs,List.length_set]
  refine GQ.step (Ghost.absorb 4 t 1) ?_
  simp +decide only[go_sem,nT,nA,nS,nM,nB,reduceIte,reduceCtorEq,hst,List.set_set,setI]
  refine GQ.done ?_
  simp +decide only[go_sem,nT,nA,nS,nM,nB,reduceIte,reduceCtorEq,hst,List.set_set,setI,zAK,zBO]
  try exact ⟨rfl,rfl⟩
 ·have hj:zAP x y.eq=false:=by simp[zAP,h]
  have e:zM x s.mem y=(setI s.mem x.loc (getI y.regs x.reg),{ y with pc:=y.pc+1,regs:=setI y.regs x.reg (getI s.mem x.loc) }):=by simp[zM,h,hj]
  rw[e]
  obtain ⟨m1,m2,m3⟩:=locs (by rw[h];rfl)
  have hms:∀v,(s.mem.set x.loc.toNat v)[x.loc.toNat]?=some v:=fun v=>by simp[(List.getElem?_eq_some_iff.1 m3).1]
  have hrs:y.regs.set x.reg.toNat (getI y.regs x.reg)=y.regs:=zAI r3
  simp +decide only[go_sem,nT,nA,nS,nM,nB,reduceIte,reduceCtorEq,hx,h,hw,hlv,hst,r1,r2,r3,List.map_set,List.set_set,setI,m1,m2,m3,hms,hrs,List.length_set]
  refine HW.ghost (Ghost.open 4 t 1) ?_
  simp +decide only[go_sem,nT,nA,nS,nM,nB,reduceIte,reduceCtorEq,hx,h,hw,hlv,hst,r1,r2,r3,List.map_set,List.set_set,setI,m1,m2,m3,hms,hrs,List.length_set]
  refine HW.ghost (Ghost.freeze 3 7 1 0 0 rfl rfl rfl rfl) ?_
  refine HW.mixed 160 36 (3,9) [35,2035,1000,1001,1002,1003,1004,1005,1006,1007,1008,1009,1010,1011,1012,1015,1016,1017,1018,1019,1020,1021,1022,1023,1024,1025,1026,1027,1028,1029,1030,1031,1032,1033,1034] follows (by kernel_rfl) (by decide) ?_
  simp +decide only[go_sem,nT,nA,nS,nM,nB,reduceIte,reduceCtorEq,hx,h,hw,hlv,hst,r1,r2,r3,List.map_set,List.set_set,setI,m1,m2,m3,hms,hrs,List.length_set]
  refine GQ.step (Ghost.absorb 4 t 1) ?_
  simp +decide only[go_sem,nT,nA,nS,nM,nB,reduceIte,reduceCtorEq,hst,List.set_set,setI]
  refine GQ.done ?_
  simp +decide only[go_sem,nT,nA,nS,nM,nB,reduceIte,reduceCtorEq,hst,List.set_set,setI,zAK,zBO]
  try exact ⟨rfl,rfl⟩
 ·have hj:zAP x y.eq=false:=by simp[zAP,h]
  have e:zM x s.mem y=(s.mem,{ y with pc:=y.pc+1 }):=by simp[zM,h,hj]
  rw[e]
  simp +decide only[go_sem,nT,nA,nS,nM,nB,reduceIte,reduceCtorEq,hx,h,hw,hlv,hst,r1,r2,r3,List.map_set,List.set_set,setI]
  refine GQ.done ?_
  simp +decide only[go_sem,nT,nA,nS,nM,nB,reduceIte,reduceCtorEq,hst,List.set_set,setI,zAK,zBO]
  try exact ⟨rfl,rfl⟩
 ·have hj:zAP x y.eq=false:=by simp[zAP,h]
  have e:zM x s.mem y=(s.mem,{ y with pc:=y.pc+1,eq:=decide (getI y.regs x.reg=x.n) }):=by simp[zM,h,hj]
  rw[e]
  simp +decide only[go_sem,nT,nA,nS,nM,nB,reduceIte,reduceCtorEq,hx,h,hw,hlv,hst,r1,r2,r3,List.map_set,List.set_set,setI]
  refine HW.ghost (Ghost.open 4 t 1) ?_
  simp +decide only[go_sem,nT,nA,nS,nM,nB,reduceIte,reduceCtorEq,hx,h,hw,hlv,hst,r1,r2,r3,List.map_set,List.set_set,setI]
  refine HW.mixed 120 18 (9,0) [] follows (by kernel_rfl) (by decide) ?_
  simp +decide only[go_sem,nT,nA,nS,nM,nB,reduceIte,reduceCtorEq,hx,h,hw,hlv,hst,r1,r2,r3,List.map_set,List.set_set,setI]
  refine GQ.step (Ghost.absorb 4 t 1) ?_
  simp +decide only[go_sem,nT,nA,nS,nM,nB,reduceIte,reduceCtorEq,hst,List.set_set,setI]
  refine GQ.done ?_
  simp +decide only[go_sem,nT,nA,nS,nM,nB,reduceIte,reduceCtorEq,hst,List.set_set,setI,zAK,zBO]
  try exact ⟨rfl,rfl⟩
 ·have hj:zAP x y.eq=true:=by simp[zAP,h]
  have e:zM x s.mem y=(s.mem,{ y with pc:=x.to }):=by simp[zM,h,hj]
  rw[e]
  simp +decide only[go_sem,nT,nA,nS,nM,nB,reduceIte,reduceCtorEq,hx,h,hw,hlv,hst,r1,r2,r3,List.map_set,List.set_set,setI]
  refine GQ.done ?_
  simp +decide only[go_sem,nT,nA,nS,nM,nB,reduceIte,reduceCtorEq,hst,List.set_set,setI,zAK,zBO]
  try exact ⟨rfl,rfl⟩
 ·cases he:y.eq with
  | true =>
   have hj:zAP x y.eq=true:=by simp[zAP,h,he]
   have e:zM x s.mem y=(s.mem,{ y with pc:=x.to }):=by simp[zM,h,hj]
   rw[e]
   simp +decide only[go_sem,nT,nA,nS,nM,nB,reduceIte,reduceCtorEq,hx,h,hw,hlv,hst,r1,r2,r3,List.map_set,List.set_set,setI,he]
   refine GQ.done ?_
   simp +decide only[go_sem,nT,nA,nS,nM,nB,reduceIte,reduceCtorEq,hst,List.set_set,setI,zAK,zBO]
   try exact ⟨rfl,rfl⟩
  | false =>
   have hj:zAP x y.eq=false:=by simp[zAP,h,he]
   have e:zM x s.mem y=(s.mem,{ y with pc:=y.pc+1 }):=by simp[zM,h,hj]
   rw[e]
   simp +decide only[go_sem,nT,nA,nS,nM,nB,reduceIte,reduceCtorEq,hx,h,hw,hlv,hst,r1,r2,r3,List.map_set,List.set_set,setI,he]
   refine GQ.done ?_
   simp +decide only[go_sem,nT,nA,nS,nM,nB,reduceIte,reduceCtorEq,hst,List.set_set,setI,zAK,zBO]
   try exact ⟨rfl,rfl⟩
 ·cases he:y.eq with
  | false =>
   have hj:zAP x y.eq=true:=by simp[zAP,h,he]
   have e:zM x s.mem y=(s.mem,{ y with pc:=x.to }):=by simp[zM,h,hj]
   rw[e]
   simp +decide only[go_sem,nT,nA,nS,nM,nB,reduceIte,reduceCtorEq,hx,h,hw,hlv,hst,r1,r2,r3,List.map_set,List.set_set,setI,he]
   refine GQ.done ?_
   simp +decide only[go_sem,nT,nA,nS,nM,nB,reduceIte,reduceCtorEq,hst,List.set_set,setI,zAK,zBO]
   try exact ⟨rfl,rfl⟩
  | true =>
   have hj:zAP x y.eq=false:=by simp[zAP,h,he]
   have e:zM x s.mem y=(s.mem,{ y with pc:=y.pc+1 }):=by simp[zM,h,hj]
   rw[e]
   simp +decide only[go_sem,nT,nA,nS,nM,nB,reduceIte,reduceCtorEq,hx,h,hw,hlv,hst,r1,r2,r3,List.map_set,List.set_set,setI,he]
   refine GQ.done ?_
   simp +decide only[go_sem,nT,nA,nS,nM,nB,reduceIte,reduceCtorEq,hst,List.set_set,setI,zAK,zBO]
   try exact ⟨rfl,rfl⟩
end Go.Proofs.YtoknohandclcbaaGreat
namespace Go.Proofs.YtoknohandclcbaaGreat
set_option maxRecDepth 8000
theorem zBa {l:List Int} {i x:Int}:(setI l i x).length=l.length:=by simp[setI]
theorem zCw {x:Stp} {mem:List Int} {t:Thd}:(zM x mem t).1.length=mem.length:=by
 unfold zM
 dsimp only
 repeat' split
 all_goals simp[zBa]
theorem zDZ {x:Stp} {mem:List Int} {t:Thd}:(zM x mem t).2.regs.length=t.regs.length:=by
 unfold zM
 dsimp only
 repeat' split
 all_goals simp[zBa]
theorem zB5 {x:Stp} {mem:List Int} {t:Thd}:(zM x mem t).2.buf=t.buf:=by
 unfold zM
 dsimp only
 repeat' split
 all_goals rfl
theorem zJR {x:Stp} {mem:List Int} {t:Thd}:(zM x mem t).2.pc=if zAP x t.eq=true then x.to else t.pc+1:=by
 unfold zM
 dsimp only
 repeat' split
 all_goals first | rfl | simp_all
section
variable {p:Prg} {s:Sta}
theorem zF0 {th:Int} (h:0≤th∧th<s.ths.length):s.ths[th.toNat]?=some (thAt s th):=by
 unfold thAt
 rw[List.getElem?_eq_getElem (show th.toNat<s.ths.length by omega)];rfl
theorem zIw {th:Int} {x:Stp} (hp:RightP p) (hs:RightS p s) (h:atS p s th=some x) :
  ∃l,0≤th∧th<s.ths.length∧p.thr[th.toNat]?=some l∧s.ths[th.toNat]?=some (thAt s th)∧RightT p l (thAt s th)∧l[(thAt s th).pc.toNat]?=some x∧RightX p x (thAt s th).pc.toNat l.length∧(thAt s th).pc<l.length:=by
 unfold atS at h
 split at h
 ·rename_i hc
  have hlen:=hs.ths
  have hl:p.thr[th.toNat]?=some (p.thr[th.toNat]'(by omega)):=List.getElem?_eq_getElem (by omega)
  rw[hl,Option.getD_some] at h
  have ht:=zF0 hc
  have hT:=hs.t _ _ _ hl ht
  have hlt:=(List.getElem?_eq_some_iff.1 h).1
  exact ⟨_,hc.1,hc.2,hl,ht,hT,h,hp.x _ _ hl _ _ h,by have:=hT.pc;omega⟩
 ·cases h
theorem zSE {l:List Stp} {x:Stp} {t:Thd} (hX:RightX p x t.pc.toNat l.length) (hT:RightT p l t) (hlt:t.pc<l.length):0≤(if zAP x t.eq=true then x.to else t.pc+1)∧(if zAP x t.eq=true then x.to else t.pc+1)≤l.length∧t.pc<(if zAP x t.eq=true then x.to else t.pc+1):=by
 have h0:=hT.pc
 split
 ·rename_i hj
  have h8:8≤x.op:=by
   simp only[zAP,Bool.or_eq_true,Bool.and_eq_true,decide_eq_true_eq] at hj
   omega
  have:=hX.to.1 h8
  omega
 ·omega
theorem zBG {th:Int} {mem:List Int} {t:Thd} (hs:RightS p s) (hm:mem.length=s.mem.length) (ht:∀l,p.thr[th.toNat]?=some l→RightT p l t):RightS p (zBT s th mem t):=by
 refine ⟨by rw[←hs.mem,←hm];rfl,by rw[←hs.ths];simp[zBT],fun i l t' hl ht'=>?_⟩
 simp only[zBT] at ht'
 by_cases e:th.toNat=i
 ·subst e
  rw[List.getElem?_set] at ht'
  split at ht'
  ·split at ht'
   ·cases ht';exact ht l hl
   ·cases ht'
  ·rename_i h;exact absurd rfl h
 ·rw[List.getElem?_set_ne e] at ht'
  exact hs.t i l t' hl ht'
theorem zLc {th:Int} (hp:RightP p) (hs:RightS p s):RightS p (zD1 p s th).1:=by
 unfold zD1
 cases h:atS p s th with
 | none=>exact hs
 | some x =>
  obtain ⟨l,c1,c2,hl,ht,hT,hx,hX,hlt⟩:=zIw hp hs h
  refine zBG hs zCw fun l' hl'=>?_
  rw[hl] at hl';cases hl'
  have:=zSE hX hT hlt
  exact ⟨by rw[zJR];omega,by rw[zDZ];exact hT.regs,by rw[zB5];exact hT.buf⟩
theorem zD0 {k:Pck} (hp:RightP p) (hs:RightS p s):RightS p (zAA p s k).1:=by
 unfold zAA
 split
 ·exact hs
 ·rename_i hc
  have hc:0≤k.th∧k.th<s.ths.length:=Decidable.not_not.1 hc
  have ht:=zF0 hc
  have hlen:=hs.ths
  have hl:p.thr[k.th.toNat]?=some (p.thr[k.th.toNat]'(by omega)):=List.getElem?_eq_getElem (by omega)
  have hT:=hs.t _ _ _ hl ht
  split
  ·split
   ·rename_i hd
    refine zBG hs ?_ fun l' hl'=>?_
    ·unfold zA5
     split
     ·rfl
     ·split
      ·exact zBa
      ·rfl
    ·rw[hl] at hl';cases hl'
     refine ⟨hT.pc,hT.regs,fun w hw=>?_⟩
     unfold zA5 at hw
     split at hw
     ·simp at hw
     ·rename_i b v r e
      split at hw
      ·exact hT.buf w (by rw[e];exact List.mem_cons_of_mem _ hw)
      ·exact hT.buf w (by rw[e];rw[e] at hw;exact hw)
   ·exact hs
  ·cases h:atS p s k.th with
   | none=>exact hs
   | some x =>
    obtain ⟨l,_,_,hl',_,_,hx,hX,hlt⟩:=zIw hp hs h
    rw[hl] at hl';cases hl'
    have hpc:=zSE hX hT hlt
    have base:RightT p (p.thr[k.th.toNat]'(by omega)) (zM x s.mem (thAt s k.th)).2:=⟨by rw[zJR];omega,by rw[zDZ];exact hT.regs,by rw[zB5];exact hT.buf⟩
    have hb:hasL x.op=true→0≤x.loc∧x.loc<(p.init.length:Int):=hX.loc.1
    dsimp only
    split
    ·exact hs
    ·split
     ·refine zBG hs rfl fun l' hl'=>?_
      rw[hl] at hl';cases hl'
      exact ⟨base.pc,by simp only[zBa];exact hT.regs,base.buf⟩
     ·split
      ·rename_i h3
       refine zBG hs rfl fun l' hl'=>?_
       rw[hl] at hl';cases hl'
       refine ⟨base.pc,base.regs,fun w hw=>?_⟩
       rcases List.mem_append.1 hw with hw | hw
       ·exact hT.buf w hw
       ·obtain rfl:=List.mem_singleton.1 hw
        exact hb (by rw[h3];rfl)
      ·split
       ·rename_i h4
        refine zBG hs rfl fun l' hl'=>?_
        rw[hl] at hl';cases hl'
        refine ⟨base.pc,base.regs,fun w hw=>?_⟩
        rcases List.mem_append.1 hw with hw | hw
        ·exact hT.buf w hw
        ·obtain rfl:=List.mem_singleton.1 hw
         exact hb (by rw[h4];rfl)
       ·refine zBG hs zCw fun l' hl'=>?_
        rw[hl] at hl';cases hl'
        exact base
def Few (s:Sta) (n:Nat):Prop:=∀t∈s.ths,t.buf.length≤n
theorem Few.set {th:Int} {mem:List Int} {t:Thd} {n m:Nat} (h:Few s n) (hnm:n≤m) (ht:t.buf.length≤m):Few (zBT s th mem t) m:=by
 intro t' ht'
 rcases List.mem_or_eq_of_mem_set ht' with h1 | rfl
 ·have:=h t' h1;omega
 ·exact ht
theorem Few.at {n:Nat} (h:Few s n) (th:Int):(thAt s th).buf.length≤n:=by
 unfold thAt
 cases hx:s.ths[th.toNat]? with
 | none=>simp[thd0]
 | some t=>exact h t (List.mem_of_getElem? hx)
theorem Few.mono {n m:Nat} (h:Few s n) (hnm:n≤m):Few s m:=fun t ht=>by have:=h t ht;omega
theorem zRM {th:Int} {n:Nat} (h:Few s n):Few (zD1 p s th).1 n:=by
 unfold zD1
 cases atS p s th with
 | none=>exact h
 | some x=>exact h.set (Nat.le_refl _) (by rw[zB5];exact h.at th)
theorem zJW {k:Pck} {n:Nat} (h:Few s n):Few (zAA p s k).1 (n+1):=by
 have h1:=h.mono (show n≤n+1 by omega)
 have ha:=h.at k.th
 unfold zAA
 split
 ·exact h1
 ·split
  ·split
   ·refine h.set (by omega) ?_
    show (zA5 (thAt s k.th).buf s.mem).1.length≤n+1
    unfold zA5
    split
    ·simp
    ·rename_i b v r e
     rw[e] at ha
     simp only[List.length_cons] at ha
     split
     ·show r.length≤n+1;omega
     ·show (thAt s k.th).buf.length≤n+1;rw[e];simp only[List.length_cons];omega
   ·exact h1
  ·cases atS p s k.th with
   | none=>exact h1
   | some x =>
    dsimp only
    split
    ·exact h1
    ·split
     ·exact h.set (by omega) (by show (zM x s.mem (thAt s k.th)).2.buf.length≤_;rw[zB5];omega)
     ·split
      ·exact h.set (by omega) (by simp only[List.length_append,List.length_singleton];omega)
      ·split
       ·exact h.set (by omega) (by simp only[List.length_append,List.length_singleton];omega)
       ·exact h.set (by omega) (by rw[zB5];omega)
end
end Go.Proofs.YtoknohandclcbaaGreat
namespace Go.Proofs.YtoknohandclcbaaGreat
open Go.RowKit
set_option maxRecDepth 8000
set_option maxHeartbeats 4000000 in
theorem zYK (p:Prg) (s:Sta) (th:Int) (hp:RightP p) (hs:RightS p s) (hb:∀t∈s.ths,t.buf.length≤100000):HFn Tryz.prog 158 [prgH p,staH s,.v (.int .i64 th)] (.tu [staO (zD1 p s th).1,.v (.bool (zD1 p s th).2)]):=by
 refine zU (fn:=Tryz.f158) 62 [.cell 6 79,.tmp 7] (by kernel_rfl) rfl rfl (by kernel_rfl) (HW.weaken (Q':=fun e=>GQ _ _ (endC _ _ _ _ e)) (HW.run 400 (by kernel_rfl) ?_) (fun _ _ _ h=>h))
 have hml:s.mem.length≤100000:=by have:=hs.mem;have:=hp.init;omega
 have htl:s.ths.length≤1000:=by have:=hs.ths;have:=hp.thr;omega
 have hrl:∀t∈s.ths,t.regs.length≤100000∧t.buf.length≤100000:=fun t ht=>by
  obtain ⟨i,hi⟩:=List.getElem?_of_mem ht
  have hlt:=(List.getElem?_eq_some_iff.1 hi).1
  have:=(hs.t i _ t (List.getElem?_eq_getElem (show i<p.thr.length by rw[←hs.ths];exact hlt)) hi).regs
  exact ⟨by omega,hb t ht⟩
 simp +decide only[go_sem,nT,nA,nS,nM,nB,reduceIte,reduceCtorEq]
 refine zO 3 (z9r s hml htl hrl) (by simp only[go_sem]) (by simp only[go_sem]) ?_
 have hlen:=hs.ths
 by_cases c1:0≤th
 case neg =>
  have c1' : (th<0)=True:=by simp only[eq_iff_iff,iff_true];omega
  have ha:atS p s th=none:=if_neg (fun h=>c1 h.1)
  rw[zF8 ha]
  simp +decide only[go_sem,nT,nA,nS,nM,nB,reduceIte,reduceCtorEq]
  refine HW.quiet 80 follows (by kernel_rfl) ?_
  simp +decide only[go_sem,nT,nA,nS,nM,nB,reduceIte,reduceCtorEq,c1']
  refine GQ.done ?_
  simp +decide only[go_sem,nT,nA,nS,nM,nB,reduceIte,reduceCtorEq]
 have c1' : (th<0)=False:=by simp only[eq_iff_iff,iff_false];omega
 by_cases c2:th<s.ths.length
 case neg =>
  have c2' : ((s.ths.length:Int)≤th)=True:=by simp only[eq_iff_iff,iff_true];omega
  have ha:atS p s th=none:=if_neg (fun h=>c2 h.2)
  rw[zF8 ha]
  simp +decide only[go_sem,nT,nA,nS,nM,nB,reduceIte,reduceCtorEq]
  refine HW.quiet 80 follows (by kernel_rfl) ?_
  simp +decide only[go_sem,nT,nA,nS,nM,nB,reduceIte,reduceCtorEq,c1',c2']
  refine GQ.done ?_
  simp +decide only[go_sem,nT,nA,nS,nM,nB,reduceIte,reduceCtorEq]
 have c2' : ((s.ths.length:Int)≤th)=False:=by simp only[eq_iff_iff,iff_false];omega
 obtain ⟨t,rfl⟩:∃t:Nat,th=t:=⟨th.toNat,by omega⟩
 have ht:t<s.ths.length:=by omega
 have hx:s.ths[t]?=some s.ths[t]:=List.getElem?_eq_getElem ht
 have htA:thAt s (t:Int)=s.ths[t]:=by unfold thAt;rw[Int.toNat_natCast,hx];rfl
 have hpt:p.thr[t]?=some (p.thr[t]'(by omega)):=List.getElem?_eq_getElem (by omega)
 obtain ⟨q1,q2,q3⟩:=hs.t t _ _ hpt hx
 have e0:atS p s (t:Int)=(p.thr[t]'(by omega))[(s.ths[t]).pc.toNat]?:=by
  unfold atS;rw[if_pos ⟨c1,c2⟩,htA,Int.toNat_natCast,hpt,Option.getD_some]
 have hRx:=fun i x h=>hp.x t _ hpt i x h
 have hll:(p.thr[t]'(by omega)).length≤80:=hp.len _ (List.mem_of_getElem? hpt)
 generalize s.ths[t]=y at hx htA q1 q2 q3 e0
 generalize p.thr[t]'(by omega)=l at hpt q1 e0 hRx hll
 obtain ⟨k,hk⟩:∃k:Nat,y.pc=k:=⟨y.pc.toNat,by omega⟩
 have hc2:((t:Int)<(s.ths.length:Int))=True:=by rw[z8];simp[ht]
 have hc3:((t:Int)<(p.thr.length:Int))=True:=by rw[z8,←hlen];simp[ht]
 have hst:∀X,((zW s.ths).set t X)[t]?=some X:=zE5 (by rw[zAf];exact ht)
 have hlv:(s.ths.length == s.ths.length && s.ths.length != 0)=true:=by
  rw[Bool.and_eq_true]
  exact ⟨beq_self_eq_true _,by simp only[bne_iff_ne];omega⟩
 rw[hk,Int.toNat_natCast] at e0
 by_cases c3:k<l.length
 case neg =>
  have c3' : ((l.length:Int)≤(k:Int))=True:=by simp only[eq_iff_iff,iff_true];omega
  rw[List.getElem?_eq_none (by omega)] at e0
  rw[zF8 e0]
  simp +decide only[go_sem,nT,nA,nS,nM,nB,reduceIte,reduceCtorEq]
  refine HW.quiet 80 follows (by kernel_rfl) ?_
  simp +decide only[go_sem,nT,nA,nS,nM,nB,reduceIte,reduceCtorEq,c1',c2',hx,hpt,hc2,hc3,hk,c3',hlv]
  refine GQ.done ?_
  simp +decide only[go_sem,nT,nA,nS,nM,nB,reduceIte,reduceCtorEq]
 have c3' : ((l.length:Int)≤(k:Int))=False:=by simp only[eq_iff_iff,iff_false];omega
 have hc4:((k:Int)<(l.length:Int))=True:=by rw[z8];simp[c3]
 have hz:l[k]?=some l[k]:=List.getElem?_eq_getElem c3
 rw[hz] at e0
 rw[zOJ e0,htA]
 have hR:=hRx _ _ hz
 generalize l[k]=x at hz e0 hR
 simp +decide only[go_sem,nT,nA,nS,nM,nB,reduceIte,reduceCtorEq]
 refine HW.quiet 80 follows (by kernel_rfl) ?_
 simp +decide only[go_sem,nT,nA,nS,nM,nB,reduceIte,reduceCtorEq,c1',c2',hx,hpt,hc2,hc3,hk,c3',hlv]
 refine HW.mixed 80 7 (7,0) [] follows (by kernel_rfl) (by decide) ?_
 simp +decide only[go_sem,nT,nA,nS,nM,nB,reduceIte,reduceCtorEq,c1',c2',hx,hpt,hc2,hc3,hk,c3',hc4,hz,hlv]
 refine HW.mixed 80 14 (7,0) [] follows (by kernel_rfl) (by decide) ?_
 simp +decide only[go_sem,nT,nA,nS,nM,nB,reduceIte,reduceCtorEq,c1',c2',hx,hpt,hc2,hc3,hk,c3',hc4,hz,hlv]
 refine ⟨_,z9o p s x y t k l.length ht hx hR hll q2 hs.mem hp.init (by omega),?_⟩
 have hm' : (zM x s.mem y).1.length=s.mem.length:=zCw
 generalize zM x s.mem y=z at hm'⊢
 obtain ⟨m',z⟩:=z
 simp only at hm'
 rintro r H' ⟨rfl,rfl⟩ -
 simp +decide only[go_sem,nT,nA,nS,nM,nB,reduceIte,reduceCtorEq,hlv,hm']
 refine GQ.done ?_
 simp +decide only[go_sem,nT,nA,nS,nM,nB,reduceIte,reduceCtorEq,hlv,hm',List.length_set]
 rfl
end Go.Proofs.YtoknohandclcbaaGreat
namespace Go.Proofs.YtoknohandclcbaaGreat
open Go.RowKit
set_option maxRecDepth 8000
theorem zQl (n:Nat):List.replicate n [HV.v (.int .i64 0),HV.v (.int .i64 0)]=wrts (List.replicate n (0,0)):=by simp[wrts,wrow]
set_option maxHeartbeats 4000000 in
theorem z1Z (b:List (Int×Int)) (l n:Int) (hb:b.length≤100000):HFn Tryz.prog 160 [.sl (wrts b),.ag [.v (.int .i64 l),.v (.int .i64 n)]] (zYP (b++[(l,n)])):=by
 refine zB (fn:=Tryz.f160) 19 [4] (by kernel_rfl) rfl (by kernel_rfl) (HW.run 400 (by kernel_rfl) ?_)
 have e1:IntKind.i64.wrap ((b.length:Int)+1)=((b.length+1:Nat):Int):=by rw[w64 (by omega) (by omega)];rfl
 simp +decide only[go_sem,nT,nA,nS,nM,nB,reduceIte,reduceCtorEq,e1,zQl,List.length_replicate]
 (with_reducible and_intros) <;> first | omega | rfl
set_option maxHeartbeats 4000000 in
theorem zXt (b:List (Int×Int)) (mem:List Int) (hb:b.length≤100000) (hm:mem.length≤100000):HFn Tryz.prog 157 [.sl (wrts b),.sl (ints mem)] (.tu [zYP (zA5 b mem).1,zBs (zA5 b mem).2.1,.v (.bool (zA5 b mem).2.2)]):=by
 refine zB (fn:=Tryz.f157) 46 [4,5,6] (by kernel_rfl) rfl (by kernel_rfl) (HW.run 400 (by kernel_rfl) ?_)
 simp +decide only[go_sem,nT,nA,nS,nM,nB,reduceIte,reduceCtorEq]
 refine zD (zAh mem (by omega)) rfl rfl ?_
 cases b with
 | nil =>
  simp +decide only[go_sem,nT,nA,nS,nM,nB,reduceIte,reduceCtorEq]
  refine zD (zCQ [] (by simp)) rfl rfl ?_
  simp +decide only[go_sem,nT,nA,nS,nM,nB,reduceIte,reduceCtorEq,zA5]
  rfl
 | cons w r =>
  rw[List.length_cons] at hb
  have c0:(((r.length+1:Nat):Int)=0)=False:=by simp only[eq_iff_iff,iff_false];omega
  have c0' : ((0:Int)<((r.length+1:Nat):Int))=True:=by simp only[eq_iff_iff,iff_true];omega
  have c1s:((1:Int)≤((r.length+1:Nat):Int))=True:=by simp only[eq_iff_iff,iff_true];omega
  have hx:(w::r)[(0:Int).toNat]?=some w:=rfl
  by_cases c1:0≤w.1
  case neg =>
   have c1' : (w.1<0)=True:=by simp only[eq_iff_iff,iff_true];omega
   have e:=zKl (r:=r) (fun h=>c1 h.1:¬(0≤w.1∧w.1<mem.length))
   simp +decide only[go_sem,nT,nA,nS,nM,nB,reduceIte,reduceCtorEq,c0,c0',hx,c1',e]
   refine zD (zCQ (w::r) (by simp;omega)) rfl rfl ?_
   simp +decide only[go_sem,nT,nA,nS,nM,nB,reduceIte,reduceCtorEq,c0,c0',hx,c1',e]
  have c1' : (w.1<0)=False:=by simp only[eq_iff_iff,iff_false];omega
  by_cases c2:w.1<mem.length
  case neg =>
   have c2' : ((mem.length:Int)≤w.1)=True:=by simp only[eq_iff_iff,iff_true];omega
   have e:=zKl (r:=r) (fun h=>c2 h.2:¬(0≤w.1∧w.1<mem.length))
   simp +decide only[go_sem,nT,nA,nS,nM,nB,reduceIte,reduceCtorEq,c0,c0',hx,c1',c2',e]
   refine zD (zCQ (w::r) (by simp;omega)) rfl rfl ?_
   simp +decide only[go_sem,nT,nA,nS,nM,nB,reduceIte,reduceCtorEq,c0,c0',hx,c1',c2',e]
  have c2' : ((mem.length:Int)≤w.1)=False:=by simp only[eq_iff_iff,iff_false];omega
  have c2t:(w.1<(mem.length:Int))=True:=by simp only[eq_iff_iff,iff_true];omega
  have c1t:(0≤w.1)=True:=by simp only[eq_iff_iff,iff_true];omega
  have e:=zQ1 (r:=r) ⟨c1,c2⟩
  have hy:mem[w.1.toNat]?=some (mem[w.1.toNat]'(by omega)):=List.getElem?_eq_getElem (by omega)
  simp +decide only[go_sem,nT,nA,nS,nM,nB,reduceIte,reduceCtorEq,c0,c0',hx,c1',c2',c2t,c1t,c1s,e]
  refine HW.mixed 80 9 (0,0) [] follows (by kernel_rfl) (by decide) ?_
  simp +decide only[go_sem,nT,nA,nS,nM,nB,reduceIte,reduceCtorEq,c0,c0',hx,c1',c2',c2t,c1t,c1s,e,hy,Nat.add_sub_cancel,List.length_set]
  refine zD (zCQ r (by omega)) rfl rfl ?_
  simp +decide only[go_sem,nT,nA,nS,nM,nB,reduceIte,reduceCtorEq,c0,c0',hx,c1',c2',c2t,c1t,c1s,e,hy,Nat.add_sub_cancel,List.length_set,setI]
end Go.Proofs.YtoknohandclcbaaGreat
namespace Go.Proofs.YtoknohandclcbaaGreat
open Go.RowKit
set_option maxRecDepth 8000
def zIv (b:List (Int×Int)):List (List HV):=b.zipIdx.reverse.map fun w=>[.v (.int .i64 w.2),.ag [.v (.int .i64 w.1.1),.v (.int .i64 w.1.2)]]
theorem zCs (b:List (Int×Int)):(zIv b).length=b.length:=by simp[zIv]
theorem zLE {b:List (Int×Int)} {j:Nat} (h:j<b.length):(zIv b)[j]?=some [.v (.int .i64 ((b.length-1-j:Nat):Int)),.ag [.v (.int .i64 (b[b.length-1-j]'(by omega)).1),.v (.int .i64 (b[b.length-1-j]'(by omega)).2)]]:=by
 unfold zIv
 rw[List.getElem?_map,List.getElem?_reverse (by simpa using h),List.getElem?_zipIdx]
 simp only[List.length_zipIdx]
 rw[List.getElem?_eq_getElem (show b.length-1-j<b.length by omega)]
 simp
def yBR (b:List (Int×Int)) (m id:Nat) (J:Nat→Heap→Prop) (k:Nat) (T:Nat→HV) (H:Heap):Prop:=∃j Hq,k=b.length-j∧j≤b.length∧J j Hq∧Hq.length=m∧
 T 0=.yl id∧T 1=.pt m 1 0 0∧T 3=.v (.int .i64 ((b.length:Int)-1-j))∧H=Hq++[some ⟨244,1,[[.sl (wrts b)]]⟩]
set_option maxHeartbeats 4000000 in
theorem zU2 (b:List (Int×Int)) (hb:b.length≤1000000) (Hc:Heap) (n:Nat) (hn:Hc[n]?=some (some ⟨244,1,[[.sl (wrts b)]]⟩)) :
  HSeq Tryz.prog 213 Hc [.pt n 1 0 0] (Hc.set n none) (zIv b):=by
 intro id J K hid hJ hK hY h0
 refine zB (fn:=Tryz.f213) 19 [] rfl rfl (by kernel_rfl) (HW.ghost (Ghost.move 1 n 1 0 0 _ rfl hn) (HW.run 60 (by kernel_rfl) ?_))
 have hl0:(Hc.set n none).length=Hc.length:=List.length_set
 have g0:∀B:Heap,getO (Hc.set n none++B) Hc.length=getO B 0:=fun B=>zAV hl0
 simp +decide only[go_sem,nT,nA,nS,nM,nB,reduceIte,reduceCtorEq,g0]
 refine HW.loopG (yBR b Hc.length id J) b.length ⟨_,_,Ghost.refl,0,_,rfl,by omega,h0,hl0,rfl,rfl,?_,rfl⟩ ?_
 ·simp +decide only[go_sem,nB,reduceIte]
  rw[w64 (by omega) (by omega)];simp
 rintro k T H ⟨j,Hq,rfl,hj,hJj,hlen,h0,h1,h3,rfl⟩
 have g0:∀B:Heap,getO (Hq++B) Hc.length=getO B 0:=fun B=>zAV hlen
 refine HW.run 200 (by kernel_rfl) ?_
 by_cases hlt:j<b.length
 ·have e1:(0≤(b.length:Int)-1-j)=True:=by simp only[eq_iff_iff,iff_true];omega
  have e2:((b.length:Int)-1-j<b.length)=True:=by simp only[eq_iff_iff,iff_true];omega
  have e3:((b.length:Int)-1-j).toNat=b.length-1-j:=by omega
  have hx:b[b.length-1-j]?=some (b[b.length-1-j]'(by omega)):=List.getElem?_eq_getElem (by omega)
  have hX:=zLE hlt
  have e4:((b.length-1-j:Nat):Int)=(b.length:Int)-1-j:=by omega
  rw[e4] at hX
  generalize b[b.length-1-j]'(by omega)=x at hx hX
  simp +decide only[go_sem,nT,nA,nS,nM,nB,reduceIte,reduceCtorEq,h0,h1,h3,g0,e1,e2,e3,hx]
  refine zCe hlen hid (hJ _ _ hJj).2 rfl (hY j _ Hq hX hJj) ?_
  intro c Hq' hc' hlen'
  have g0:∀B:Heap,getO (Hq'++B) Hc.length=getO B 0:=fun B=>zAV hlen'
  cases c with
  | true =>
   simp only[if_true] at hc'
   simp +decide only[go_sem,nT,nA,nS,nM,nB,reduceIte,reduceCtorEq,h0,h1,h3,g0]
   refine ⟨_,_,Ghost.refl,b.length-(j+1),by omega,j+1,Hq',rfl,by omega,hc',hlen',?_,?_,?_,rfl⟩
   ·simp +decide only[go_sem,nB,reduceIte,h0]
   ·simp +decide only[go_sem,nB,reduceIte,h1]
   ·simp +decide only[go_sem,nB,reduceIte,h3];rw[w64 (by omega) (by omega)];congr 2;omega
  | false =>
   simp only[Bool.false_eq_true,if_false] at hc'
   simp +decide only[go_sem,nT,nA,nS,nM,nB,reduceIte,reduceCtorEq,h0,h1,h3,g0]
   exact zA8 hlen' (hK _ _ hc') (.inr ⟨_,hc'⟩)
 ·have e1:(0≤(b.length:Int)-1-j)=False:=by simp only[eq_iff_iff,iff_false];omega
  have e:j=(zIv b).length:=by rw[zCs];omega
  simp +decide only[go_sem,nT,nA,nS,nM,nB,reduceIte,reduceCtorEq,h0,h1,h3,g0,e1]
  exact zA8 hlen (hJ _ _ hJj).2 (.inl (e▸hJj))
theorem zXv (b:List (Int×Int)):HFn Tryz.prog 211 [.sl (wrts b)] (.fn 213 [.bx 244 1 [.sl (wrts b)]]):=by
 refine zB (fn:=Tryz.f211) 4 [2] (by kernel_rfl) rfl (by kernel_rfl) (HW.run 400 (by kernel_rfl) ?_)
 simp +decide only[go_sem,nT,nA,nS,nM,nB,reduceIte,reduceCtorEq]
def rowX (b:List (Int×Int)):List (List HV):=b.reverse.map fun w=>[.ag [.v (.int .i64 w.1),.v (.int .i64 w.2)]]
theorem zOI {b:List (Int×Int)} {i:Nat} {x:List HV} (h:(zIv b)[i]?=some x):∃(q:Int) (w:Int×Int),b.reverse[i]?=some w∧x=[.v (.int .i64 q),.ag [.v (.int .i64 w.1),.v (.int .i64 w.2)]]:=by
 have hlt:i<b.length:=by have:=(List.getElem?_eq_some_iff.1 h).1;rwa [zCs] at this
 rw[zLE hlt] at h
 cases h
 refine ⟨_,_,?_,rfl⟩
 rw[List.getElem?_reverse hlt,List.getElem?_eq_getElem (show b.length-1-i<b.length by omega)]
theorem zCf {A B:Heap} {m k:Nat} (h:A.length=m):(A++B).take (m+k)=A++B.take k:=by
 subst h
 rw[List.take_append,List.take_of_length_le (by omega),Nat.add_sub_cancel_left]
theorem zEd {A B:Heap} {m k:Nat} (h:A.length=m) (hA:nmH m A=true) (hB:((B.take k).all fun o=>match o with | some ob=>nmR (m+k) ob.rows | none=>true)=true):nmH (m+k) (A++B)=true:=by
 unfold nmH at hA⊢
 rw[zCf h,List.all_append,Bool.and_eq_true]
 rw[←h,List.take_length] at hA
 refine ⟨?_,hB⟩
 rw[List.all_eq_true] at hA⊢
 intro o ho
 have:=hA o ho
 cases o with
 | none=>rfl
 | some ob=>exact zI2 (by omega) _ this
set_option maxHeartbeats 4000000 in
theorem yBL (b:List (Int×Int)) (hb:b.length≤1000000) (Hc:Heap) (n:Nat) (hn:Hc[n]?=some (some ⟨244,1,[[.sl (wrts b)]]⟩)) :
  HSeq Tryz.prog 210 Hc [.pt n 1 0 0] (Hc.set n none) (rowX b):=by
 intro id J K hid hJ hK hY h0
 refine zB (fn:=Tryz.f210) 13 [] rfl rfl (by kernel_rfl) (HW.ghost (Ghost.move 1 n 1 0 0 _ rfl hn) (HW.run 60 (by kernel_rfl) ?_))
 have hl0:(Hc.set n none).length=Hc.length:=List.length_set
 generalize Hc.set n none=A at h0 hl0⊢
 have g0:∀B:Heap,getO (A++B) Hc.length=getO B 0:=fun B=>zAV hl0
 have g1:∀(j:Nat) (B:Heap),getO (A++B) (Hc.length+j)=getO B j:=fun j B=>zBM hl0
 simp +decide only[go_sem,nT,nA,nS,nM,nB,reduceIte,reduceCtorEq,g0,g1,List.append_assoc]
 refine zD (zXv b) rfl rfl ?_
 simp +decide only[go_sem,nT,nA,nS,nM,nB,reduceIte,reduceCtorEq,g0,g1,List.append_assoc,hl0]
 have rest:∀(Hq:Heap) (z:Option HObj),Hq.length=Hc.length→(Hq++[some ⟨244,1,[[.sl (wrts b)]]⟩,some ⟨251,1,[[.yl id]]⟩,z]).length=Hc.length+3:=fun Hq z h=>by simp[h]
 refine HW.rangeFunc rfl (by decide) rfl (zIv b) (A++[some ⟨244,1,[[.sl (wrts b)]]⟩,some ⟨251,1,[[.yl id]]⟩,none])
  (fun j Hi=>∃Hq,Hi=Hq++[some ⟨244,1,[[.sl (wrts b)]]⟩,some ⟨251,1,[[.yl id]]⟩,none]∧Hq.length=Hc.length∧J j Hq)
  (fun c Hi=>c=.ret∧∃Hq i,Hi=Hq++[some ⟨244,1,[[.sl (wrts b)]]⟩,some ⟨251,1,[[.yl id]]⟩,none]∧Hq.length=Hc.length∧K i Hq)
  ⟨by simp,fun j o hj=>?_⟩ (fun x hx=>?_) (fun o=>?_) ⟨A,rfl,hl0,h0⟩ ?_ ?_ ?_
 ·rcases Nat.lt_or_ge j A.length with h | h
  ·rw[List.getElem?_append_left h] at hj⊢;exact hj
  ·rw[List.getElem?_append_right h] at hj⊢
   rcases hk:j-A.length with _ | _ | _ | q
   ·rw[hk] at hj;exact hj
   ·rw[hk] at hj;exact hj
   ·rw[hk] at hj;simp at hj
   ·rw[hk] at hj;simp at hj
 ·obtain ⟨j,hj⟩:=List.mem_iff_getElem?.1 hx
  obtain ⟨q,w,_,rfl⟩:=zOI hj
  exact ⟨rfl,rfl⟩
 ·have g2:∀B:Heap,(A++B).set (Hc.length+2) none=A++B.set 2 none:=fun B=>zCH hl0
  have:=zU2 b hb (A++[some ⟨244,1,[[.sl (wrts b)]]⟩,some ⟨251,1,[[.yl id]]⟩,some ⟨244,1,[[.sl (wrts b)]]⟩]++[some o]) (Hc.length+2) (by
   rw[List.append_assoc,←hl0,List.getElem?_append_right (by omega),Nat.add_sub_cancel_left];rfl)
  rw[List.append_assoc,g2] at this
  rw[List.append_assoc,List.append_assoc]
  exact this
 ·rintro j x Hi hx hlen ⟨Hq,rfl,hq,hJj⟩
  obtain ⟨q,w,hw,rfl⟩:=zOI hx
  have g0:∀B:Heap,getO (Hq++B) Hc.length=getO B 0:=fun B=>zAV hq
  have g1:∀(j:Nat) (B:Heap),getO (Hq++B) (Hc.length+j)=getO B j:=fun j B=>zBM hq
  have g2:∀(j:Nat) (B:Heap) x,(Hq++B).set (Hc.length+j) x=Hq++B.set j x:=fun j B x=>zCH hq
  have hX:(rowX b)[j]?=some [.ag [.v (.int .i64 w.1),.v (.int .i64 w.2)]]:=by unfold rowX;rw[List.getElem?_map,hw];rfl
  refine HW.run 60 (by kernel_rfl) ?_
  simp +decide only[go_sem,nT,nA,nS,nM,nB,reduceIte,reduceCtorEq,g0,g1,g2,hq,List.append_assoc]
  refine HW.run 60 (by kernel_rfl) ?_
  simp +decide only[go_sem,nT,nA,nS,nM,nB,reduceIte,reduceCtorEq,g0,g1,g2,hq,List.append_assoc]
  refine zCe hq hid (hJ _ _ hJj).2 rfl (hY j _ Hq hX hJj) ?_
  intro c Hq' hc' hlen'
  have t1:∀B:Heap,(Hq'++B).take (Hc.length+3)=Hq'++B.take 3:=fun B=>zCf hlen'
  cases c with
  | true =>
   simp only[if_true] at hc'
   simp +decide only[go_sem,nT,nA,nS,nM,nB,reduceIte,reduceCtorEq,hl0]
   refine ⟨_,_,Ghost.trunc [] (Hc.length+3) (by omega) rfl (zEd hlen' (hJ _ _ hc').2 ?_),?_,Hq',?_,hlen',hc'⟩
   ·simp[nmR,nmL,nm];omega
   ·rw[t1];simp[hlen']
   ·rw[t1];rfl
  | false =>
   simp only[Bool.false_eq_true,if_false] at hc'
   simp +decide only[go_sem,nT,nA,nS,nM,nB,reduceIte,reduceCtorEq,hl0]
   refine ⟨_,_,Ghost.trunc [] (Hc.length+3) (by omega) rfl (zEd hlen' (hK _ _ hc') ?_),?_,Hq',_,?_,hlen',hc'⟩
   ·simp[nmR,nmL,nm];omega
   ·rw[t1];simp[hlen']
   ·rw[t1];rfl
 ·rintro Hf hlen ⟨Hq,rfl,hq,hJj⟩
  simp +decide only[go_sem,nT,nA,nS,nM,nB,reduceIte,reduceCtorEq]
  have e:(zIv b).length=(rowX b).length:=by rw[zCs];simp[rowX]
  exact zA8 hq (hJ _ _ hJj).2 (.inl (e▸hJj))
 ·rintro c Hf hlen ⟨rfl,Hq,i,rfl,hq,hKi⟩
  unfold XQ
  simp +decide only[go_sem,nT,nA,nS,nM,nB,reduceIte,reduceCtorEq]
  exact zA8 hq (hK _ _ hKi) (.inr ⟨_,hKi⟩)
end Go.Proofs.YtoknohandclcbaaGreat
namespace Go.Proofs.YtoknohandclcbaaGreat
open Go.RowKit
set_option maxRecDepth 8000
theorem zYo (b:List (Int×Int)):HFn Tryz.prog 206 [.sl (wrts b)] (.fn 210 [.bx 244 1 [.sl (wrts b)]]):=by
 refine zB (fn:=Tryz.f206) 4 [2] (by kernel_rfl) rfl (by kernel_rfl) (HW.run 400 (by kernel_rfl) ?_)
 simp +decide only[go_sem,nT,nA,nS,nM,nB,reduceIte,reduceCtorEq]
theorem zKU {α:Type} {p:α→Bool}:∀{l:List α} {i:Nat} {x:α},(∀k,k<i→∀y,l[k]?=some y→p y=false)→l[i]?=some x→p x=true→l.find? p=some x
 | [],i,x,_,h,_=>by simp at h
 | a::l,0,x,_,h,hp=>by simp at h;subst h;simp[hp]
 | a::l,i+1,x,hq,h,hp=>by
  have ha:=hq 0 (by omega) a rfl
  simp only[List.find?_cons,ha]
  exact zKU (i:=i) (fun k hk y hy=>hq (k+1) (by omega) y (by simpa using hy)) (by simpa using h) hp
set_option maxHeartbeats 4000000 in
theorem z10 (b:List (Int×Int)) (loc:Int) (hb:b.length≤1000000):HFn Tryz.prog 192 [.sl (wrts b),.v (.int .i64 loc)] (.tu [.v (.int .i64 ((zI5 b loc).getD 0)),.v (.bool (zI5 b loc).isSome)]):=by
 refine zU (fn:=Tryz.f192) 16 [.cell 4 3,.cell 5 4] (by kernel_rfl) rfl rfl (by kernel_rfl) (HW.run 400 (by kernel_rfl) ?_)
 simp +decide only[go_sem,nT,nA,nS,nM,nB,reduceIte,reduceCtorEq]
 refine zD (zYo b) rfl rfl ?_
 simp +decide only[go_sem,nT,nA,nS,nM,nB,reduceIte,reduceCtorEq]
 refine HW.rangeFunc rfl (by decide) rfl (rowX b) [some ⟨3,1,[[.v (.int .i64 loc)]]⟩,some ⟨3,1,[[.v (.int .i64 0)]]⟩,some ⟨4,1,[[.v (.bool false)]]⟩,none]
  (fun j Hi=>Hi=[some ⟨3,1,[[.v (.int .i64 loc)]]⟩,some ⟨3,1,[[.v (.int .i64 0)]]⟩,some ⟨4,1,[[.v (.bool false)]]⟩,none]∧∀k,k<j→∀y,b.reverse[k]?=some y→decide (y.1=loc)=false)
  (fun c Hi=>c=.ret∧∃n,zI5 b loc=some n∧Hi=[some ⟨3,1,[[.v (.int .i64 loc)]]⟩,some ⟨3,1,[[.v (.int .i64 n)]]⟩,some ⟨4,1,[[.v (.bool true)]]⟩,none])
  (SubH.spec (And.intro rfl (And.intro rfl (And.intro rfl trivial)))) ?_ (fun o=>yBL b hb _ 3 rfl) ⟨rfl,by simp⟩ ?_ ?_ ?_
 ·intro x hx
  obtain ⟨y,_,rfl⟩:=List.mem_map.1 hx
  exact ⟨rfl,rfl⟩
 ·rintro i x Hi hx - ⟨rfl,hno⟩
  unfold rowX at hx
  rw[List.getElem?_map] at hx
  obtain ⟨w,hw,rfl⟩:=Option.map_eq_some_iff.1 hx
  refine HW.run 60 (by kernel_rfl) ?_
  simp +decide only[go_sem,nT,nA,nS,nM,nB,reduceIte,reduceCtorEq]
  refine HW.run 60 (by kernel_rfl) ?_
  by_cases hc:w.1=loc
  ·have hc' : decide (w.1=loc)=true:=by simp[hc]
   have hl:zI5 b loc=some w.2:=by
    unfold zI5
    rw[zKU (p:=fun w=>decide (w.1=loc)) hno hw hc'];rfl
   simp +decide only[go_sem,nT,nA,nS,nM,nB,reduceIte,reduceCtorEq,hc]
   exact ⟨_,_,Ghost.trunc [] 4 (by omega) rfl rfl,rfl,_,hl,rfl⟩
  ·simp +decide only[go_sem,nT,nA,nS,nM,nB,reduceIte,reduceCtorEq,hc]
   refine ⟨_,_,Ghost.trunc [] 4 (by omega) rfl rfl,rfl,rfl,fun k hk y hy=>?_⟩
   rcases Nat.lt_or_ge k i with h | h
   ·simpa using hno k h y hy
   ·obtain rfl:k=i:=by omega
    rw[hw] at hy;cases hy;exact hc
 ·rintro Hf - ⟨rfl,hno⟩
  have hl:zI5 b loc=none:=by
   unfold zI5
   rw[List.find?_eq_none.2 fun x hx=>?_];rfl
   obtain ⟨k,hk⟩:=List.mem_iff_getElem?.1 hx
   have hkl:=(List.getElem?_eq_some_iff.1 hk).1
   have:=hno k (by simp[rowX] at hkl⊢;omega) x hk
   simpa using this
  simp +decide only[go_sem,nT,nA,nS,nM,nB,reduceIte,reduceCtorEq,hl]
 ·rintro c Hf - ⟨rfl,n,hl,rfl⟩
  unfold XQ
  simp +decide only[go_sem,nT,nA,nS,nM,nB,reduceIte,reduceCtorEq,hl]
set_option maxHeartbeats 4000000 in
theorem zUW (b:List (Int×Int)) (mem:List Int) (loc:Int) (hb:b.length≤1000000):HFn Tryz.prog 161 [.sl (wrts b),.sl (ints mem),.v (.int .i64 loc)] (.tu [.v (.int .i64 (zO8 b mem loc).1),.v (.bool (zO8 b mem loc).2)]):=by
 refine zB (fn:=Tryz.f161) 30 [6,7] (by kernel_rfl) rfl (by kernel_rfl) (HW.run 400 (by kernel_rfl) ?_)
 simp +decide only[go_sem,nT,nA,nS,nM,nB,reduceIte,reduceCtorEq]
 refine zO 3 (z10 b loc hb) (by simp only[go_sem]) rfl ?_
 unfold zO8
 cases hl:zI5 b loc with
 | some n=>simp +decide only[go_sem,nT,nA,nS,nM,nB,reduceIte,reduceCtorEq,hl]
 | none =>
  by_cases c1:0≤loc
  case neg =>
   have c1' : (loc<0)=True:=by simp only[eq_iff_iff,iff_true];omega
   have c1t:(0≤loc)=False:=by simp only[eq_iff_iff,iff_false];omega
   simp +decide only[go_sem,nT,nA,nS,nM,nB,reduceIte,reduceCtorEq,hl,c1',c1t]
  have c1' : (loc<0)=False:=by simp only[eq_iff_iff,iff_false];omega
  have c1t:(0≤loc)=True:=by simp[c1]
  by_cases c2:loc<mem.length
  case neg =>
   have c2' : ((mem.length:Int)≤loc)=True:=by simp only[eq_iff_iff,iff_true];omega
   have c2t:(loc<(mem.length:Int))=False:=by simp[c2]
   simp +decide only[go_sem,nT,nA,nS,nM,nB,reduceIte,reduceCtorEq,hl,c1',c1t,c2',c2t]
  have c2' : ((mem.length:Int)≤loc)=False:=by simp only[eq_iff_iff,iff_false];omega
  have c2t:(loc<(mem.length:Int))=True:=by simp[c2]
  have hx:mem[loc.toNat]?=some (getI mem loc):=by
   have:loc.toNat<mem.length:=by omega
   unfold getI;rw[List.getElem?_eq_getElem this];rfl
  simp +decide only[go_sem,nT,nA,nS,nM,nB,reduceIte,reduceCtorEq,hl,c1',c1t,c2',c2t,hx]
end Go.Proofs.YtoknohandclcbaaGreat
namespace Go.Proofs.YtoknohandclcbaaGreat
open Go.RowKit
set_option maxRecDepth 8000
abbrev z1z (p:Prg) (s:Sta) (y:Thd) (x:Stp) (mem:List Int) (ths:List (List HV)) (c:HV) (t:Nat):Heap :=
  [some ⟨25,2,[[.sl (ints p.init),.sl (thrs p.thr)]]⟩,some ⟨79,2,[[.sl (ints s.mem),.sl (thds s.ths)]]⟩,
   some ⟨79,2,[[.v (.slice none 0 0),.v (.slice none 0 0)]]⟩,
   some ⟨106,4,[[.v (.int .i64 y.pc),.sl (ints y.regs),.v (.bool y.eq),.sl (wrts y.buf)]]⟩,
   some ⟨3,1,ints mem⟩,some ⟨106,4,ths⟩,
   some ⟨79,2,[[c,.hd 5 0 s.ths.length]]⟩,some ⟨197,1,[[.pt 5 s.ths.length t 0]]⟩,
   some ⟨87,5,[[.v (.int .i64 x.op),.v (.int .i64 x.reg),.v (.int .i64 x.loc),.v (.int .i64 x.n),.v (.int .i64 x.to)]]⟩]
set_option maxHeartbeats 8000000 in
theorem zWF (p:Prg) (s:Sta) (y z:Thd) (x:Stp) (m' : List Int) (t:Nat) (loc n:Int) (ht:t<s.ths.length) (hml:s.mem.length≤100000) (hyb:y.buf.length≤100000) (hm' : m'.length=s.mem.length) :
  HCalls Tryz.prog 159 (z1z p s y x m' (zW (s.ths.set t z)) (.hd 4 0 s.mem.length) t) [.v (.int .i64 loc),.v (.int .i64 n),.pt 3 1 0 0,.pt 7 1 0 0,.pt 1 1 0 0,.pt 6 1 0 0]
   (fun r H'=>r=.tu []∧H'=z1z p s y x m' (zW (s.ths.set t { z with buf:=y.buf++[(loc,n)] })) (.ow 3 1 (ints s.mem)) t):=by
 refine zU (fn:=Tryz.f159) 21 [] (by kernel_rfl) rfl rfl (by kernel_rfl) (HW.weaken (Q':=fun e=>GQ _ _ (endC _ _ _ _ e)) (HW.run 400 (by kernel_rfl) ?_) (fun _ _ _ h=>h))
 have hst2:∀(z:Thd) X,((zW (s.ths.set t z)).set t X)[t]?=some X:=fun z=>zE5 (by rw[zAf,List.length_set];exact ht)
 have hx2:∀z:Thd,(s.ths.set t z)[t]?=some z:=fun z=>by simp[ht]
 have hlv:(s.ths.length == s.ths.length && s.ths.length != 0)=true:=by
  rw[Bool.and_eq_true]
  exact ⟨beq_self_eq_true _,by simp only[bne_iff_ne];omega⟩
 simp +decide only[go_sem,nT,nA,nS,nM,nB,reduceIte,reduceCtorEq,hst2,hx2,hlv,List.length_set]
 refine HW.mixed 80 7 (9,0) [6] follows (by kernel_rfl) (by decide) ?_
 simp +decide only[go_sem,nT,nA,nS,nM,nB,reduceIte,reduceCtorEq,hst2,hx2,hlv,List.length_set]
 refine zB3 (z1Z y.buf loc n (by omega)) rfl rfl ?_
 simp +decide only[go_sem,nT,nA,nS,nM,nB,reduceIte,reduceCtorEq,hst2,hx2,hlv,List.length_set,List.map_set,List.set_set]
 refine zD (zAh s.mem (by omega)) rfl rfl ?_
 simp +decide only[go_sem,nT,nA,nS,nM,nB,reduceIte,reduceCtorEq,hst2,hx2,hlv,List.length_set,List.map_set,List.set_set,List.length_append,List.length_singleton]
 refine GQ.step (Ghost.absorb 6 0 0) ?_
 simp +decide only[go_sem,nT,nA,nS,nM,nB,reduceIte,reduceCtorEq,hst2,hx2,hlv,List.length_set,List.map_set,List.set_set,List.length_append,List.length_singleton]
 refine GQ.step (Ghost.absorb 5 t 3) ?_
 simp +decide only[go_sem,nT,nA,nS,nM,nB,reduceIte,reduceCtorEq,hst2,hx2,hlv,List.length_set,List.map_set,List.set_set,List.length_append,List.length_singleton]
 refine GQ.done ?_
 simp +decide only[go_sem,nT,nA,nS,nM,nB,reduceIte,reduceCtorEq,hst2,hx2,hlv,List.length_set,List.map_set,List.set_set,List.length_append,List.length_singleton,zAK,zBO]
 try exact ⟨rfl,rfl,rfl⟩
end Go.Proofs.YtoknohandclcbaaGreat
