/- Parts of the proof: Cn, Sf, Sg, Sh, Si, Sth, Sj, Sk, Sl, Sm, Sn, So, HiDk, Gr, Ga, Gf, Gb, Gm, Gt. -/
import Derived.Test.YtoknohandclcbaaGreatZc09
import Derived.Test.YtoknohandclcbaaGreatZc10
import Derived.Test.YtoknohandclcbaaGreatZc07
import Derived.Test.YtoknohandclcbaaGreatZc06
open Nat renaming reduceAdd → nA, reduceSub → nS, reduceMul → nM, reduceBEq → nB
open Int renaming reduceToNat → nT
set_option linter.unusedSectionVars false
set_option linter.unusedVariables false
set_option linter.unusedSimpArgs false
namespace Go.Proofs.YtoknohandclcbaaGreat
open Go.RowKit
set_option maxRecDepth 8000
abbrev zDm:List HV:=[.v (.int .i64 0),.v (.slice none 0 0),.v (.bool false),.v (.slice none 0 0)]
abbrev begH (p:Prg) (mem:List Int) (rows:List (List HV)):Heap :=
  [some ⟨25,2,[[.sl (ints p.init),.sl (thrs p.thr)]]⟩,some ⟨79,2,[[.v (.slice none 0 0),.v (.slice none 0 0)]]⟩,
   some ⟨3,1,ints mem⟩,some ⟨106,4,rows⟩,some ⟨79,2,[[.hd 2 0 p.init.length,.hd 3 0 p.thr.length]]⟩]
theorem zSS {m n:Nat} {r:List HV} (h:nmL m r=true):nmR m (List.replicate n r)=true:=by
 induction n with
 | zero=>rfl
 | succ n ih=>simp[List.replicate_succ,nmR,h,ih]
set_option maxHeartbeats 4000000 in
theorem zRY (p:Prg) (hp:p.thr.length≤1000) (hi:p.init.length≤1000):HFn Tryz.prog 93 [prgH p] (staH (zK p)):=by
 refine zCu (fn:=Tryz.f93) 3 33 [.cell 2 79] (by kernel_rfl) rfl rfl (by kernel_rfl) (HW.run 400 (by kernel_rfl) ?_)
 simp +decide only[go_sem,nT,nA,nS,nM,nB,reduceIte,reduceCtorEq]
 refine HW.treeI (fun T H=>T 1=.pt 0 1 0 0∧T 2=.pt 1 1 0 0∧T 3=.pt 4 1 0 0∧H=begH p (List.replicate p.init.length 0) (List.replicate p.thr.length zDm)) (.light 0 (.light 1 (.light 2 (.light 4 (.light 5 (.light 6 (.heavy 3 [4,5,6] (.heavy 7 [0,1,2] (.light 8 (.heavy 9 [0,1,2,4,5,6,8] (.heavy 10 [] .leaf .stop) .stop)) (.heavy 9 [0,1,2,4,5,6] (.heavy 7 [0,1,2] (.light 8 (.heavy 10 [] .leaf .stop)) .stop) .stop)) (.heavy 7 [0,1,2] (.heavy 3 [4,5,6] (.light 8 (.heavy 9 [0,1,2,4,5,6,8] (.heavy 10 [] .leaf .stop) .stop)) (.heavy 9 [0,1,2,4,5,6] (.heavy 3 [4,5,6] (.light 8 (.heavy 10 [] .leaf .stop)) .stop) .stop)) (.heavy 9 [0,1,2,4,5,6] (.heavy 3 [4,5,6] (.heavy 7 [0,1,2] (.light 8 (.heavy 10 [] .leaf .stop)) .stop) (.heavy 7 [0,1,2] (.heavy 3 [4,5,6] (.light 8 (.heavy 10 [] .leaf .stop)) .stop) .stop)) .stop))))))))) follows (by kernel_rfl) (by kernel_rfl) ?_ ?_
 ·have hz:nmR 0 (List.replicate p.thr.length zDm)=true:=zSS rfl
  simp +decide only[go_sem,nT,nA,nS,nM,nB,reduceIte,reduceCtorEq]
  (with_reducible and_intros) <;> first | omega | (simp only[List.length_replicate];done) | skip
  ·refine GQ.done ?_
   simp +decide only[go_sem,nT,nA,nS,nM,nB,reduceIte,reduceCtorEq]
  ·refine GQ.step (Ghost.swap 3 4 (by omega) (by omega) (by simp) (by simp)) (GQ.done ?_)
   simp +decide only[go_sem,nT,nA,nS,nM,nB,reduceIte,reduceCtorEq,List.map_replicate,hz]
  ·refine GQ.step (Ghost.swap 2 3 (by omega) (by omega) (by simp) (by simp)) (GQ.done ?_)
   simp +decide only[go_sem,nT,nA,nS,nM,nB,reduceIte,reduceCtorEq,List.map_replicate,hz]
  ·refine GQ.step (Ghost.swap 2 4 (by omega) (by omega) (by simp) (by simp)) (GQ.step (Ghost.swap 3 4 (by omega) (by omega) (by simp[swH,swL]) (by simp[swH,swL])) (GQ.done ?_))
   simp +decide only[go_sem,nT,nA,nS,nM,nB,reduceIte,reduceCtorEq,List.map_replicate,hz]
  ·refine GQ.step (Ghost.swap 2 3 (by omega) (by omega) (by simp) (by simp)) (GQ.step (Ghost.swap 3 4 (by omega) (by omega) (by simp[swH,swL]) (by simp[swH,swL])) (GQ.done ?_))
   simp +decide only[go_sem,nT,nA,nS,nM,nB,reduceIte,reduceCtorEq,List.map_replicate,hz]
  ·refine GQ.step (Ghost.swap 2 4 (by omega) (by omega) (by simp) (by simp)) (GQ.done ?_)
   simp +decide only[go_sem,nT,nA,nS,nM,nB,reduceIte,reduceCtorEq,List.map_replicate,hz]
 rintro T H ⟨h1,h2,h3,rfl⟩
 simp +decide only[go_sem,nT,nA,nS,nM,nB,reduceIte,reduceCtorEq,h1,h2,h3]
 refine ⟨by rw[List.length_replicate],by rw[List.length_replicate],?_⟩
 refine HW.loopG (fun k T H=>∃i:Nat,k=p.thr.length-i∧i≤p.thr.length∧T 1=.pt 0 1 0 0∧T 2=.pt 1 1 0 0∧T 3=.pt 4 1 0 0∧T 21=.v (.int .i64 p.thr.length)∧T 22=.v (.int .i64 i)∧
  H=begH p p.init (zW (List.replicate i thdB)++List.replicate (p.thr.length-i) zDm)) p.thr.length
  ⟨_,_,Ghost.refl,0,rfl,by omega,?_,?_,?_,rfl,rfl,rfl⟩ ?_
 iterate 3 simp +decide only[go_sem,nB,reduceIte,h1,h2,h3]
 clear h1 h2 h3 T
 rintro k T H ⟨i,rfl,hi,h1,h2,h3,h21,h22,rfl⟩
 refine HW.run 200 (by kernel_rfl) ?_
 by_cases hlt:i<p.thr.length
 ·have hlt' : ((i:Int)<(p.thr.length:Int))=True:=by rw[z8];simp[hlt]
  have hlen:(zW (List.replicate i thdB)).length=i:=by simp[zW]
  obtain ⟨m,hm⟩:∃m,p.thr.length-i=m+1:=⟨p.thr.length-i-1,by omega⟩
  have hrows:(zW (List.replicate i thdB)++zDm::List.replicate m zDm).length=p.thr.length:=by simp[zW];omega
  rw[hm,List.replicate_succ]
  have hrl:∀X,(zW (List.replicate i thdB)++X::List.replicate m zDm)[i]?=some X:=fun X=>zLp hlen
  have hsl:∀X Y,(zW (List.replicate i thdB)++X::List.replicate m zDm).set i Y=zW (List.replicate i thdB)++Y::List.replicate m zDm:=fun X Y=>zLh hlen
  have hz:nmR 5 (List.replicate m zDm)=true:=zSS rfl
  have hv:i+(m+1)=p.thr.length:=by omega
  simp +decide only[go_sem,nT,nA,nS,nM,nB,reduceIte,reduceCtorEq,h1,h2,h3,h21,h22,hlt',hrl,hsl,hz]
  refine HW.tree 1 (.light 0 (.light 1 (.light 2 (.heavy 3 [0,1,2] (.light 4 (.light 5 (.heavy 6 [] .leaf .stop))) .stop)))) follows (by kernel_rfl) (by kernel_rfl) ?_
  simp +decide only[go_sem,nT,nA,nS,nM,nB,reduceIte,reduceCtorEq,h1,h2,h3,h21,h22,hlt',hrl,hsl,hz,List.length_replicate,hv]
  refine ⟨by rw[Bool.and_eq_true];exact ⟨beq_self_eq_true _,by simp only[bne_iff_ne];omega⟩,?_⟩
  refine GQ.step (Ghost.absorb 3 i 1) ?_
  simp +decide only[go_sem,nT,nA,nS,nM,nB,reduceIte,reduceCtorEq,hrl,hsl,zCU,zCK,List.length_replicate]
  refine GQ.step (Ghost.cell 3 i 3 (.ow 144 2 []) rfl (hrl _) rfl rfl (Conv.nilOw _ _) (by simp)) ?_
  refine GQ.step (Ghost.trunc [1,2,3,21,22] 5 (by omega) ?_ ?_) (GQ.done ⟨m,by omega,i+1,by omega,by omega,?_,?_,?_,?_,?_,?_⟩)
  ·simp +decide only[go_sem,nB,reduceIte,h1,h2,h3,h21]
  ·simp +decide only[go_sem,nB,reduceIte,hsl,hz,zDA,List.set_cons_succ,List.set_cons_zero]
  iterate 4 simp +decide only[go_sem,nB,reduceIte,h1,h2,h3,h21]
  ·simp +decide only[go_sem,nB,reduceIte];rw[w64 (by omega) (by omega)];rfl
  ·have e:zW (List.replicate (i+1) thdB)=zW (List.replicate i thdB)++[zBB thdB]:=by rw[List.replicate_succ',←zE1]
   simp +decide only[go_sem,nT,nA,nS,nM,nB,reduceIte,reduceCtorEq,hsl]
   rw[e,show p.thr.length-(i+1)=m by omega,List.append_assoc]
   rfl
 ·have hlt' : ((i:Int)<(p.thr.length:Int))=False:=by rw[z8];simp[hlt]
  have e:i=p.thr.length:=by omega
  have hz0:p.thr.length-i=0:=by omega
  rw[hz0,List.replicate_zero,List.append_nil]
  have hth:(p.thr.length=i)=True:=by simp[e]
  simp +decide only[go_sem,nT,nA,nS,nM,nB,reduceIte,reduceCtorEq,h1,h2,h3,h21,h22,hlt',List.length_replicate,hth]
  rw[zU0,e]
end Go.Proofs.YtoknohandclcbaaGreat
namespace Go.Proofs.YtoknohandclcbaaGreat
open Go.RowKit
set_option maxRecDepth 8000
end Go.Proofs.YtoknohandclcbaaGreat
namespace Go.Proofs.YtoknohandclcbaaGreat
open Go.RowKit
set_option maxRecDepth 8000
def zBL (a b:List Int):Bool:=a.any fun n=>hasB b n
def zAc (p:Prg) (s:Sta) (k:Pck) (weak:Bool):Sta×Bool:=if weak=true then zAA p s k else if k.dr=true then (s,false) else zD1 p s k.th
end Go.Proofs.YtoknohandclcbaaGreat
namespace Go.Proofs.YtoknohandclcbaaGreat
open Go.RowKit
set_option maxRecDepth 8000
theorem zFe {p:Prg} {s:Sta} {k:Pck} {weak:Bool} (hp:RightP p) (hs:RightS p s):RightS p (zAc p s k weak).1:=by
 unfold zAc
 split
 ·exact zD0 hp hs
 ·split
  ·exact hs
  ·exact zLc hp hs
theorem zRN {p:Prg} {s:Sta} {k:Pck} {weak:Bool} {n:Nat} (h:Few s n):Few (zAc p s k weak).1 (n+1):=by
 unfold zAc
 split
 ·exact zJW h
 ·split
  ·exact h.mono (by omega)
  ·exact (zRM h).mono (by omega)
theorem zUZ {p:Prg}:Few (zK p) 0:=by
 intro t ht
 simp only[zK,List.mem_map] at ht
 obtain ⟨_,_,rfl⟩:=ht
 simp
def runF (f:Sta→Pck→Sta×Bool):Sta→List Pck→Sta×Nat×Bool
 | s,[]=>(s,0,true)
 | s,k::r=>if (f s k).2=true then ((runF f (f s k).1 r).1,(runF f (f s k).1 r).2.1+1,(runF f (f s k).1 r).2.2) else (s,0,false)
end Go.Proofs.YtoknohandclcbaaGreat
namespace Go.Proofs.YtoknohandclcbaaGreat
open Go.RowKit
set_option maxRecDepth 8000
def overT (p:Prg) (s:Sta) (t:Nat):Bool :=
 match s.ths[t]?,p.thr[t]? with
 | some y,some l=>decide (y.pc=l.length) && y.buf.isEmpty
 | _,_=>true
def zBp (p:Prg) (s:Sta):Bool:=(List.range s.ths.length).all (overT p s)
end Go.Proofs.YtoknohandclcbaaGreat
namespace Go.Proofs.YtoknohandclcbaaGreat
open Go.RowKit
set_option maxRecDepth 8000
end Go.Proofs.YtoknohandclcbaaGreat
namespace Go.Proofs.YtoknohandclcbaaGreat
open Go.RowKit
set_option maxRecDepth 8000
def putS (n:Int) (st:List Int×Bool) (x:Int):List Int×Bool:=if st.2=false∧n≤x then ((if n=x then st.1 else st.1++[n])++[x],true) else (st.1++[x],st.2)
def putB (l:List Int) (n:Int):List Int:=if (l.foldl (putS n) ([],false)).2=true then (l.foldl (putS n) ([],false)).1 else (l.foldl (putS n) ([],false)).1++[n]
end Go.Proofs.YtoknohandclcbaaGreat
namespace Go.Proofs.YtoknohandclcbaaGreat
open Go.RowKit
set_option maxRecDepth 8000
end Go.Proofs.YtoknohandclcbaaGreat
namespace Go.Proofs.YtoknohandclcbaaGreat
open Go.RowKit
set_option maxRecDepth 8000
def zAz (p:Prg):Sta→List Int→List Pck→Option (List Int)
 | _,out,[]=>some out
 | s,out,k::r=>if (zAA p s k).2=true then zAz p (zAA p s k).1 (if k.dr=false∧(thAt s k.th).buf≠[] then putB out (numS p k.th (thAt s k.th).pc) else out) r else none
theorem zJo (n:Int):∀(l:List Int) (st:List Int×Bool),(l.foldl (putS n) st).1.length+(!(l.foldl (putS n) st).2).toNat≤st.1.length+l.length+(!st.2).toNat
 | [],st=>Nat.le_refl _
 | x::l,st=>by
  have ih:=zJo n l (putS n st x)
  have h1:(putS n st x).1.length+(!(putS n st x).2).toNat≤st.1.length+1+(!st.2).toNat:=by
   obtain ⟨a,b⟩:=st
   unfold putS
   cases b with
   | true=>simp
   | false =>
    by_cases c:n≤x
    ·by_cases c2:n=x <;> simp[c,c2]
    ·simp[c]
  rw[List.foldl_cons,List.length_cons];omega
theorem zWD (l:List Int) (n:Int):(putB l n).length≤l.length+1:=by
 have:=zJo n l ([],false)
 simp only[List.length_nil,Bool.not_false,Bool.toNat_true] at this
 unfold putB
 cases h:(l.foldl (putS n) ([],false)).2 with
 | true=>rw[if_pos rfl];omega
 | false =>
  rw[h] at this
  simp only[Bool.not_false,Bool.toNat_true] at this
  rw[if_neg (by simp)]
  simp;omega
end Go.Proofs.YtoknohandclcbaaGreat
namespace Go.Proofs.YtoknohandclcbaaGreat
open Go.RowKit
set_option maxRecDepth 8000
def zAa (p:Prg) (g:List Int):Sta→List Pck→List Pck→Option (List Pck)
 | _,out,[]=>some out
 | s,out,k::r=>if (zAA p s k).2=true then
   (if k.dr=false∧hasB g (numS p k.th (thAt s k.th).pc)=true then (if (thAt s k.th).buf≠[] then none else zAa p g (zAA p s k).1 (out++[⟨k.th,false⟩]++[k]) r) else zAa p g (zAA p s k).1 (out++[k]) r)
  else none
theorem Conv.nilTuOw (e:TypeId) (sz:Nat) (b:HV):Conv (.tu [.v (.slice none 0 0),b]) (.tu [.ow e sz [],b]):=fun Z G w y h=>by
 simp only[RV,RL] at h⊢
 obtain ⟨ys,rfl,y1,ys',f1,f2,e1,e2,⟨rfl,rfl⟩,h2⟩:=h
 exact ⟨_,rfl,_,_,[],f2,e1,by simpa using e2,.inl ⟨trivial,rfl,rfl⟩,h2⟩
end Go.Proofs.YtoknohandclcbaaGreat
namespace Go.Proofs.YtoknohandclcbaaGreat
open Go.RowKit
set_option maxRecDepth 8000
end Go.Proofs.YtoknohandclcbaaGreat
namespace Go.Proofs.YtoknohandclcbaaGreat
open Go.RowKit
set_option maxRecDepth 8000
def zHA (s:Sta):List Int:=s.ths.flatMap (·.regs)
end Go.Proofs.YtoknohandclcbaaGreat
namespace Go.Proofs.YtoknohandclcbaaGreat
open Go.RowKit
section
variable {N L:Nat} {T:Nat→HV} {H:Heap}
theorem Ghost.freezeHd (i n len:Nat) {ob:HObj} (hi:T i=.hd n 0 len) (ho:H[n]?=some (some ob)) (hl:len=ob.rows.length):Ghost N L T H (upd T i (.sl (fzoR ob.rows))) (H.set n none):=fun B Z G FP ds a w hL hs=>by
 have hk:=hs.inv.freeze n
 have hG:GLe G (G.set n none):=GLe.kill n
 have hE:Evo Z FP w (Zid Z FP n) (fun j=>if j=n then [] else FP j) w:=zDH n
 have hs':=hs.evo hk hG hE
 refine ⟨_,_,_,⟨hs'.inv,hs'.size,fun c hc=>?_,hs'.defers,hs'.dsn,hs'.dsat⟩,GLt.of hL hG,hE⟩
 unfold upd
 split
 ·rename_i e
  subst e
  have h0:=hs.tmps c hc
  rw[hi] at h0
  obtain ⟨g,hg,hOB,hV⟩:=zEK hs.inv ho (by omega) h0
  unfold View at hV
  simp only[RV]
  cases hb:g.blk with
  | none =>
   rw[hb] at hV
   obtain ⟨hy,_,h2⟩:=hV
   have hr:ob.rows=[]:=List.length_eq_zero_iff.1 (by omega)
   refine ⟨trivial,none,0,?_,?_,by simp[maxLen],.inl ?_⟩
   ·rw[hy,hr];rfl
   ·rw[hr];exact Nat.le_refl _
   ·rw[hr];rfl
  | some b =>
   rw[hb] at hV
   obtain ⟨ad,hy,ha⟩:=hV
   obtain ⟨b',cells,f,q1,q2,q3,q4,q5,q6,q7⟩:=hOB.cells_ hb
   rw[hb] at q1
   cases q1
   have ha':=ha (.inr rfl)
   refine ⟨trivial,some ad,g.cap,?_,by rw[zAZ];exact q5,q6,?_⟩
   ·rw[hy,zAZ,hl];rfl
   ·right
    refine ⟨b,0,by rw[ha',Nat.zero_mul],.inr (by rw[q2];simp),?_,?_⟩
    ·refine zBy (sz:=ob.sz) fun r hr=>?_
     rw[zBv] at hr
     obtain ⟨r',hr',rfl⟩:=List.mem_map.1 hr
     rw[zA0];exact hOB.len r' hr'
    ·exact zCN ob.rows G b 0 f ⟨fun b hb=>.inl hb,fun b hb=>.inr (by rw[q2];simp[hb])⟩ q7
 ·exact hs'.tmps c hc
end
end Go.Proofs.YtoknohandclcbaaGreat
namespace Go.Proofs.YtoknohandclcbaaGreat
open Go.RowKit
set_option maxRecDepth 8000
abbrev zGE (p:Prg):HV:=.fp [[.sl (ints p.init),.sl (thrs p.thr)]] 0 0
set_option maxHeartbeats 4000000 in
theorem zOw (p:Prg) (s:Sta) (k:Pck) (hp:RightP p) (hs:RightS p s) (hb:∀t∈s.ths,t.buf.length≤100000):HFn Tryz.prog 196 [staH s,pckH k,zGE p] (.tu [staH (zAA p s k).1,.v (.bool (zAA p s k).2)]):=by
 have hst:HFn Tryz.prog 94 [prgH p,staH s,pckH k] (.tu [staH (zAA p s k).1,.v (.bool (zAA p s k).2)]):=HFn.shut (zQu p s k hp hs hb) (by simp only[fzo,fzoL,zAU,zCF])
 generalize zAA p s k=z at hst
 obtain ⟨s',ok⟩:=z
 refine zU (fn:=Tryz.f196) 13 [.cell 5 79,.tmp 6] (by kernel_rfl) rfl rfl (by kernel_rfl) (HW.run 400 (by kernel_rfl) ?_)
 simp +decide only[go_sem,nT,nA,nS,nM,nB,reduceIte,reduceCtorEq]
 refine zD (hst) rfl rfl ?_
 simp +decide only[go_sem,nT,nA,nS,nM,nB,reduceIte,reduceCtorEq]
theorem zYl (s:Sta) (k:Pck):HFn Tryz.prog 166 [staH s,pckH k] (.tu []):=by
 refine zB (fn:=Tryz.f166) 4 [] (by kernel_rfl) rfl (by kernel_rfl) (HW.run 400 (by kernel_rfl) ?_)
 simp +decide only[go_sem,nT,nA,nS,nM,nB,reduceIte,reduceCtorEq]
end Go.Proofs.YtoknohandclcbaaGreat
namespace Go.Proofs.YtoknohandclcbaaGreat
open Go.RowKit
set_option maxRecDepth 8000
structure Ot where
 mem:List Int
 regs:List Int
 deriving DecidableEq
structure Fnd where
 out:Ot
 picks:List Pck
 deriving DecidableEq
structure Prf where
 picks:List Pck
 out:Ot
 slots:List Int
 deriving DecidableEq
structure Ans where
 fences:List Int
 proofs:List Prf
 ends:List Ot
 loose:List Ot
 states:Int
 deriving DecidableEq
def orow (x:Ot):List HV:=[.sl (ints x.mem),.sl (ints x.regs)]
def ots (l:List Ot):List (List HV):=l.map orow
theorem ots_flat:Plain orow 2:=⟨fun _=>rfl,fun _=>rfl⟩
theorem zZN:ots []=[]:=rfl
theorem zPS {a b:List Ot}:ots a++ots b=ots (a++b):=by simp[ots]
theorem zH7 {l:List Ot}:(ots l).length=l.length:=by simp[ots]
theorem zZO {l:List Ot} {i:Nat}:(ots l)[i]?=l[i]?.map orow:=by simp[ots]
theorem zWT {l:List Ot} {i:Nat}:(ots l).drop i=ots (l.drop i):=by simp[ots,List.map_drop]
theorem zWR {l:List Ot} {i:Nat}:(ots l).take i=ots (l.take i):=by simp[ots,List.map_take]
theorem zSL {l:List Ot} {i:Nat} {x:Ot}:(ots l).set i (orow x)=ots (l.set i x):=by simp[ots,List.map_set]
theorem zMD {l:List Ot}:zV (ots l) 2=True:=ots_flat.rowsLen l
theorem zZM {l:List Ot}:tvs (ots l).flatten=true:=ots_flat.tvs l
theorem zSM {l:List Ot} {m:Nat}:nmR m (ots l)=true:=ots_flat.nmR l
theorem z2D {l:List Ot} {k:Nat} {H:Heap}:(ots l).map (fun r=>r.map (fz k H))=ots l:=ots_flat.fz l
theorem zWS {l:List Ot}:fzoR (ots l)=ots l:=ots_flat.fzoR l
attribute [go_sem] zZN zPS zH7 zZO zWT zWR zMD zZM zSM z2D zWS orow
def zXC (x:Fnd):List HV:=[.sl (ints x.out.mem),.sl (ints x.out.regs),.sl (pcks x.picks)]
def fds (l:List Fnd):List (List HV):=l.map zXC
theorem fds_flat:Plain zXC 3:=⟨fun _=>rfl,fun _=>rfl⟩
theorem z0o:fds []=[]:=rfl
theorem zPl {a b:List Fnd}:fds a++fds b=fds (a++b):=by simp[fds]
theorem zPk {l:List Fnd}:(fds l).length=l.length:=by simp[fds]
theorem z0p {l:List Fnd} {i:Nat}:(fds l)[i]?=l[i]?.map zXC:=by simp[fds]
theorem zXB {l:List Fnd} {i:Nat}:(fds l).drop i=fds (l.drop i):=by simp[fds,List.map_drop]
theorem zWz {l:List Fnd} {i:Nat}:(fds l).take i=fds (l.take i):=by simp[fds,List.map_take]
theorem zMZ {l:List Fnd}:zV (fds l) 3=True:=fds_flat.rowsLen l
theorem z0m {l:List Fnd}:tvs (fds l).flatten=true:=fds_flat.tvs l
theorem z0n {l:List Fnd} {m:Nat}:nmR m (fds l)=true:=fds_flat.nmR l
theorem z3d {l:List Fnd} {k:Nat} {H:Heap}:(fds l).map (fun r=>r.map (fz k H))=fds l:=fds_flat.fz l
theorem zXA {l:List Fnd}:fzoR (fds l)=fds l:=fds_flat.fzoR l
attribute [go_sem] z0o zPl zPk z0p zXB zWz zMZ z0m z0n z3d zXA zXC
def zLz (x:Prf):List HV:=[.sl (pcks x.picks),.sl (ints x.out.mem),.sl (ints x.out.regs),.sl (ints x.slots)]
def pfs (l:List Prf):List (List HV):=l.map zLz
theorem pfs_flat:Plain zLz 4:=⟨fun _=>rfl,fun _=>rfl⟩
theorem zZI:pfs []=[]:=rfl
theorem zPO {a b:List Prf}:pfs a++pfs b=pfs (a++b):=by simp[pfs]
theorem zPN {l:List Prf}:(pfs l).length=l.length:=by simp[pfs]
theorem zZJ {l:List Prf} {i:Nat}:(pfs l)[i]?=l[i]?.map zLz:=by simp[pfs]
theorem zWJ {l:List Prf} {i:Nat}:(pfs l).drop i=pfs (l.drop i):=by simp[pfs,List.map_drop]
theorem zWH {l:List Prf} {i:Nat}:(pfs l).take i=pfs (l.take i):=by simp[pfs,List.map_take]
theorem zZH {l:List Prf} {i:Nat} {x:Prf}:(pfs l).set i (zLz x)=pfs (l.set i x):=by simp[pfs,List.map_set]
theorem zLy {l:List Prf}:zV (pfs l) 4=True:=pfs_flat.rowsLen l
theorem zZG {l:List Prf}:tvs (pfs l).flatten=true:=pfs_flat.tvs l
theorem zSB {l:List Prf} {m:Nat}:nmR m (pfs l)=true:=pfs_flat.nmR l
theorem z2B {l:List Prf} {k:Nat} {H:Heap}:(pfs l).map (fun r=>r.map (fz k H))=pfs l:=pfs_flat.fz l
theorem zWI {l:List Prf}:fzoR (pfs l)=pfs l:=pfs_flat.fzoR l
attribute [go_sem] zZI zPO zPN zZJ zWJ zWH zLy zZG zSB z2B zWI zLz
def zR1 (x:List Int):List HV:=[.sl (ints x)]
def rws (l:List (List Int)):List (List HV):=l.map zR1
theorem rws_flat:Plain zR1 1:=⟨fun _=>rfl,fun _=>rfl⟩
theorem zYh:rws []=[]:=rfl
theorem zOs {a b:List (List Int)}:rws a++rws b=rws (a++b):=by simp[rws]
theorem zOr {l:List (List Int)}:(rws l).length=l.length:=by simp[rws]
theorem zYi {l:List (List Int)} {i:Nat}:(rws l)[i]?=l[i]?.map zR1:=by simp[rws]
theorem zV7 {l:List (List Int)} {i:Nat}:(rws l).drop i=rws (l.drop i):=by simp[rws,List.map_drop]
theorem zV6 {l:List (List Int)} {i:Nat}:(rws l).take i=rws (l.take i):=by simp[rws,List.map_take]
theorem zLk {l:List (List Int)}:zV (rws l) 1=True:=rws_flat.rowsLen l
theorem zYg {l:List (List Int)}:tvs (rws l).flatten=true:=rws_flat.tvs l
theorem zR0 {l:List (List Int)} {m:Nat}:nmR m (rws l)=true:=rws_flat.nmR l
theorem z1q {l:List (List Int)} {k:Nat} {H:Heap}:(rws l).map (fun r=>r.map (fz k H))=rws l:=rws_flat.fz l
theorem zII {l:List (List Int)}:fzoR (rws l)=rws l:=rws_flat.fzoR l
attribute [go_sem] zYh zOs zOr zYi zV7 zV6 zLk zYg zR0 z1q zII zR1
abbrev otH (o:Ot):HV:=.ag [.sl (ints o.mem),.sl (ints o.regs)]
abbrev prfH (x:Prf):HV:=.ag [.sl (pcks x.picks),.sl (ints x.out.mem),.sl (ints x.out.regs),.sl (ints x.slots)]
abbrev ansH (a:Ans):HV:=.ag [.sl (ints a.fences),.sl (pfs a.proofs),.sl (ots a.ends),.sl (ots a.loose),.v (.int .i64 a.states)]
theorem zSK {l:List Ot} {a b:List Int}:ots l++[[.sl (ints a),.sl (ints b)]]=ots (l++[⟨a,b⟩]):=by simp[ots,orow]
theorem zRZ {l:List (List Int)} {a:List Int}:rws l++[[.sl (ints a)]]=rws (l++[a]):=by simp[rws,zR1]
theorem zSA {l:List Prf} {a:List Pck} {b c d:List Int}:pfs l++[[.sl (pcks a),.sl (ints b),.sl (ints c),.sl (ints d)]]=pfs (l++[⟨a,⟨b,c⟩,d⟩]):=by simp[pfs,zLz]
attribute [go_sem] zSK zRZ zSA
end Go.Proofs.YtoknohandclcbaaGreat
namespace Go.Proofs.YtoknohandclcbaaGreat
open Go.RowKit
set_option maxRecDepth 8000
def idxF {α:Type} (pred:α→Bool) (l:List α):Int:=match l.findIdx? pred with | some i=>(i:Int) | none => -1
section
variable {α:Type} {pred:α→Bool} {l:List α}
theorem zEJ {i:Nat} {x:α} (hx:l[i]?=some x) (hp:∀(j:Nat) y,j<i→l[j]?=some y→pred y=false) (h:pred x=true):idxF pred l=(i:Int):=by
 have:l.findIdx? pred=some i:=by
  rw[List.findIdx?_eq_some_iff_getElem]
  obtain ⟨hlt,he⟩:=List.getElem?_eq_some_iff.1 hx
  refine ⟨hlt,by rw[he];exact h,fun j hj=>?_⟩
  rw[hp j _ hj (List.getElem?_eq_getElem (by omega))];simp
 unfold idxF
 rw[this]
theorem zCm (hp:∀(j:Nat) y,l[j]?=some y→pred y=false):idxF pred l = -1:=by
 have:l.findIdx? pred=none:=by
  rw[List.findIdx?_eq_none_iff]
  intro x hx
  obtain ⟨j,hj⟩:=List.getElem?_of_mem hx
  exact hp j x hj
 unfold idxF
 rw[this]
theorem zGS:decide (0≤idxF pred l)=l.any pred:=by
 unfold idxF
 cases h:l.findIdx? pred with
 | none =>
  rw[List.findIdx?_eq_none_iff] at h
  have:l.any pred=false:=by
   rw[List.any_eq_false]
   intro x hx
   rw[h x hx];simp
  rw[this];rfl
 | some i =>
  rw[List.findIdx?_eq_some_iff_getElem] at h
  obtain ⟨h1,h2,_⟩:=h
  have:l.any pred=true:=List.any_eq_true.2 ⟨_,List.getElem_mem h1,h2⟩
  rw[this];simp
theorem zEm:-1≤idxF pred l∧idxF pred l≤l.length:=by
 unfold idxF
 cases h:l.findIdx? pred with
 | none=>simp
 | some i =>
  rw[List.findIdx?_eq_some_iff_getElem] at h
  obtain ⟨h1,h2,_⟩:=h
  simp;try omega
theorem tfE' (p:Prop):(p∧p=True)∨(¬p∧p=False):=by by_cases h:p <;> simp[h]
end
set_option maxHeartbeats 4000000 in
theorem idxI (l:List Int) (f:Nat) (caps:List HV) (pred:Int→Bool) (hl:l.length≤1000000) (hn:∀x∈l,nmL 0 (fnA f .any [.v (.int .i64 x)] caps)=true)
  (h:∀(i:Nat) x,l[i]?=some x→(∀(j:Nat) y,j<i→l[j]?=some y→pred y=false)→HFn Tryz.prog (fnF f) (fnA f .any [.v (.int .i64 x)] caps) (.v (.bool (pred x)))) :
  HFn Tryz.prog 124 [.sl (ints l),.fn f caps] (.v (.int .i64 (idxF pred l))):=by
 refine zB (fn:=Tryz.f124) 19 [4] (by kernel_rfl) rfl (by kernel_rfl) (HW.run 400 (by kernel_rfl) ?_)
 simp +decide only[go_sem,nT,nA,nS,nM,nB,reduceIte,reduceCtorEq]
 refine HW.loopG (fun k T H=>∃i:Nat,k=l.length-i∧i≤l.length∧(∀(j:Nat) y,j<i→l[j]?=some y→pred y=false)∧T 0=.sl (ints l)∧T 1=.fn f caps∧T 7=.v (.int .i64 l.length)∧T 8=.v (.int .i64 i)∧H=[]) l.length ⟨_,_,Ghost.refl,0,rfl,by omega,by simp,rfl,rfl,rfl,rfl,rfl⟩ ?_
 rintro k T H ⟨i,rfl,hil,hp,h0,h1,h7,h8,rfl⟩
 refine HW.run 200 (by kernel_rfl) ?_
 by_cases hlt:i<l.length
 ·have hlt' : ((i:Int)<(l.length:Int))=True:=by simp only[eq_iff_iff,iff_true];omega
  have hx:l[i]?=some l[i]:=List.getElem?_eq_getElem hlt
  have hm:=List.getElem_mem hlt
  generalize l[i]=x at hx hm
  have hc:=h i x hx hp
  have hnn:=hn x hm
  simp +decide only[go_sem,nT,nA,nS,nM,nB,reduceIte,reduceCtorEq,h0,h1,h7,h8,hlt',hx]
  refine zD hc rfl hnn ?_
  cases hb:pred x with
  | true =>
   rw[zEJ hx hp hb]
   simp +decide only[go_sem,nT,nA,nS,nM,nB,reduceIte,reduceCtorEq,h0,h1,h7,h8]
  | false =>
   simp +decide only[go_sem,nT,nA,nS,nM,nB,reduceIte,reduceCtorEq,h0,h1,h7,h8]
   refine ⟨_,_,Ghost.refl,l.length-(i+1),by omega,i+1,rfl,by omega,?_,?_,?_,?_,?_,?_⟩
   ·intro j y hj hy
    rcases Nat.lt_or_ge j i with hji | hji
    ·exact hp j y hji hy
    ·obtain rfl:j=i:=by omega
     rw[hx] at hy;cases hy;exact hb
   all_goals first | (simp +decide only[go_sem,nB,reduceIte,h0,h1,h7];done) | (simp +decide only[go_sem,nB,reduceIte];rw[w64 (by omega) (by omega)];rfl) | rfl
 ·have hlt' : ((i:Int)<(l.length:Int))=False:=by simp only[eq_iff_iff,iff_false];omega
  rw[zCm fun j y hy=>hp j y (by have:=(List.getElem?_eq_some_iff.1 hy).1;omega) hy]
  simp +decide only[go_sem,nT,nA,nS,nM,nB,reduceIte,reduceCtorEq,h0,h1,h7,h8,hlt']
theorem conI (l:List Int) (f:Nat) (caps:List HV) (pred:Int→Bool) (hl:l.length≤1000000) (hn:∀x∈l,nmL 0 (fnA f .any [.v (.int .i64 x)] caps)=true) (hc:nmL 0 caps=true)
  (h:∀(i:Nat) x,l[i]?=some x→(∀(j:Nat) y,j<i→l[j]?=some y→pred y=false)→HFn Tryz.prog (fnF f) (fnA f .any [.v (.int .i64 x)] caps) (.v (.bool (pred x)))) :
  HFn Tryz.prog 89 [.sl (ints l),.fn f caps] (.v (.bool (l.any pred))):=by
 have hi:=idxI l f caps pred hl hn h
 rw[←zGS]
 have hr:=zEm (pred:=pred) (l:=l)
 generalize idxF pred l=n at hi hr
 refine zB (fn:=Tryz.f89) 9 [4] (by kernel_rfl) rfl (by kernel_rfl) (HW.run 400 (by kernel_rfl) ?_)
 simp +decide only[go_sem,nT,nA,nS,nM,nB,reduceIte,reduceCtorEq]
 refine zD hi rfl (by simp only[nmL,nm,zEI,hc,Bool.and_self]) ?_
 rcases tfE' (0≤n) with ⟨d,c⟩ | ⟨d,c⟩
 ·simp +decide only[go_sem,nT,nA,nS,nM,nB,reduceIte,reduceCtorEq,c]
 ·simp +decide only[go_sem,nT,nA,nS,nM,nB,reduceIte,reduceCtorEq,c]
set_option maxHeartbeats 4000000 in
theorem idxR (l:List (List Int)) (f:Nat) (caps:List HV) (pred:(List Int)→Bool) (hl:l.length≤1000000) (hn:∀x∈l,nmL 0 (fnA f .any [.sl (ints x)] caps)=true)
  (h:∀(i:Nat) x,l[i]?=some x→(∀(j:Nat) y,j<i→l[j]?=some y→pred y=false)→HFn Tryz.prog (fnF f) (fnA f .any [.sl (ints x)] caps) (.v (.bool (pred x)))) :
  HFn Tryz.prog 88 [.sl (rws l),.fn f caps] (.v (.int .i64 (idxF pred l))):=by
 refine zB (fn:=Tryz.f88) 19 [4] (by kernel_rfl) rfl (by kernel_rfl) (HW.run 400 (by kernel_rfl) ?_)
 simp +decide only[go_sem,nT,nA,nS,nM,nB,reduceIte,reduceCtorEq]
 refine HW.loopG (fun k T H=>∃i:Nat,k=l.length-i∧i≤l.length∧(∀(j:Nat) y,j<i→l[j]?=some y→pred y=false)∧T 0=.sl (rws l)∧T 1=.fn f caps∧T 7=.v (.int .i64 l.length)∧T 8=.v (.int .i64 i)∧H=[]) l.length ⟨_,_,Ghost.refl,0,rfl,by omega,by simp,rfl,rfl,rfl,rfl,rfl⟩ ?_
 rintro k T H ⟨i,rfl,hil,hp,h0,h1,h7,h8,rfl⟩
 refine HW.run 200 (by kernel_rfl) ?_
 by_cases hlt:i<l.length
 ·have hlt' : ((i:Int)<(l.length:Int))=True:=by simp only[eq_iff_iff,iff_true];omega
  have hx:l[i]?=some l[i]:=List.getElem?_eq_getElem hlt
  have hm:=List.getElem_mem hlt
  generalize l[i]=x at hx hm
  have hc:=h i x hx hp
  have hnn:=hn x hm
  simp +decide only[go_sem,nT,nA,nS,nM,nB,reduceIte,reduceCtorEq,h0,h1,h7,h8,hlt',hx]
  refine zD hc rfl hnn ?_
  cases hb:pred x with
  | true =>
   rw[zEJ hx hp hb]
   simp +decide only[go_sem,nT,nA,nS,nM,nB,reduceIte,reduceCtorEq,h0,h1,h7,h8]
  | false =>
   simp +decide only[go_sem,nT,nA,nS,nM,nB,reduceIte,reduceCtorEq,h0,h1,h7,h8]
   refine ⟨_,_,Ghost.refl,l.length-(i+1),by omega,i+1,rfl,by omega,?_,?_,?_,?_,?_,?_⟩
   ·intro j y hj hy
    rcases Nat.lt_or_ge j i with hji | hji
    ·exact hp j y hji hy
    ·obtain rfl:j=i:=by omega
     rw[hx] at hy;cases hy;exact hb
   all_goals first | (simp +decide only[go_sem,nB,reduceIte,h0,h1,h7];done) | (simp +decide only[go_sem,nB,reduceIte];rw[w64 (by omega) (by omega)];rfl) | rfl
 ·have hlt' : ((i:Int)<(l.length:Int))=False:=by simp only[eq_iff_iff,iff_false];omega
  rw[zCm fun j y hy=>hp j y (by have:=(List.getElem?_eq_some_iff.1 hy).1;omega) hy]
  simp +decide only[go_sem,nT,nA,nS,nM,nB,reduceIte,reduceCtorEq,h0,h1,h7,h8,hlt']
theorem conR (l:List (List Int)) (f:Nat) (caps:List HV) (pred:(List Int)→Bool) (hl:l.length≤1000000) (hn:∀x∈l,nmL 0 (fnA f .any [.sl (ints x)] caps)=true) (hc:nmL 0 caps=true)
  (h:∀(i:Nat) x,l[i]?=some x→(∀(j:Nat) y,j<i→l[j]?=some y→pred y=false)→HFn Tryz.prog (fnF f) (fnA f .any [.sl (ints x)] caps) (.v (.bool (pred x)))) :
  HFn Tryz.prog 56 [.sl (rws l),.fn f caps] (.v (.bool (l.any pred))):=by
 have hi:=idxR l f caps pred hl hn h
 rw[←zGS]
 have hr:=zEm (pred:=pred) (l:=l)
 generalize idxF pred l=n at hi hr
 refine zB (fn:=Tryz.f56) 9 [4] (by kernel_rfl) rfl (by kernel_rfl) (HW.run 400 (by kernel_rfl) ?_)
 simp +decide only[go_sem,nT,nA,nS,nM,nB,reduceIte,reduceCtorEq]
 refine zD hi rfl (by simp only[nmL,nm,zR0,hc,Bool.and_self]) ?_
 rcases tfE' (0≤n) with ⟨d,c⟩ | ⟨d,c⟩
 ·simp +decide only[go_sem,nT,nA,nS,nM,nB,reduceIte,reduceCtorEq,c]
 ·simp +decide only[go_sem,nT,nA,nS,nM,nB,reduceIte,reduceCtorEq,c]
set_option maxHeartbeats 4000000 in
theorem idxP (l:List Prf) (f:Nat) (caps:List HV) (pred:Prf→Bool) (hl:l.length≤1000000) (hn:∀x∈l,nmL 0 (fnA f .any [prfH x] caps)=true)
  (h:∀(i:Nat) x,l[i]?=some x→(∀(j:Nat) y,j<i→l[j]?=some y→pred y=false)→HFn Tryz.prog (fnF f) (fnA f .any [prfH x] caps) (.v (.bool (pred x)))) :
  HFn Tryz.prog 31 [.sl (pfs l),.fn f caps] (.v (.int .i64 (idxF pred l))):=by
 refine zB (fn:=Tryz.f31) 19 [4] (by kernel_rfl) rfl (by kernel_rfl) (HW.run 400 (by kernel_rfl) ?_)
 simp +decide only[go_sem,nT,nA,nS,nM,nB,reduceIte,reduceCtorEq]
 refine HW.loopG (fun k T H=>∃i:Nat,k=l.length-i∧i≤l.length∧(∀(j:Nat) y,j<i→l[j]?=some y→pred y=false)∧T 0=.sl (pfs l)∧T 1=.fn f caps∧T 7=.v (.int .i64 l.length)∧T 8=.v (.int .i64 i)∧H=[]) l.length ⟨_,_,Ghost.refl,0,rfl,by omega,by simp,rfl,rfl,rfl,rfl,rfl⟩ ?_
 rintro k T H ⟨i,rfl,hil,hp,h0,h1,h7,h8,rfl⟩
 refine HW.run 200 (by kernel_rfl) ?_
 by_cases hlt:i<l.length
 ·have hlt' : ((i:Int)<(l.length:Int))=True:=by simp only[eq_iff_iff,iff_true];omega
  have hx:l[i]?=some l[i]:=List.getElem?_eq_getElem hlt
  have hm:=List.getElem_mem hlt
  generalize l[i]=x at hx hm
  have hc:=h i x hx hp
  have hnn:=hn x hm
  simp +decide only[go_sem,nT,nA,nS,nM,nB,reduceIte,reduceCtorEq,h0,h1,h7,h8,hlt',hx]
  refine zD hc rfl hnn ?_
  cases hb:pred x with
  | true =>
   rw[zEJ hx hp hb]
   simp +decide only[go_sem,nT,nA,nS,nM,nB,reduceIte,reduceCtorEq,h0,h1,h7,h8]
  | false =>
   simp +decide only[go_sem,nT,nA,nS,nM,nB,reduceIte,reduceCtorEq,h0,h1,h7,h8]
   refine ⟨_,_,Ghost.refl,l.length-(i+1),by omega,i+1,rfl,by omega,?_,?_,?_,?_,?_,?_⟩
   ·intro j y hj hy
    rcases Nat.lt_or_ge j i with hji | hji
    ·exact hp j y hji hy
    ·obtain rfl:j=i:=by omega
     rw[hx] at hy;cases hy;exact hb
   all_goals first | (simp +decide only[go_sem,nB,reduceIte,h0,h1,h7];done) | (simp +decide only[go_sem,nB,reduceIte];rw[w64 (by omega) (by omega)];rfl) | rfl
 ·have hlt' : ((i:Int)<(l.length:Int))=False:=by simp only[eq_iff_iff,iff_false];omega
  rw[zCm fun j y hy=>hp j y (by have:=(List.getElem?_eq_some_iff.1 hy).1;omega) hy]
  simp +decide only[go_sem,nT,nA,nS,nM,nB,reduceIte,reduceCtorEq,h0,h1,h7,h8,hlt']
theorem conP (l:List Prf) (f:Nat) (caps:List HV) (pred:Prf→Bool) (hl:l.length≤1000000) (hn:∀x∈l,nmL 0 (fnA f .any [prfH x] caps)=true) (hc:nmL 0 caps=true)
  (h:∀(i:Nat) x,l[i]?=some x→(∀(j:Nat) y,j<i→l[j]?=some y→pred y=false)→HFn Tryz.prog (fnF f) (fnA f .any [prfH x] caps) (.v (.bool (pred x)))) :
  HFn Tryz.prog 69 [.sl (pfs l),.fn f caps] (.v (.bool (l.any pred))):=by
 have hi:=idxP l f caps pred hl hn h
 rw[←zGS]
 have hr:=zEm (pred:=pred) (l:=l)
 generalize idxF pred l=n at hi hr
 refine zB (fn:=Tryz.f69) 9 [4] (by kernel_rfl) rfl (by kernel_rfl) (HW.run 400 (by kernel_rfl) ?_)
 simp +decide only[go_sem,nT,nA,nS,nM,nB,reduceIte,reduceCtorEq]
 refine zD hi rfl (by simp only[nmL,nm,zSB,hc,Bool.and_self]) ?_
 rcases tfE' (0≤n) with ⟨d,c⟩ | ⟨d,c⟩
 ·simp +decide only[go_sem,nT,nA,nS,nM,nB,reduceIte,reduceCtorEq,c]
 ·simp +decide only[go_sem,nT,nA,nS,nM,nB,reduceIte,reduceCtorEq,c]
set_option maxHeartbeats 4000000 in
theorem idxO (l:List Ot) (f:Nat) (caps:List HV) (pred:Ot→Bool) (hl:l.length≤1000000) (hn:∀x∈l,nmL 0 (fnA f .any [otH x] caps)=true)
  (h:∀(i:Nat) x,l[i]?=some x→(∀(j:Nat) y,j<i→l[j]?=some y→pred y=false)→HFn Tryz.prog (fnF f) (fnA f .any [otH x] caps) (.v (.bool (pred x)))) :
  HFn Tryz.prog 133 [.sl (ots l),.fn f caps] (.v (.int .i64 (idxF pred l))):=by
 refine zB (fn:=Tryz.f133) 19 [4] (by kernel_rfl) rfl (by kernel_rfl) (HW.run 400 (by kernel_rfl) ?_)
 simp +decide only[go_sem,nT,nA,nS,nM,nB,reduceIte,reduceCtorEq]
 refine HW.loopG (fun k T H=>∃i:Nat,k=l.length-i∧i≤l.length∧(∀(j:Nat) y,j<i→l[j]?=some y→pred y=false)∧T 0=.sl (ots l)∧T 1=.fn f caps∧T 7=.v (.int .i64 l.length)∧T 8=.v (.int .i64 i)∧H=[]) l.length ⟨_,_,Ghost.refl,0,rfl,by omega,by simp,rfl,rfl,rfl,rfl,rfl⟩ ?_
 rintro k T H ⟨i,rfl,hil,hp,h0,h1,h7,h8,rfl⟩
 refine HW.run 200 (by kernel_rfl) ?_
 by_cases hlt:i<l.length
 ·have hlt' : ((i:Int)<(l.length:Int))=True:=by simp only[eq_iff_iff,iff_true];omega
  have hx:l[i]?=some l[i]:=List.getElem?_eq_getElem hlt
  have hm:=List.getElem_mem hlt
  generalize l[i]=x at hx hm
  have hc:=h i x hx hp
  have hnn:=hn x hm
  simp +decide only[go_sem,nT,nA,nS,nM,nB,reduceIte,reduceCtorEq,h0,h1,h7,h8,hlt',hx]
  refine zD hc rfl hnn ?_
  cases hb:pred x with
  | true =>
   rw[zEJ hx hp hb]
   simp +decide only[go_sem,nT,nA,nS,nM,nB,reduceIte,reduceCtorEq,h0,h1,h7,h8]
  | false =>
   simp +decide only[go_sem,nT,nA,nS,nM,nB,reduceIte,reduceCtorEq,h0,h1,h7,h8]
   refine ⟨_,_,Ghost.refl,l.length-(i+1),by omega,i+1,rfl,by omega,?_,?_,?_,?_,?_,?_⟩
   ·intro j y hj hy
    rcases Nat.lt_or_ge j i with hji | hji
    ·exact hp j y hji hy
    ·obtain rfl:j=i:=by omega
     rw[hx] at hy;cases hy;exact hb
   all_goals first | (simp +decide only[go_sem,nB,reduceIte,h0,h1,h7];done) | (simp +decide only[go_sem,nB,reduceIte];rw[w64 (by omega) (by omega)];rfl) | rfl
 ·have hlt' : ((i:Int)<(l.length:Int))=False:=by simp only[eq_iff_iff,iff_false];omega
  rw[zCm fun j y hy=>hp j y (by have:=(List.getElem?_eq_some_iff.1 hy).1;omega) hy]
  simp +decide only[go_sem,nT,nA,nS,nM,nB,reduceIte,reduceCtorEq,h0,h1,h7,h8,hlt']
end Go.Proofs.YtoknohandclcbaaGreat
namespace Go.Proofs.YtoknohandclcbaaGreat
set_option maxRecDepth 8000
def zAN:List Int→List Int→Bool
 | [],[]=>false
 | [],_::_=>true
 | _::_,[]=>false
 | a::x,b::y=>if a=b then zAN x y else decide (a<b)
def cmpI (a b:Int):Int:=if a<b then -1 else if b<a then 1 else 0
def cmpL:List Int→List Int→Int
 | [],[]=>0
 | [],_::_ => -1
 | _::_,[]=>1
 | a::x,b::y=>if cmpI a b≠0 then cmpI a b else cmpL x y
theorem zES {a b:Int}:cmpI a b=0↔a=b:=by
 unfold cmpI
 split
 ·constructor
  ·intro h;cases h
  ·intro h;omega
 ·split
  ·constructor
   ·intro h;cases h
   ·intro h;omega
  ·constructor <;> omega
theorem zXj {a b:Int}:cmpI a b<0↔a<b:=by
 unfold cmpI
 split
 ·simp;omega
 ·split
  ·simp;omega
  ·simp;omega
theorem zBi:∀{a b:List Int},cmpL a b=0↔a=b
 | [],[]=>by simp[cmpL]
 | [],_::_=>by simp[cmpL]
 | _::_,[]=>by simp[cmpL]
 | a::x,b::y=>by
  unfold cmpL
  by_cases h:cmpI a b=0
  ·rw[if_neg (by simp[h]),zBi (a:=x) (b:=y)]
   have:=zES.1 h
   subst this;simp
  ·rw[if_pos h]
   constructor
   ·intro e;exact absurd e h
   ·intro e;simp at e;exact absurd (zES.2 e.1) h
theorem zIs:∀{a b:List Int},cmpL a b<0↔zAN a b=true
 | [],[]=>by simp[cmpL,zAN]
 | [],_::_=>by simp[cmpL,zAN]
 | _::_,[]=>by simp[cmpL,zAN]
 | a::x,b::y=>by
  unfold cmpL zAN
  by_cases h:cmpI a b=0
  ·have e:=zES.1 h
   subst e
   rw[if_neg (by simp[h]),zIs (a:=x) (b:=y),if_pos rfl]
  ·have e:a≠b:=fun e=>h (zES.2 e)
   rw[if_pos h,if_neg e,zXj];simp
theorem zGm:∀a:List Int,zAN a a=false
 | []=>rfl
 | a::x=>by unfold zAN;rw[if_pos rfl];exact zGm x
theorem zDh:∀{a b c:List Int},zAN a b=true→zAN b c=true→zAN a c=true
 | [],[],c,h,_=>by simp[zAN] at h
 | [],_::_,[],_,h=>by simp[zAN] at h
 | [],_::_,_::_,_,_=>rfl
 | _::_,[],c,h,_=>by simp[zAN] at h
 | _::_,_::_,[],_,h=>by simp[zAN] at h
 | a::x,b::y,c::z,h1,h2=>by
  unfold zAN at h1 h2⊢
  by_cases e1:a=b
  ·subst e1
   rw[if_pos rfl] at h1
   by_cases e2:a=c
   ·subst e2
    rw[if_pos rfl] at h2⊢
    exact zDh h1 h2
   ·rw[if_neg e2] at h2⊢;exact h2
  ·rw[if_neg e1] at h1
   have h1:a<b:=by simpa using h1
   by_cases e2:b=c
   ·subst e2
    rw[if_neg e1];simpa using h1
   ·rw[if_neg e2] at h2
    have h2:b<c:=by simpa using h2
    rw[if_neg (by omega)];simp;omega
theorem zGl:∀(a b:List Int),zAN a b=true∨a=b∨zAN b a=true
 | [],[]=>.inr (.inl rfl)
 | [],_::_=>.inl rfl
 | _::_,[]=>.inr (.inr rfl)
 | a::x,b::y=>by
  unfold zAN
  by_cases e:a=b
  ·subst e
   rw[if_pos rfl,if_pos rfl]
   rcases zGl x y with h | h | h
   ·exact .inl h
   ·exact .inr (.inl (by rw[h]))
   ·exact .inr (.inr h)
  ·rw[if_neg e,if_neg (fun h=>e h.symm)]
   rcases Int.lt_or_gt_of_ne e with h | h
   ·exact .inl (by simpa using h)
   ·exact .inr (.inr (by simpa using h))
def zAv (a b:Ot):Bool:=if a.mem=b.mem then zAN a.regs b.regs else zAN a.mem b.mem
def cmpO (a b:Ot):Int:=if cmpL a.mem b.mem≠0 then cmpL a.mem b.mem else cmpL a.regs b.regs
theorem zOD {a b:Ot}:cmpO a b<0↔zAv a b=true:=by
 unfold cmpO zAv
 by_cases h:a.mem=b.mem
 ·rw[if_neg (by simp[zBi,h]),if_pos h,zIs]
 ·rw[if_pos (by simp[zBi,h]),if_neg h,zIs]
theorem zUM {a b:Ot}:cmpO a b=0↔a=b:=by
 obtain ⟨am,ar⟩:=a
 obtain ⟨bm,br⟩:=b
 unfold cmpO
 by_cases h:am=bm
 ·subst h
  rw[if_neg (by simp[zBi]),zBi];simp
 ·rw[if_pos (by simp[zBi,h]),zBi];simp[h]
theorem zEE (a:Ot):zAv a a=false:=by unfold zAv;rw[if_pos rfl];exact zGm _
theorem zGL {a b c:Ot} (h1:zAv a b=true) (h2:zAv b c=true):zAv a c=true:=by
 unfold zAv at h1 h2⊢
 by_cases e1:a.mem=b.mem
 ·rw[if_pos e1] at h1
  rw[e1]
  by_cases e2:b.mem=c.mem
  ·rw[if_pos e2] at h2⊢;exact zDh h1 h2
  ·rw[if_neg e2] at h2⊢;exact h2
 ·rw[if_neg e1] at h1
  by_cases e2:b.mem=c.mem
  ·rw[←e2,if_neg e1];exact h1
  ·rw[if_neg e2] at h2
   have h3:=zDh h1 h2
   rw[if_neg (fun e=>by rw[e,zGm] at h3;cases h3)];exact h3
theorem zSZ (a b:Ot):zAv a b=true∨a=b∨zAv b a=true:=by
 obtain ⟨am,ar⟩:=a
 obtain ⟨bm,br⟩:=b
 unfold zAv
 by_cases e:am=bm
 ·subst e
  rw[if_pos rfl,if_pos rfl]
  rcases zGl ar br with h | h | h
  ·exact .inl h
  ·exact .inr (.inl (by rw[h]))
  ·exact .inr (.inr h)
 ·have e' : ¬bm=am:=fun h=>e h.symm
  rw[if_neg e,if_neg e']
  rcases zGl am bm with h | h | h
  ·exact .inl h
  ·exact absurd h e
  ·exact .inr (.inr h)
def setO:List Ot→Bool
 | []=>true
 | [_]=>true
 | a::b::r=>zAv a b && setO (b::r)
def hasO (l:List Ot) (o:Ot):Bool:=decide (o∈l)
def zAm (a b:List Ot):List Ot:=a.filter fun o=>!hasO b o
def SetO (l:List Ot):Prop:=l.Pairwise fun a b=>zAv a b=true
theorem zF2:∀{l:List Ot},setO l=true↔SetO l
 | []=>by simp[setO,SetO]
 | [a]=>by simp[setO,SetO]
 | a::b::r=>by
  have ih:=zF2 (l:=b::r)
  unfold setO
  rw[Bool.and_eq_true,ih]
  constructor
  ·rintro ⟨h1,h2⟩
   refine List.pairwise_cons.2 ⟨fun x hx=>?_,h2⟩
   rcases List.mem_cons.1 hx with rfl | hx
   ·exact h1
   ·exact zGL h1 ((List.pairwise_cons.1 h2).1 x hx)
  ·intro h
   have:=List.pairwise_cons.1 h
   exact ⟨this.1 b (by simp),this.2⟩
def posO (l:List Ot) (o:Ot):Nat:=(l.takeWhile fun x=>zAv x o).length
theorem zZF (l:List Ot) (o:Ot):posO l o≤l.length:=List.takeWhile_sublist _ |>.length_le
theorem zIU {o:Ot}:∀{l:List Ot},SetO l→∀(i:Nat) (x:Ot),l[i]?=some x→(zAv x o=true↔i<posO l o)
 | [],_,i,x,h=>by simp at h
 | a::l,hs,i,x,h=>by
  obtain ⟨h1,h2⟩:=List.pairwise_cons.1 hs
  have ih:=zIU (o:=o) h2
  by_cases ha:zAv a o=true
  ·have e:posO (a::l) o=posO l o+1:=by simp[posO,List.takeWhile_cons,ha]
   rw[e]
   cases i with
   | zero=>simp at h;subst h;simp[ha]
   | succ i=>rw[ih i x (by simpa using h)];omega
  ·have e:posO (a::l) o=0:=by simp[posO,List.takeWhile_cons,ha]
   rw[e]
   cases i with
   | zero=>simp at h;subst h;simp[ha]
   | succ i =>
    have hm:x∈l:=List.mem_of_getElem? (by simpa using h)
    constructor
    ·intro hx;exact absurd (zGL (h1 x hm) hx) ha
    ·intro hx;omega
theorem zWG {o:Ot} {l:List Ot} (hs:SetO l):hasO l o=true↔l[posO l o]?=some o:=by
 unfold hasO
 rw[decide_eq_true_iff]
 constructor
 ·intro hm
  obtain ⟨i,hi⟩:=List.getElem?_of_mem hm
  have h1:=zIU (o:=o) hs i o hi
  rw[zEE] at h1
  have hge:posO l o≤i:=by
   rcases Nat.lt_or_ge i (posO l o) with h | h
   ·exact absurd (h1.2 h) (by simp)
   ·exact h
  rcases Nat.lt_or_ge (posO l o) i with h | h
  ·have hlt:posO l o<l.length:=by have:=(List.getElem?_eq_some_iff.1 hi).1;omega
   have hy:l[posO l o]?=some l[posO l o]:=List.getElem?_eq_getElem hlt
   have h2:=zIU (o:=o) hs _ _ hy
   have hp:=List.pairwise_iff_getElem.1 hs (posO l o) i hlt (List.getElem?_eq_some_iff.1 hi).1 h
   rw[(List.getElem?_eq_some_iff.1 hi).2] at hp
   have:=h2.1 hp
   omega
  ·have:i=posO l o:=by omega
   rw[←this];exact hi
 ·intro h;exact List.mem_of_getElem? h
end Go.Proofs.YtoknohandclcbaaGreat
namespace Go.Proofs.YtoknohandclcbaaGreat
open Go.RowKit
set_option maxRecDepth 8000
theorem zYY (n:Int):HFn Tryz.prog 203 [.v (.int .i64 n)] (.v (.bool false)):=by
 refine zB (fn:=Tryz.f203) 6 [2] (by kernel_rfl) rfl (by kernel_rfl) (HW.run 400 (by kernel_rfl) ?_)
 simp +decide only[go_sem,nT,nA,nS,nM,nB,reduceIte,reduceCtorEq]
theorem zQ6 (a b:Int):HFn Tryz.prog 207 [.v (.int .i64 a),.v (.int .i64 b)] (.v (.int .i64 (cmpI a b))):=by
 refine zB (fn:=Tryz.f207) 20 [4] (by kernel_rfl) rfl (by kernel_rfl) (HW.run 400 (by kernel_rfl) ?_)
 simp +decide only[go_sem,nT,nA,nS,nM,nB,reduceIte,reduceCtorEq]
 refine zD (zYY a) rfl rfl ?_
 simp +decide only[go_sem,nT,nA,nS,nM,nB,reduceIte,reduceCtorEq]
 refine zD (zYY b) rfl rfl ?_
 unfold cmpI
 rcases tfE' (a<b) with ⟨d,c⟩ | ⟨d,c⟩
 ·simp +decide only[go_sem,nT,nA,nS,nM,nB,reduceIte,reduceCtorEq,c]
 ·rcases tfE' (b<a) with ⟨d1,c1⟩ | ⟨d1,c1⟩
  ·simp +decide only[go_sem,nT,nA,nS,nM,nB,reduceIte,reduceCtorEq,c,c1]
  ·simp +decide only[go_sem,nT,nA,nS,nM,nB,reduceIte,reduceCtorEq,c,c1]
set_option maxHeartbeats 4000000 in
theorem zDr (a b:List Int) (ha:a.length≤1000000) (hb:b.length≤1000000):HFn Tryz.prog 194 [.sl (ints a),.sl (ints b)] (.v (.int .i64 (cmpL a b))):=by
 refine zB (fn:=Tryz.f194) 36 [4] (by kernel_rfl) rfl (by kernel_rfl) (HW.run 400 (by kernel_rfl) ?_)
 simp +decide only[go_sem,nT,nA,nS,nM,nB,reduceIte,reduceCtorEq]
 refine HW.loopG (fun k T H=>∃i:Nat,k=a.length-i∧i≤a.length∧i≤b.length∧cmpL a b=cmpL (a.drop i) (b.drop i)∧T 0=.sl (ints a)∧T 1=.sl (ints b)∧T 9=.sl (ints a)∧T 10=.v (.int .i64 a.length)∧T 11=.v (.int .i64 i)∧H=[]) a.length ⟨_,_,Ghost.refl,0,rfl,by omega,by omega,rfl,rfl,rfl,rfl,rfl,rfl,rfl⟩ ?_
 rintro k T H ⟨i,rfl,hia,hib,hI,h0,h1,h9,h10,h11,rfl⟩
 refine HW.run 200 (by kernel_rfl) ?_
 by_cases hlt:i<a.length
 ·have hlt' : ((i:Int)<(a.length:Int))=True:=by simp only[eq_iff_iff,iff_true];omega
  have hx:a[i]?=some a[i]:=List.getElem?_eq_getElem hlt
  have hdr:a.drop i=a[i]::a.drop (i+1):=List.drop_eq_getElem_cons hlt
  generalize a[i]=x at hx hdr
  by_cases hlb:i<b.length
  ·have hlb' : ((b.length:Int)≤(i:Int))=False:=by simp only[eq_iff_iff,iff_false];omega
   have hlb2:((i:Int)<(b.length:Int))=True:=by simp only[eq_iff_iff,iff_true];omega
   have hy:b[i]?=some b[i]:=List.getElem?_eq_getElem hlb
   have hdb:b.drop i=b[i]::b.drop (i+1):=List.drop_eq_getElem_cons hlb
   generalize b[i]=y at hy hdb
   rw[hdr,hdb,cmpL] at hI
   have hc:=zQ6 x y
   simp +decide only[go_sem,nT,nA,nS,nM,nB,reduceIte,reduceCtorEq,h0,h1,h9,h10,h11,hlt',hx,hlb',hlb2,hy]
   refine zD (hc) rfl rfl ?_
   by_cases hz:cmpI x y=0
   ·rw[if_neg (by simp[hz])] at hI
    simp +decide only[go_sem,nT,nA,nS,nM,nB,reduceIte,reduceCtorEq,h0,h1,h9,h10,h11,hz]
    refine ⟨_,_,Ghost.refl,a.length-(i+1),by omega,i+1,rfl,by omega,by omega,hI,?_,?_,?_,?_,?_,?_⟩
    all_goals first | (simp +decide only[go_sem,nB,reduceIte,h0,h1,h9,h10];done) | (simp +decide only[go_sem,nB,reduceIte];rw[w64 (by omega) (by omega)];rfl) | rfl
   ·rw[if_pos hz] at hI
    rw[hI]
    have hz' : (cmpI x y=0)=False:=eq_false hz
    simp +decide only[go_sem,nT,nA,nS,nM,nB,reduceIte,reduceCtorEq,h0,h1,h9,h10,h11,hz']
  ·have hlb' : ((b.length:Int)≤(i:Int))=True:=by simp only[eq_iff_iff,iff_true];omega
   rw[hdr,List.drop_of_length_le (by omega:b.length≤i),cmpL] at hI
   rw[hI]
   simp +decide only[go_sem,nT,nA,nS,nM,nB,reduceIte,reduceCtorEq,h0,h1,h9,h10,h11,hlt',hx,hlb']
 ·have hlt' : ((i:Int)<(a.length:Int))=False:=by simp only[eq_iff_iff,iff_false];omega
  rw[List.drop_of_length_le (by omega:a.length≤i)] at hI
  rw[hI]
  by_cases hlb:a.length<b.length
  ·have hlb' : ((a.length:Int)<(b.length:Int))=True:=by simp only[eq_iff_iff,iff_true];omega
   have:b.drop i≠[]:=by
    intro e
    have:=congrArg List.length e
    simp at this;omega
   have e:cmpL [] (b.drop i) = -1:=by
    cases hd:b.drop i with
    | nil=>exact absurd hd this
    | cons=>rfl
   rw[e]
   simp +decide only[go_sem,nT,nA,nS,nM,nB,reduceIte,reduceCtorEq,h0,h1,h9,h10,h11,hlt',hlb']
  ·have hlb' : ((a.length:Int)<(b.length:Int))=False:=by simp only[eq_iff_iff,iff_false];omega
   rw[List.drop_of_length_le (by omega:b.length≤i)]
   simp +decide only[go_sem,nT,nA,nS,nM,nB,reduceIte,reduceCtorEq,h0,h1,h9,h10,h11,hlt',hlb']
   rfl
def orF:List Int→Int
 | []=>0
 | x::l=>if x=0 then orF l else x
set_option maxHeartbeats 4000000 in
theorem yBB (l:List Int) (hl:l.length≤1000000):HFn Tryz.prog 193 [.sl (ints l)] (.v (.int .i64 (orF l))):=by
 refine zB (fn:=Tryz.f193) 18 [2] (by kernel_rfl) rfl (by kernel_rfl) (HW.run 400 (by kernel_rfl) ?_)
 simp +decide only[go_sem,nT,nA,nS,nM,nB,reduceIte,reduceCtorEq]
 refine HW.loopG (fun k T H=>∃i:Nat,k=l.length-i∧i≤l.length∧orF l=orF (l.drop i)∧T 3=.v (.int .i64 0)∧T 6=.sl (ints l)∧T 7=.v (.int .i64 l.length)∧T 8=.v (.int .i64 i)∧H=[]) l.length ⟨_,_,Ghost.refl,0,rfl,by omega,rfl,rfl,rfl,rfl,rfl,rfl⟩ ?_
 rintro k T H ⟨i,rfl,hil,hI,h3,h6,h7,h8,rfl⟩
 refine HW.run 200 (by kernel_rfl) ?_
 by_cases hlt:i<l.length
 ·have hlt' : ((i:Int)<(l.length:Int))=True:=by simp only[eq_iff_iff,iff_true];omega
  have hx:l[i]?=some l[i]:=List.getElem?_eq_getElem hlt
  have hdr:l.drop i=l[i]::l.drop (i+1):=List.drop_eq_getElem_cons hlt
  generalize l[i]=x at hx hdr
  rw[hdr,orF] at hI
  by_cases hz:x=0
  ·rw[if_pos hz] at hI
   simp +decide only[go_sem,nT,nA,nS,nM,nB,reduceIte,reduceCtorEq,h3,h6,h7,h8,hlt',hx,hz]
   refine ⟨_,_,Ghost.refl,l.length-(i+1),by omega,i+1,rfl,by omega,hI,?_,?_,?_,?_,?_⟩
   all_goals first | (simp +decide only[go_sem,nB,reduceIte,h3,h6,h7];done) | (simp +decide only[go_sem,nB,reduceIte];rw[w64 (by omega) (by omega)];rfl) | rfl
  ·rw[if_neg hz] at hI
   rw[hI]
   have hz' : (x=0)=False:=eq_false hz
   simp +decide only[go_sem,nT,nA,nS,nM,nB,reduceIte,reduceCtorEq,h3,h6,h7,h8,hlt',hx,hz']
 ·have hlt' : ((i:Int)<(l.length:Int))=False:=by simp only[eq_iff_iff,iff_false];omega
  rw[List.drop_of_length_le (by omega)] at hI
  rw[hI]
  simp +decide only[go_sem,nT,nA,nS,nM,nB,reduceIte,reduceCtorEq,h3,h6,h7,h8,hlt']
  rfl
structure SmallO (o:Ot):Prop where
 mem:o.mem.length≤1000000
 regs:o.regs.length≤1000000
theorem zZP {a b:Ot}:orF [cmpL a.mem b.mem,cmpL a.regs b.regs]=cmpO a b:=by
 unfold cmpO orF
 by_cases h:cmpL a.mem b.mem=0
 ·rw[if_pos h,if_neg (by simp[h])]
  unfold orF
  split
  ·rename_i h2;rw[h2];rfl
  ·rfl
 ·rw[if_neg h,if_pos h]
set_option maxHeartbeats 4000000 in
theorem zOB (a b:Ot) (ha:SmallO a) (hb:SmallO b):HFn Tryz.prog 162 [otH a,otH b] (.v (.int .i64 (cmpO a b))):=by
 have h1:=zDr a.mem b.mem ha.mem hb.mem
 have h2:=zDr a.regs b.regs ha.regs hb.regs
 have h3:=yBB [cmpL a.mem b.mem,cmpL a.regs b.regs] (by simp)
 rw[zZP] at h3
 generalize cmpL a.mem b.mem=x at h1 h3
 generalize cmpL a.regs b.regs=y at h2 h3
 generalize cmpO a b=z at h3
 refine zB (fn:=Tryz.f162) 21 [4] (by kernel_rfl) rfl (by kernel_rfl) (HW.run 400 (by kernel_rfl) ?_)
 simp +decide only[go_sem,nT,nA,nS,nM,nB,reduceIte,reduceCtorEq]
 refine HW.tree 1 (.light 0 (.light 1 (.light 2 (.light 3 (.light 4 (.light 5 (.light 7 (.light 8 (.light 9 (.light 10 (.light 11 (.light 12 (.heavy 6 [7,8,9,10,11,12] (.heavy 13 [] (.heavy 14 [] (.heavy 15 [] (.light 16 .leaf) .stop) .stop) .stop) .stop))))))))))))) follows (by kernel_rfl) (by kernel_rfl) ?_
 simp +decide only[go_sem,nT,nA,nS,nM,nB,reduceIte,reduceCtorEq]
 refine zD (h1) rfl rfl ?_
 simp +decide only[go_sem,nT,nA,nS,nM,nB,reduceIte,reduceCtorEq]
 refine zD (h2) rfl rfl ?_
 simp +decide only[go_sem,nT,nA,nS,nM,nB,reduceIte,reduceCtorEq]
 refine zO 3 h3 (by simp only[go_sem];rfl) rfl ?_
 simp +decide only[go_sem,nT,nA,nS,nM,nB,reduceIte,reduceCtorEq]
theorem zJt (a b:Ot) (ha:SmallO a) (hb:SmallO b):HFn Tryz.prog 135 [otH a,otH b] (.v (.int .i64 (cmpO a b))):=by
 refine zB (fn:=Tryz.f135) 10 [4] (by kernel_rfl) rfl (by kernel_rfl) (HW.run 400 (by kernel_rfl) ?_)
 simp +decide only[go_sem,nT,nA,nS,nM,nB,reduceIte,reduceCtorEq]
 refine zD (zOB a b ha hb) rfl rfl ?_
 simp +decide only[go_sem,nT,nA,nS,nM,nB,reduceIte,reduceCtorEq]
theorem z1S (a b:Ot):decide (cmpO a b<0)=zAv a b:=by
 rw[Bool.eq_iff_iff,decide_eq_true_iff,zOD]
theorem zSJ (a b:Ot) (ha:SmallO a) (hb:SmallO b):HFn Tryz.prog 132 [.ic 168 (otH a),otH b] (.v (.bool (zAv a b))):=by
 have he:=zOB a b ha hb
 rw[←z1S]
 generalize cmpO a b=z at he
 refine zB (fn:=Tryz.f132) 9 [4] (by kernel_rfl) rfl (by kernel_rfl) (HW.run 400 (by kernel_rfl) ?_)
 simp +decide only[go_sem,nT,nA,nS,nM,nB,reduceIte,reduceCtorEq]
 refine zD (he) rfl rfl ?_
 rcases tfE' (z<0) with ⟨d,c⟩ | ⟨d,c⟩
 ·simp +decide only[go_sem,nT,nA,nS,nM,nB,reduceIte,reduceCtorEq,c]
 ·simp +decide only[go_sem,nT,nA,nS,nM,nB,reduceIte,reduceCtorEq,c]
theorem zIV (a b:Ot) (ha:SmallO a) (hb:SmallO b):HFn Tryz.prog 103 [otH a,otH b] (.v (.bool (zAv a b))):=by
 refine zB (fn:=Tryz.f103) 11 [4] (by kernel_rfl) rfl (by kernel_rfl) (HW.run 400 (by kernel_rfl) ?_)
 simp +decide only[go_sem,nT,nA,nS,nM,nB,reduceIte,reduceCtorEq]
 refine zD (zSJ a b ha hb) rfl rfl ?_
 simp +decide only[go_sem,nT,nA,nS,nM,nB,reduceIte,reduceCtorEq]
theorem zJ4 {l:List Ot}:∀{i:Nat} {x y:Ot},l[i]?=some x→l[i+1]?=some y→setO (l.drop i)=(zAv x y && setO (l.drop (i+1))):=by
 intro i x y hx hy
 have h1:l.drop i=x::l.drop (i+1):=by
  obtain ⟨h,e⟩:=List.getElem?_eq_some_iff.1 hx
  rw[←e];exact List.drop_eq_getElem_cons h
 have h2:l.drop (i+1)=y::l.drop (i+2):=by
  obtain ⟨h,e⟩:=List.getElem?_eq_some_iff.1 hy
  rw[←e];exact List.drop_eq_getElem_cons h
 rw[h1,h2,setO]
set_option maxHeartbeats 4000000 in
theorem zSH (l:List Ot) (hl:l.length≤1000000) (ho:∀o∈l,SmallO o):HFn Tryz.prog 67 [.sl (ots l)] (.v (.bool (setO l))):=by
 refine zB (fn:=Tryz.f67) 21 [2] (by kernel_rfl) rfl (by kernel_rfl) (HW.run 400 (by kernel_rfl) ?_)
 simp +decide only[go_sem,nT,nA,nS,nM,nB,reduceIte,reduceCtorEq]
 refine HW.loopG (fun k T H=>∃i:Nat,k=l.length-i∧i≤l.length+1∧1≤i∧setO l=setO (l.drop (i-1))∧T 0=.sl (ots l)∧T 3=.v (.int .i64 i)∧H=[]) (l.length-1) ⟨_,_,Ghost.refl,1,rfl,by omega,by omega,rfl,rfl,rfl,rfl⟩ ?_
 rintro k T H ⟨i,rfl,hil,hi1,hI,h0,h3,rfl⟩
 refine HW.run 200 (by kernel_rfl) ?_
 by_cases hlt:i<l.length
 ·have hlt' : ((i:Int)<(l.length:Int))=True:=by simp only[eq_iff_iff,iff_true];omega
  have w1:IntKind.i64.wrap ((i:Int)-1)=((i-1:Nat):Int):=by rw[w64 (by omega) (by omega)];omega
  have hlt2:(((i-1:Nat):Int)<(l.length:Int))=True:=by simp only[eq_iff_iff,iff_true];omega
  have hx:l[i]?=some l[i]:=List.getElem?_eq_getElem hlt
  have hy:l[i-1]?=some (l[i-1]'(by omega)):=List.getElem?_eq_getElem (by omega)
  have ho1:=ho _ (List.getElem_mem hlt)
  have ho2:=ho _ (List.getElem_mem (by omega:i-1<l.length))
  generalize l[i]=x at hx ho1
  generalize l[i-1]'(by omega)=y at hy ho2
  have hs:=zJ4 hy (by rw[show i-1+1=i by omega];exact hx)
  rw[show i-1+1=i by omega] at hs
  rw[hs] at hI
  have hL:=zIV y x ho2 ho1
  simp +decide only[go_sem,nT,nA,nS,nM,nB,reduceIte,reduceCtorEq,h0,h3,hlt']
  refine HW.tree 1 (.light 0 (.light 1 (.light 2 (.light 3 (.light 4 (.light 5 (.light 6 (.light 7 (.light 8 (.heavy 9 [] (.light 10 .leaf) .stop)))))))))) follows (by kernel_rfl) (by kernel_rfl) ?_
  simp +decide only[go_sem,nT,nA,nS,nM,nB,reduceIte,reduceCtorEq,h0,h3,hlt',w1,hlt2,hx,hy]
  refine zD (hL) rfl rfl ?_
  cases hb:zAv y x with
  | true =>
   rw[hb,Bool.true_and] at hI
   simp +decide only[go_sem,nT,nA,nS,nM,nB,reduceIte,reduceCtorEq,h0,h3]
   refine ⟨_,_,Ghost.refl,l.length-(i+1),by omega,i+1,rfl,by omega,by omega,by rw[hI,Nat.add_sub_cancel],?_,?_,rfl⟩
   all_goals first | (simp +decide only[go_sem,nB,reduceIte,h0];done) | (simp +decide only[go_sem,nB,reduceIte];rw[w64 (by omega) (by omega)];rfl)
  | false =>
   rw[hb,Bool.false_and] at hI
   rw[hI]
   simp +decide only[go_sem,nT,nA,nS,nM,nB,reduceIte,reduceCtorEq,h0,h3]
 ·have hlt' : ((i:Int)<(l.length:Int))=False:=by simp only[eq_iff_iff,iff_false];omega
  have:setO l=true:=by
   rw[hI]
   have hlen:(l.drop (i-1)).length≤1:=by simp;omega
   match hd:l.drop (i-1),hlen with
   | [],_=>rfl
   | [_],_=>rfl
   | _::_::_,h=>simp at h
  rw[this]
  simp +decide only[go_sem,nT,nA,nS,nM,nB,reduceIte,reduceCtorEq,h0,h3,hlt']
end Go.Proofs.YtoknohandclcbaaGreat
namespace Go.Proofs.YtoknohandclcbaaGreat
open Go.RowKit
set_option maxRecDepth 8000
theorem zJc (p:Prg) (s:Sta) (k:Pck) (hp:RightP p) (hs:RightS p s) (hb:∀t∈s.ths,t.buf.length≤100000):HFn Tryz.prog 195 [staH s,pckH k,zGE p] (.tu [staH (zAc p s k false).1,.v (.bool (zAc p s k false).2)]):=by
 have hst:HFn Tryz.prog 158 [prgH p,staH s,.v (.int .i64 k.th)] (.tu [staH (zD1 p s k.th).1,.v (.bool (zD1 p s k.th).2)]):=HFn.shut (zYK p s k.th hp hs hb) (by simp only[fzo,fzoL,zAU,zCF])
 have e:zAc p s k false=if k.dr=true then (s,false) else zD1 p s k.th:=by unfold zAc;rw[if_neg (by simp)]
 rw[e]
 generalize zD1 p s k.th=z at hst
 obtain ⟨s',ok⟩:=z
 refine zU (fn:=Tryz.f195) 17 [.cell 5 79,.tmp 6] (by kernel_rfl) rfl rfl (by kernel_rfl) (HW.run 400 (by kernel_rfl) ?_)
 cases hd:k.dr with
 | true =>
  simp +decide only[go_sem,nT,nA,nS,nM,nB,reduceIte,reduceCtorEq,hd]
 | false =>
  simp +decide only[go_sem,nT,nA,nS,nM,nB,reduceIte,reduceCtorEq,hd]
  refine zD (hst) rfl rfl ?_
  simp +decide only[go_sem,nT,nA,nS,nM,nB,reduceIte,reduceCtorEq,hd]
theorem zV9 (p:Prg) (s:Sta) (k:Pck) (hp:RightP p) (hs:RightS p s) (hb:∀t∈s.ths,t.buf.length≤100000):HFn Tryz.prog 196 [staH s,pckH k,zGE p] (.tu [staH (zAc p s k true).1,.v (.bool (zAc p s k true).2)]):=by
 have e:zAc p s k true=zAA p s k:=by unfold zAc;rw[if_pos rfl]
 rw[e]
 exact zOw p s k hp hs hb
set_option maxHeartbeats 4000000 in
theorem zYm (p:Prg) (l:List Pck) (weak:Bool) (f:Nat) (hp:RightP p) (hl:l.length≤100000) (hlt:f<4294967296)
  (hF:∀s k,RightS p s→(∀t∈s.ths,t.buf.length≤100000)→HFn Tryz.prog f [staH s,pckH k,zGE p] (.tu [staH (zAc p s k weak).1,.v (.bool (zAc p s k weak).2)])) :
  HFn Tryz.prog 165 [prgH p,.sl (pcks l),.fn f [zGE p],.fn 166 []]
  (.tu [staH (runF (fun s k=>zAc p s k weak) (zK p) l).1,.v (.int .i64 ((runF (fun s k=>zAc p s k weak) (zK p) l).2.1:Nat)),.v (.bool (runF (fun s k=>zAc p s k weak) (zK p) l).2.2)]):=by
 refine zCu (fn:=Tryz.f165) 3 45 [.cell 8 79,.tmp 9,.tmp 10] (by kernel_rfl) rfl rfl (by kernel_rfl) (HW.run 400 (by kernel_rfl) ?_)
 simp +decide only[go_sem,nT,nA,nS,nM,nB,reduceIte,reduceCtorEq]
 refine zD (zRY p (by have:=hp.thr;omega) (by have:=hp.init;omega)) rfl rfl ?_
 generalize hR:runF (fun s k=>zAc p s k weak) (zK p) l=R
 simp +decide only[go_sem,nT,nA,nS,nM,nB,reduceIte,reduceCtorEq]
 refine HW.loopG (fun k T H=>∃(i:Nat) (s:Sta),k=l.length-i∧i≤l.length∧RightS p s∧Few s i∧R=((runF (fun s k=>zAc p s k weak) s (l.drop i)).1,i+(runF (fun s k=>zAc p s k weak) s (l.drop i)).2.1,(runF (fun s k=>zAc p s k weak) s (l.drop i)).2.2)∧
  T 1=.sl (pcks l)∧T 2=.fn f [zGE p]∧T 3=.fn 166 []∧T 8=.pt 1 1 0 0∧T 11=.pt 2 1 0 0∧T 18=.sl (pcks l)∧T 19=.v (.int .i64 l.length)∧T 20=.v (.int .i64 i)∧
  H=[some ⟨25,2,[[.sl (ints p.init),.sl (thrs p.thr)]]⟩,some ⟨79,2,[[.v (.slice none 0 0),.v (.slice none 0 0)]]⟩,some ⟨79,2,[[.sl (ints s.mem),.sl (thds s.ths)]]⟩]) l.length
  ⟨_,_,Ghost.refl,0,zK p,rfl,by omega,zBl,zUZ,?_,rfl,rfl,rfl,rfl,rfl,rfl,rfl,rfl,?_⟩ ?_
 ·rw[List.drop_zero,hR];simp
 ·rfl
 rintro k T H ⟨i,s,rfl,hi,hs,hf,hRi,h1,h2,h3,h8,h11,h18,h19,h20,rfl⟩
 refine HW.run 200 (by kernel_rfl) ?_
 by_cases hlt:i<l.length
 ·have hlt' : ((i:Int)<(l.length:Int))=True:=by rw[z8];simp[hlt]
  have hx:l[i]?=some l[i]:=List.getElem?_eq_getElem hlt
  have hdr:l.drop i=l[i]::l.drop (i+1):=List.drop_eq_getElem_cons hlt
  generalize l[i]=x at hx hdr
  rw[hdr] at hRi
  have hr':=zFe (k:=x) (weak:=weak) hp hs
  have hf':=zRN (p:=p) (k:=x) (weak:=weak) hf
  have hst:=hF s x hs (fun t ht=>by have:=hf t ht;omega)
  have hst' : HFn Tryz.prog (fnF f) (fnA f .any [staH s,pckH x] [zGE p]) (.tu [staH (zAc p s x weak).1,.v (.bool (zAc p s x weak).2)]):=by
   rw[zGY (by assumption),zFJ (by assumption)];exact hst
  have hnm:nmL 0 (fnA f .any [staH s,pckH x] [zGE p])=true:=by
   rw[zFJ (by assumption)];simp only[List.cons_append,List.nil_append,nmL,nm,zEI,zNY,zNX,Bool.and_self,nmR]
  simp only[runF] at hRi
  simp +decide only[go_sem,nT,nA,nS,nM,nB,reduceIte,reduceCtorEq,h1,h2,h3,h8,h11,h18,h19,h20,hlt',hx]
  refine zD hst' rfl hnm ?_
  generalize zAc p s x weak=z at hRi hr' hf'⊢
  obtain ⟨s',ok⟩:=z
  simp only at hRi hr' hf'
  cases ok with
  | true =>
   rw[if_pos rfl] at hRi
   simp +decide only[go_sem,nT,nA,nS,nM,nB,reduceIte,reduceCtorEq,h1,h2,h3,h8,h11,h18,h19,h20,hlt',hx]
   refine zD (zYl s x) rfl rfl ?_
   simp +decide only[go_sem,nT,nA,nS,nM,nB,reduceIte,reduceCtorEq,h1,h2,h3,h8,h11,h18,h19,h20,hlt',hx]
   refine ⟨_,_,Ghost.trunc [1,2,3,8,11,18,19,20] 3 (by omega) ?_ ?_,l.length-(i+1),by omega,i+1,s',rfl,by omega,hr',hf',?_,?_,?_,?_,?_,?_,?_,?_,?_,?_⟩
   ·simp +decide only[go_sem,nB,reduceIte,h1,h2,h3,h8,h11,h18,h19]
   ·simp +decide only[go_sem,nB,reduceIte]
   ·rw[hRi];simp only[Prod.mk.injEq,true_and,and_true];omega
   iterate 7 simp +decide only[go_sem,nB,reduceIte,h1,h2,h3,h8,h11,h18,h19]
   ·simp +decide only[go_sem,nB,reduceIte];rw[w64 (by omega) (by omega)];rfl
   ·simp +decide only[go_sem,nT,nA,nS,nM,nB,reduceIte,reduceCtorEq]
  | false =>
   rw[if_neg (by simp)] at hRi
   subst hRi
   simp +decide only[go_sem,nT,nA,nS,nM,nB,reduceIte,reduceCtorEq,h1,h2,h3,h8,h11,h18,h19,h20,hlt',hx]
 ·have hlt' : ((i:Int)<(l.length:Int))=False:=by rw[z8];simp[hlt]
  have e:i=l.length:=by omega
  subst e
  rw[List.drop_length] at hRi
  simp only[runF,Nat.add_zero] at hRi
  subst hRi
  simp +decide only[go_sem,nT,nA,nS,nM,nB,reduceIte,reduceCtorEq,h1,h2,h3,h8,h11,h18,h19,h20,hlt']
theorem zLn (p:Prg):HFn Tryz.prog 163 [prgH p] (.fn 195 [zGE p]):=by
 refine HFn.shut (R:=.fn 195 [.bx 25 2 [.sl (ints p.init),.sl (thrs p.thr)]]) ?_ (by simp only[fzo,fzoL,fzoR,zAU,zFb])
 refine zB (fn:=Tryz.f163) 4 [2] (by kernel_rfl) rfl (by kernel_rfl) (HW.run 400 (by kernel_rfl) ?_)
 simp +decide only[go_sem,nT,nA,nS,nM,nB,reduceIte,reduceCtorEq]
theorem zR2 (p:Prg):HFn Tryz.prog 164 [prgH p] (.fn 196 [zGE p]):=by
 refine HFn.shut (R:=.fn 196 [.bx 25 2 [.sl (ints p.init),.sl (thrs p.thr)]]) ?_ (by simp only[fzo,fzoL,fzoR,zAU,zFb])
 refine zB (fn:=Tryz.f164) 4 [2] (by kernel_rfl) rfl (by kernel_rfl) (HW.run 400 (by kernel_rfl) ?_)
 simp +decide only[go_sem,nT,nA,nS,nM,nB,reduceIte,reduceCtorEq]
theorem z1r (p:Prg) (l:List Pck) (weak:Bool) (hp:RightP p) (hl:l.length≤100000) :
  HFn Tryz.prog 136 [prgH p,.sl (pcks l),.v (.bool weak)]
  (.tu [staH (runF (fun s k=>zAc p s k weak) (zK p) l).1,.v (.int .i64 ((runF (fun s k=>zAc p s k weak) (zK p) l).2.1:Nat)),.v (.bool (runF (fun s k=>zAc p s k weak) (zK p) l).2.2)]):=by
 have hg:HFn Tryz.prog 165 [prgH p,.sl (pcks l),.fn (if weak=true then 196 else 195) [zGE p],.fn 166 []] _ :=
  zYm p l weak (if weak=true then 196 else 195) hp hl (by split <;> decide) (fun s k hs hb=>by
   cases weak with
   | true=>exact zV9 p s k hp hs hb
   | false=>exact zJc p s k hp hs hb)
 generalize runF (fun s k=>zAc p s k weak) (zK p) l=R at hg
 refine zCu (fn:=Tryz.f136) 3 22 [.cell 6 79,.tmp 7,.tmp 8] (by kernel_rfl) rfl rfl (by kernel_rfl) (HW.run 400 (by kernel_rfl) ?_)
 simp +decide only[go_sem,nT,nA,nS,nM,nB,reduceIte,reduceCtorEq]
 refine zD (zLn p) rfl rfl ?_
 cases weak with
 | true =>
  rw[if_pos rfl] at hg
  simp +decide only[go_sem,nT,nA,nS,nM,nB,reduceIte,reduceCtorEq]
  refine zD (zR2 p) rfl rfl ?_
  simp +decide only[go_sem,nT,nA,nS,nM,nB,reduceIte,reduceCtorEq]
  refine zD (hg) rfl rfl ?_
  simp +decide only[go_sem,nT,nA,nS,nM,nB,reduceIte,reduceCtorEq]
 | false =>
  rw[if_neg (by simp)] at hg
  simp +decide only[go_sem,nT,nA,nS,nM,nB,reduceIte,reduceCtorEq]
  refine zD (hg) rfl rfl ?_
  simp +decide only[go_sem,nT,nA,nS,nM,nB,reduceIte,reduceCtorEq]
theorem zWQ {p:Prg} {s:Sta} (hs:RightS p s) {i:Nat} {y:Thd} {l:List Stp} (hx:s.ths[i]?=some y) (hy:p.thr[i]?=some l):(y.pc<l.length)=(¬y.pc=l.length):=by
 have:=(hs.t i l y hy hx).pc
 simp only[eq_iff_iff];omega
set_option maxHeartbeats 4000000 in
theorem zYk (p:Prg) (s:Sta) (hp:RightP p) (hs:RightS p s):HFn Tryz.prog 137 [prgH p,staH s] (.v (.bool (zBp p s))):=by
 refine zB (fn:=Tryz.f137) 31 [4] (by kernel_rfl) rfl (by kernel_rfl) (HW.run 400 (by kernel_rfl) ?_)
 simp +decide only[go_sem,nT,nA,nS,nM,nB,reduceIte,reduceCtorEq]
 have htl:s.ths.length≤1000:=by have:=hs.ths;have:=hp.thr;omega
 have hlen:=hs.ths
 refine HW.loopG (fun k T H=>∃i:Nat,k=s.ths.length-i∧i≤s.ths.length∧(∀j,j<i→overT p s j=true)∧T 2=.pt 0 1 0 0∧T 3=.pt 1 1 0 0∧T 8=.sl (thds s.ths)∧T 9=.v (.int .i64 s.ths.length)∧T 10=.v (.int .i64 i)∧H=[some ⟨25,2,[[.sl (ints p.init),.sl (thrs p.thr)]]⟩,some ⟨79,2,[[.sl (ints s.mem),.sl (thds s.ths)]]⟩]) s.ths.length ⟨_,_,Ghost.refl,0,rfl,by omega,by simp,rfl,rfl,rfl,rfl,rfl,rfl⟩ ?_
 rintro k T H ⟨i,rfl,hi,hno,h2,h3,h8,h9,h10,rfl⟩
 refine HW.run 200 (by kernel_rfl) ?_
 by_cases hlt:i<s.ths.length
 ·have hlt' : ((i:Int)<(s.ths.length:Int))=True:=by rw[z8];simp[hlt]
  have hlt2:((i:Int)<(p.thr.length:Int))=True:=by rw[z8,←hlen];simp[hlt]
  have hx:s.ths[i]?=some s.ths[i]:=List.getElem?_eq_getElem hlt
  have hy:p.thr[i]?=some (p.thr[i]'(by omega)):=List.getElem?_eq_getElem (by omega)
  generalize s.ths[i]=y at hx
  generalize p.thr[i]'(by omega)=l at hy
  have ho:overT p s i=(decide (y.pc=l.length) && y.buf.isEmpty):=by unfold overT;rw[hx,hy]
  have hpc:=zWQ hs hx hy
  simp +decide only[go_sem,nT,nA,nS,nM,nB,reduceIte,reduceCtorEq,h2,h3,h8,h9,h10,hlt',hx]
  refine HW.tree 1 (.light 0 (.light 1 (.light 2 (.light 3 (.light 4 (.light 5 (.light 6 (.light 7 (.light 8 (.light 9 (.light 10 (.light 11 (.light 12 (.light 13 (.light 14 .leaf))))))))))))))) follows (by kernel_rfl) (by kernel_rfl) ?_
  by_cases c1:y.pc=l.length
  ·have c1' : (y.pc<l.length)=False:=by rw[hpc];simp[c1]
   by_cases c2:y.buf=[]
   ·have b0:((0:Int)<(y.buf.length:Int))=False:=by rw[c2];simp
    simp +decide only[go_sem,nT,nA,nS,nM,nB,reduceIte,reduceCtorEq,h2,h3,h8,h9,h10,hlt',hlt2,hx,hy,c1',b0]
    refine ⟨_,_,Ghost.trunc [2,3,8,9,10] 2 (by omega) ?_ ?_,s.ths.length-(i+1),by omega,i+1,rfl,by omega,?_,?_,?_,?_,?_,?_,?_⟩
    ·simp +decide only[go_sem,nB,reduceIte,h2,h3,h8,h9]
    ·simp +decide only[go_sem,nB,reduceIte]
    ·intro j hj
     rcases Nat.lt_or_ge j i with h | h
     ·exact hno j h
     ·obtain rfl:j=i:=by omega
      rw[ho,c2];simp[c1]
    all_goals first | (simp +decide only[go_sem,nB,reduceIte,h2,h3,h8,h9];done) | (simp +decide only[go_sem,nB,reduceIte];rw[w64 (by omega) (by omega)];rfl) | (simp +decide only[go_sem,nT,nA,nS,nM,nB,reduceIte,reduceCtorEq];done)
   ·have b0:((0:Int)<(y.buf.length:Int))=True:=by
     have:=List.length_pos_iff.mpr c2
     simp only[eq_iff_iff,iff_true];omega
    simp +decide only[go_sem,nT,nA,nS,nM,nB,reduceIte,reduceCtorEq,h2,h3,h8,h9,h10,hlt',hlt2,hx,hy,c1',b0]
    have:zBp p s=false:=by
     unfold zBp
     rw[List.all_eq_false]
     exact ⟨i,by simpa using hlt,by rw[ho];simp[c2]⟩
    exact vb this.symm
  ·have c1' : (y.pc<l.length)=True:=by rw[hpc];simp[c1]
   simp +decide only[go_sem,nT,nA,nS,nM,nB,reduceIte,reduceCtorEq,h2,h3,h8,h9,h10,hlt',hlt2,hx,hy,c1']
   have:zBp p s=false:=by
    unfold zBp
    rw[List.all_eq_false]
    exact ⟨i,by simpa using hlt,by rw[ho];simp[c1]⟩
   exact vb this.symm
 ·have hlt' : ((i:Int)<(s.ths.length:Int))=False:=by rw[z8];simp[hlt]
  have:zBp p s=true:=by
   unfold zBp
   rw[List.all_eq_true]
   intro j hj
   exact hno j (by simp at hj;omega)
  simp +decide only[go_sem,nT,nA,nS,nM,nB,reduceIte,reduceCtorEq,h2,h3,h8,h9,h10,hlt']
  exact vb this.symm
set_option maxHeartbeats 4000000 in
theorem z1s (s:Sta) (hm:s.mem.length≤100000) (ht:s.ths.length≤1000) (hr:∀t∈s.ths,t.regs.length≤1000):HFn Tryz.prog 138 [staH s] (.ag [.ow 3 1 (ints s.mem),.ow 3 1 (ints (zHA s))]):=by
 refine zU (fn:=Tryz.f138) 25 [.cell 2 44] (by kernel_rfl) rfl rfl (by kernel_rfl) (HW.weaken (Q':=fun e=>GQ _ _ (endC _ _ _ _ e)) (HW.run 400 (by kernel_rfl) ?_) (fun _ _ _ h=>h))
 simp +decide only[go_sem,nT,nA,nS,nM,nB,reduceIte,reduceCtorEq]
 refine zD (zAh s.mem (by omega)) rfl rfl ?_
 simp +decide only[go_sem,nT,nA,nS,nM,nB,reduceIte,reduceCtorEq]
 repeat (with_reducible refine And.intro ?_ ?_;·(with_reducible and_intros) <;> omega)
 have hfl:∀i,((s.ths.take i).flatMap (·.regs)).length≤1000*i:=by
  intro i
  induction i with
  | zero=>simp
  | succ i ih =>
   rw[List.take_add_one,List.flatMap_append,List.length_append]
   cases hx:s.ths[i]? with
   | none=>simp only[Option.toList_none,List.flatMap_nil,List.length_nil];omega
   | some x=>have:=hr x (List.mem_of_getElem? hx);simp only[Option.toList_some,List.flatMap_cons,List.flatMap_nil,List.append_nil];omega
 refine HW.loopG (fun k T H=>∃i:Nat,k=s.ths.length-i∧i≤s.ths.length∧T 2=.pt 1 1 0 0∧T 3=.pt 3 1 0 0∧T 11=.sl (thds s.ths)∧T 12=.v (.int .i64 s.ths.length)∧T 13=.v (.int .i64 i)∧
  H=[some ⟨79,2,[[.sl (ints s.mem),.sl (thds s.ths)]]⟩,some ⟨44,2,[[.v (.slice none 0 0),.v (.slice none 0 0)]]⟩,some ⟨3,1,ints s.mem⟩,some ⟨44,2,[[.hd 2 0 s.mem.length,.hd 4 0 ((s.ths.take i).flatMap (·.regs)).length]]⟩,some ⟨3,1,ints ((s.ths.take i).flatMap (·.regs))⟩]) s.ths.length
  ⟨_,_,(Ghost.cell 3 0 1 (.ow 3 1 []) rfl rfl rfl rfl (Conv.nilOw _ _) (by simp)).trans (Ghost.open 3 0 1),0,rfl,by omega,rfl,rfl,rfl,?_,rfl,?_⟩ ?_
 ·simp +decide only[go_sem,nT,nA,nS,nM,nB,reduceIte,reduceCtorEq]
 ·simp +decide only[go_sem,nT,nA,nS,nM,nB,reduceIte,reduceCtorEq]
  rfl
 rintro k T H ⟨i,rfl,hi,h2,h3,h11,h12,h13,rfl⟩
 refine HW.run 200 (by kernel_rfl) ?_
 have hfi:=hfl i
 by_cases hlt:i<s.ths.length
 ·have hlt' : ((i:Int)<(s.ths.length:Int))=True:=by rw[z8];simp[hlt]
  have hx:s.ths[i]?=some s.ths[i]:=List.getElem?_eq_getElem hlt
  have hxr:=hr _ (List.getElem_mem hlt)
  have htk:(s.ths.take (i+1)).flatMap (·.regs)=(s.ths.take i).flatMap (·.regs)++(s.ths[i]).regs:=by rw[List.take_add_one,hx,List.flatMap_append];simp
  generalize s.ths[i]=x at hx hxr htk
  generalize (s.ths.take i).flatMap (·.regs)=o at hfi htk⊢
  simp +decide only[go_sem,nT,nA,nS,nM,nB,reduceIte,reduceCtorEq,h2,h3,h11,h12,h13,hlt',hx]
  repeat (with_reducible refine And.intro ?_ ?_;·(with_reducible and_intros) <;> omega)
  refine ⟨_,_,Ghost.trunc [2,3,11,12,13] 5 (by omega) ?_ ?_,s.ths.length-(i+1),by omega,i+1,rfl,by omega,?_,?_,?_,?_,?_,?_⟩
  all_goals first | (simp +decide only[go_sem,nB,reduceIte,h2,h3,h11,h12];done) | (simp +decide only[go_sem,nB,reduceIte];rw[w64 (by omega) (by omega)];rfl) | (simp +decide only[go_sem,nT,nA,nS,nM,nB,reduceIte,reduceCtorEq,htk,List.length_append];done)
 ·have hlt' : ((i:Int)<(s.ths.length:Int))=False:=by rw[z8];simp[hlt]
  have e:s.ths.take i=s.ths:=List.take_of_length_le (by omega)
  simp +decide only[go_sem,nT,nA,nS,nM,nB,reduceIte,reduceCtorEq,h2,h3,h11,h12,h13,hlt',e]
  refine GQ.done ?_
  simp +decide only[go_sem,nT,nA,nS,nM,nB,reduceIte,reduceCtorEq,h2]
  try rfl
def z3q (p:Prg) (l:List Pck) (weak:Bool):Option Ot:=if ((runF (fun s k=>zAc p s k weak) (zK p) l).2.2 && zBp p (runF (fun s k=>zAc p s k weak) (zK p) l).1)=true then some ⟨(runF (fun s k=>zAc p s k weak) (zK p) l).1.mem,zHA (runF (fun s k=>zAc p s k weak) (zK p) l).1⟩ else none
theorem zE9 {p:Prg} {weak:Bool} (hp:RightP p):∀(l:List Pck) (s:Sta),RightS p s→RightS p (runF (fun s k=>zAc p s k weak) s l).1
 | [],s,hs=>hs
 | k::l,s,hs=>by
  unfold runF
  split
  ·exact zE9 hp l _ (zFe hp hs)
  ·exact hs
theorem zH3 {p:Prg} {s:Sta} (hs:RightS p s):∀t∈s.ths,t.regs.length≤1000:=fun t ht=>by
 obtain ⟨i,hi⟩:=List.getElem?_of_mem ht
 have hil:=(List.getElem?_eq_some_iff.1 hi).1
 have hl:=hs.ths
 have:=(hs.t i _ t (List.getElem?_eq_getElem (by omega)) hi).regs
 omega
def endR:Option Ot→HV
 | none=>.tu [.ag [.v (.slice none 0 0),.v (.slice none 0 0)],.v (.bool false)]
 | some o=>.tu [otH o,.v (.bool true)]
theorem zYn (p:Prg) (l:List Pck) (weak:Bool) (hp:RightP p) (hl:l.length≤100000) :
  HFn Tryz.prog 108 [prgH p,.sl (pcks l),.v (.bool weak)] (endR (z3q p l weak)):=by
 have hR:=z1r p l weak hp hl
 have hrs:=zE9 (weak:=weak) hp l (zK p) zBl
 unfold z3q
 generalize runF (fun s k=>zAc p s k weak) (zK p) l=R at hR hrs
 obtain ⟨s,n,ok⟩:=R
 simp only at hrs hR
 have hO:=zYk p s hp hrs
 have hE:HFn Tryz.prog 138 [staH s] (otH ⟨s.mem,zHA s⟩):=HFn.shut (z1s s (by have:=hrs.mem;have:=hp.init;omega) (by have:=hrs.ths;have:=hp.thr;omega) (zH3 hrs)) (by simp only[fzo,fzoL,zAU])
 generalize zBp p s=ov at hO
 have hne:HV.tu [.ag [.v (.slice none 0 0),.v (.slice none 0 0)],.v (.bool false)]=endR none:=rfl
 refine zCu (fn:=Tryz.f108) 3 30 [.cell 6 44,.tmp 7] (by kernel_rfl) rfl rfl (by kernel_rfl) (HW.run 400 (by kernel_rfl) ?_)
 simp +decide only[go_sem,nT,nA,nS,nM,nB,reduceIte,reduceCtorEq]
 refine zD (hR) rfl rfl ?_
 cases ok with
 | false =>
  rw[Bool.false_and,if_neg (by simp)]
  simp +decide only[go_sem,nT,nA,nS,nM,nB,reduceIte,reduceCtorEq]
  rfl
 | true =>
  simp +decide only[go_sem,nT,nA,nS,nM,nB,reduceIte,reduceCtorEq]
  refine zD (hO) rfl rfl ?_
  cases ov with
  | false =>
   simp +decide only[go_sem,nT,nA,nS,nM,nB,reduceIte,reduceCtorEq]
   rfl
  | true =>
   simp +decide only[go_sem,nT,nA,nS,nM,nB,reduceIte,reduceCtorEq]
   refine zD (hE) rfl rfl ?_
   simp +decide only[go_sem,nT,nA,nS,nM,nB,reduceIte,reduceCtorEq]
   rfl
end Go.Proofs.YtoknohandclcbaaGreat
