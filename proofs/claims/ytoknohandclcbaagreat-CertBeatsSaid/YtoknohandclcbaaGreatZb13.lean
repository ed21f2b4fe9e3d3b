/- Parts of the proof: Sl, Sm, Sn, So, HiDk, Gr, Ga, Gf, Gb, Gm, Gt, Ic, Gn, Gc. -/
import Derived.Test.YtoknohandclcbaaGreatZb12
import Derived.Test.YtoknohandclcbaaGreatZb10
import Derived.Test.YtoknohandclcbaaGreatZb11
import Derived.Test.YtoknohandclcbaaGreatZb06
import Derived.Test.YtoknohandclcbaaGreatZb08
open Nat renaming reduceAdd → nA, reduceSub → nS, reduceMul → nM, reduceBEq → nB
open Int renaming reduceToNat → nT
set_option linter.unusedSectionVars false
set_option linter.unusedVariables false
set_option linter.unusedSimpArgs false
namespace Go.Proofs.YtoknohandclcbaaGreat
open Go.RowKit
set_option maxRecDepth 8000
def zAo (p:Prg):Sta→List Int→List Pck→Option (List Int)
 | _,out,[]=>some out
 | s,out,k::r=>if (zQ p s k).2=true then zAo p (zQ p s k).1 (if k.dr=false∧(thAt s k.th).buf≠[] then putB out (numS p k.th (thAt s k.th).pc) else out) r else none
theorem zKR (n:Int):∀(l:List Int) (st:List Int×Bool),(l.foldl (putS n) st).1.length+(!(l.foldl (putS n) st).2).toNat≤st.1.length+l.length+(!st.2).toNat
 | [],st=>Nat.le_refl _
 | x::l,st=>by
  have ih:=zKR n l (putS n st x)
  have h1:(putS n st x).1.length+(!(putS n st x).2).toNat≤st.1.length+1+(!st.2).toNat:=by
   obtain ⟨a,b⟩:=st
   unfold putS
   cases b with
   | true=>simp
   | false =>
    by_cases c:n≤x
    ·by_cases c2:n=x <;> simp[c,c2]
    ·simp[c]
  rw[List.foldl_cons,List.length_cons];omega
theorem zWb (l:List Int) (n:Int):(putB l n).length≤l.length+1:=by
 have:=zKR n l ([],false)
 simp only[List.length_nil,Bool.not_false,Bool.toNat_true] at this
 unfold putB
 cases h:(l.foldl (putS n) ([],false)).2 with
 | true=>rw[if_pos rfl];omega
 | false =>
  rw[h] at this
  simp only[Bool.not_false,Bool.toNat_true] at this
  rw[if_neg (by simp)]
  simp;omega
end Go.Proofs.YtoknohandclcbaaGreat
namespace Go.Proofs.YtoknohandclcbaaGreat
open Go.RowKit
set_option maxRecDepth 8000
def zAU (p:Prg) (g:List Int):Sta→List Pck→List Pck→Option (List Pck)
 | _,out,[]=>some out
 | s,out,k::r=>if (zQ p s k).2=true then
   (if k.dr=false∧hasB g (numS p k.th (thAt s k.th).pc)=true then (if (thAt s k.th).buf≠[] then none else zAU p g (zQ p s k).1 (out++[⟨k.th,false⟩]++[k]) r) else zAU p g (zQ p s k).1 (out++[k]) r)
  else none
theorem Conv.nilTuOw (e:TypeId) (sz:Nat) (b:HV):Conv (.tu [.v (.slice none 0 0),b]) (.tu [.ow e sz [],b]):=fun Z G w y h=>by
 simp only[RV,RL] at h⊢
 obtain ⟨ys,rfl,y1,ys',f1,f2,e1,e2,⟨rfl,rfl⟩,h2⟩:=h
 exact ⟨_,rfl,_,_,[],f2,e1,by simpa using e2,.inl ⟨trivial,rfl,rfl⟩,h2⟩
end Go.Proofs.YtoknohandclcbaaGreat
namespace Go.Proofs.YtoknohandclcbaaGreat
open Go.RowKit
set_option maxRecDepth 8000
def zTn (g:List Int) (a:Int) (at_:Int) (i:Nat):Bool:=hasB g (a+i) && decide (at_=(i:Int)+(zAC g a i:Int))
def zKr (p:Prg) (g:List Int) (t:Nat) (at_:Int):Bool:=(List.range ((p.thr[t]?).getD []).length).any (zTn g (zK p.thr t) at_)
end Go.Proofs.YtoknohandclcbaaGreat
namespace Go.Proofs.YtoknohandclcbaaGreat
open Go.RowKit
set_option maxRecDepth 8000
def zF6 (s:Sta):List Int:=s.ths.flatMap (·.regs)
set_option maxHeartbeats 4000000 in
theorem z2m (s:Sta) (hm:s.mem.length≤100000) (ht:s.ths.length≤1000) (hr:∀t∈s.ths,t.regs.length≤1000):HFn Tryz.prog 50 [staH s] (.ag [.ow 3 1 (ints s.mem),.ow 3 1 (ints (zF6 s))]):=by
 refine zV (fn:=Tryz.f50) 28 [.cell 2 44] (by kernel_rfl) rfl rfl (by kernel_rfl) (HW.weaken (Q':=fun e=>GQ _ _ (endC _ _ _ _ e)) (HW.run 400 (by kernel_rfl) ?_) (fun _ _ _ h=>h))
 simp +decide only[go_sem,nT,nA,nS,nM,nB,reduceIte,reduceCtorEq]
 repeat (with_reducible refine And.intro ?_ ?_;·(with_reducible and_intros) <;> omega)
 have hfl:∀i,((s.ths.take i).flatMap (·.regs)).length≤1000*i:=by
  intro i
  induction i with
  | zero=>simp
  | succ i ih =>
   rw[List.take_add_one,List.flatMap_append,List.length_append]
   cases hx:s.ths[i]? with
   | none=>simp only[Option.toList_none,List.flatMap_nil,List.length_nil];omega
   | some x=>have:=hr x (List.mem_of_getElem? hx);simp only[Option.toList_some,List.flatMap_cons,List.flatMap_nil,List.append_nil];omega
 refine HW.loopG (fun k T H=>∃i:Nat,k=s.ths.length-i∧i≤s.ths.length∧T 1=.pt 0 1 0 0∧T 2=.pt 1 1 0 0∧T 3=.pt 3 1 0 0∧T 4=.v (.int .i64 i)∧
  H=[some ⟨79,2,[[.sl (ints s.mem),.sl (thds s.ths)]]⟩,some ⟨44,2,[[.v (.slice none 0 0),.v (.slice none 0 0)]]⟩,some ⟨3,1,ints s.mem⟩,some ⟨44,2,[[.hd 2 0 s.mem.length,.hd 4 0 ((s.ths.take i).flatMap (·.regs)).length]]⟩,some ⟨3,1,ints ((s.ths.take i).flatMap (·.regs))⟩]) s.ths.length
  ⟨_,_,(Ghost.cell 3 0 1 (.ow 3 1 []) rfl rfl rfl rfl (Conv.nilOw _ _) (by simp)).trans (Ghost.open 3 0 1),0,rfl,by omega,rfl,rfl,rfl,rfl,rfl⟩ ?_
 rintro k T H ⟨i,rfl,hi,h1,h2,h3,h4,rfl⟩
 refine HW.run 200 (by kernel_rfl) ?_
 have hfi:=hfl i
 by_cases hlt:i<s.ths.length
 ·have hlt' : ((i:Int)<(s.ths.length:Int))=True:=by rw[zR];simp[hlt]
  have hx:s.ths[i]?=some s.ths[i]:=List.getElem?_eq_getElem hlt
  have hxr:=hr _ (List.getElem_mem hlt)
  have htk:(s.ths.take (i+1)).flatMap (·.regs)=(s.ths.take i).flatMap (·.regs)++(s.ths[i]).regs:=by rw[List.take_add_one,hx,List.flatMap_append];simp
  generalize s.ths[i]=x at hx hxr htk
  generalize (s.ths.take i).flatMap (·.regs)=o at hfi htk⊢
  simp +decide only[go_sem,nT,nA,nS,nM,nB,reduceIte,reduceCtorEq,h1,h2,h3,h4,hlt',hx]
  refine HW.mixed 80 8 (5,0) [] follows (by kernel_rfl) (by decide) ?_
  simp +decide only[go_sem,nT,nA,nS,nM,nB,reduceIte,reduceCtorEq,h1,h2,h3,h4,hlt',hx]
  repeat (with_reducible refine And.intro ?_ ?_;·(with_reducible and_intros) <;> omega)
  refine ⟨_,_,Ghost.trunc [1,2,3,4] 5 (by omega) ?_ ?_,s.ths.length-(i+1),by omega,i+1,rfl,by omega,?_,?_,?_,?_,?_⟩
  all_goals first | (simp +decide only[go_sem,nB,reduceIte,h1,h2,h3];done) | (simp +decide only[go_sem,nB,reduceIte];rw[w64 (by omega) (by omega)];rfl) | (simp +decide only[go_sem,nT,nA,nS,nM,nB,reduceIte,reduceCtorEq,htk,List.length_append];done)
 ·have hlt' : ((i:Int)<(s.ths.length:Int))=False:=by rw[zR];simp[hlt]
  have e:s.ths.take i=s.ths:=List.take_of_length_le (by omega)
  simp +decide only[go_sem,nT,nA,nS,nM,nB,reduceIte,reduceCtorEq,h1,h2,h3,h4,hlt',e]
  refine GQ.done ?_
  simp +decide only[go_sem,nT,nA,nS,nM,nB,reduceIte,reduceCtorEq,h2]
  try rfl
end Go.Proofs.YtoknohandclcbaaGreat
namespace Go.Proofs.YtoknohandclcbaaGreat
open Go.RowKit
section
variable {N L:Nat} {T:Nat→HV} {H:Heap}
theorem Ghost.freezeHd (i n len:Nat) {ob:HObj} (hi:T i=.hd n 0 len) (ho:H[n]?=some (some ob)) (hl:len=ob.rows.length):Ghost N L T H (upd T i (.sl (fzoR ob.rows))) (H.set n none):=fun B Z G FP ds a w hL hs=>by
 have hk:=hs.inv.freeze n
 have hG:GLe G (G.set n none):=GLe.kill n
 have hE:Evo Z FP w (Zid Z FP n) (fun j=>if j=n then [] else FP j) w:=zDQ n
 have hs':=hs.evo hk hG hE
 refine ⟨_,_,_,⟨hs'.inv,hs'.size,fun c hc=>?_,hs'.defers,hs'.dsn,hs'.dsat⟩,GLt.of hL hG,hE⟩
 unfold upd
 split
 ·rename_i e
  subst e
  have h0:=hs.tmps c hc
  rw[hi] at h0
  obtain ⟨g,hg,hOB,hV⟩:=zEW hs.inv ho (by omega) h0
  unfold View at hV
  simp only[RV]
  cases hb:g.blk with
  | none =>
   rw[hb] at hV
   obtain ⟨hy,_,h2⟩:=hV
   have hr:ob.rows=[]:=List.length_eq_zero_iff.1 (by omega)
   refine ⟨trivial,none,0,?_,?_,by simp[maxLen],.inl ?_⟩
   ·rw[hy,hr];rfl
   ·rw[hr];exact Nat.le_refl _
   ·rw[hr];rfl
  | some b =>
   rw[hb] at hV
   obtain ⟨ad,hy,ha⟩:=hV
   obtain ⟨b',cells,f,q1,q2,q3,q4,q5,q6,q7⟩:=hOB.cells_ hb
   rw[hb] at q1
   cases q1
   have ha':=ha (.inr rfl)
   refine ⟨trivial,some ad,g.cap,?_,by rw[zA3];exact q5,q6,?_⟩
   ·rw[hy,zA3,hl];rfl
   ·right
    refine ⟨b,0,by rw[ha',Nat.zero_mul],.inr (by rw[q2];simp),?_,?_⟩
    ·refine zCE (sz:=ob.sz) fun r hr=>?_
     rw[zCB] at hr
     obtain ⟨r',hr',rfl⟩:=List.mem_map.1 hr
     rw[zA4];exact hOB.len r' hr'
    ·exact zCT ob.rows G b 0 f ⟨fun b hb=>.inl hb,fun b hb=>.inr (by rw[q2];simp[hb])⟩ q7
 ·exact hs'.tmps c hc
end
end Go.Proofs.YtoknohandclcbaaGreat
namespace Go.Proofs.YtoknohandclcbaaGreat
open Go.RowKit
set_option maxRecDepth 8000
abbrev zGS (p:Prg):HV:=.fp [[.sl (ints p.init),.sl (thrs p.thr)]] 0 0
set_option maxHeartbeats 4000000 in
theorem zPW (p:Prg) (s:Sta) (k:Pck) (hp:RightP p) (hs:RightS p s) (hb:∀t∈s.ths,t.buf.length≤100000):HFn Tryz.prog 196 [staH s,pckH k,zGS p] (.tu [staH (zQ p s k).1,.v (.bool (zQ p s k).2)]):=by
 have hst:HFn Tryz.prog 94 [prgH p,staH s,pckH k] (.tu [staH (zQ p s k).1,.v (.bool (zQ p s k).2)]):=HFn.shut (zRZ p s k hp hs hb) (by simp only[fzo,fzoL,zAZ,zCL])
 generalize zQ p s k=z at hst
 obtain ⟨s',ok⟩:=z
 refine zV (fn:=Tryz.f196) 13 [.cell 5 79,.tmp 6] (by kernel_rfl) rfl rfl (by kernel_rfl) (HW.run 400 (by kernel_rfl) ?_)
 simp +decide only[go_sem,nT,nA,nS,nM,nB,reduceIte,reduceCtorEq]
 refine zD (hst) rfl rfl ?_
 simp +decide only[go_sem,nT,nA,nS,nM,nB,reduceIte,reduceCtorEq]
theorem zZY (s:Sta) (k:Pck):HFn Tryz.prog 166 [staH s,pckH k] (.tu []):=by
 refine zB (fn:=Tryz.f166) 4 [] (by kernel_rfl) rfl (by kernel_rfl) (HW.run 400 (by kernel_rfl) ?_)
 simp +decide only[go_sem,nT,nA,nS,nM,nB,reduceIte,reduceCtorEq]
end Go.Proofs.YtoknohandclcbaaGreat
namespace Go.Proofs.YtoknohandclcbaaGreat
open Go.RowKit
set_option maxRecDepth 8000
structure Ot where
 mem:List Int
 regs:List Int
 deriving DecidableEq
structure Fnd where
 out:Ot
 picks:List Pck
 deriving DecidableEq
structure Prf where
 picks:List Pck
 out:Ot
 slots:List Int
 deriving DecidableEq
structure Ans where
 fences:List Int
 proofs:List Prf
 ends:List Ot
 loose:List Ot
 states:Int
 deriving DecidableEq
def orow (x:Ot):List HV:=[.sl (ints x.mem),.sl (ints x.regs)]
def ots (l:List Ot):List (List HV):=l.map orow
theorem ots_flat:Plain orow 2:=⟨fun _=>rfl,fun _=>rfl⟩
theorem zZp:ots []=[]:=rfl
theorem zPl {a b:List Ot}:ots a++ots b=ots (a++b):=by simp[ots]
theorem zHk {l:List Ot}:(ots l).length=l.length:=by simp[ots]
theorem zZq {l:List Ot} {i:Nat}:(ots l)[i]?=l[i]?.map orow:=by simp[ots]
theorem zWq {l:List Ot} {i:Nat}:(ots l).drop i=ots (l.drop i):=by simp[ots,List.map_drop]
theorem zWo {l:List Ot} {i:Nat}:(ots l).take i=ots (l.take i):=by simp[ots,List.map_take]
theorem zSk {l:List Ot} {i:Nat} {x:Ot}:(ots l).set i (orow x)=ots (l.set i x):=by simp[ots,List.map_set]
theorem zM6 {l:List Ot}:z2 (ots l) 2=True:=ots_flat.rowsLen l
theorem zZo {l:List Ot}:tvs (ots l).flatten=true:=ots_flat.tvs l
theorem zSl {l:List Ot} {m:Nat}:nmR m (ots l)=true:=ots_flat.nmR l
theorem z2u {l:List Ot} {k:Nat} {H:Heap}:(ots l).map (fun r=>r.map (fz k H))=ots l:=ots_flat.fz l
theorem zWp {l:List Ot}:fzoR (ots l)=ots l:=ots_flat.fzoR l
attribute [go_sem] zZp zPl zHk zZq zWq zWo zM6 zZo zSl z2u zWp orow
def zXa (x:Fnd):List HV:=[.sl (ints x.out.mem),.sl (ints x.out.regs),.sl (pcks x.picks)]
def fds (l:List Fnd):List (List HV):=l.map zXa
theorem fds_flat:Plain zXa 3:=⟨fun _=>rfl,fun _=>rfl⟩
theorem z10:fds []=[]:=rfl
theorem zQR {a b:List Fnd}:fds a++fds b=fds (a++b):=by simp[fds]
theorem zQQ {l:List Fnd}:(fds l).length=l.length:=by simp[fds]
theorem z11 {l:List Fnd} {i:Nat}:(fds l)[i]?=l[i]?.map zXa:=by simp[fds]
theorem zX9 {l:List Fnd} {i:Nat}:(fds l).drop i=fds (l.drop i):=by simp[fds,List.map_drop]
theorem zX7 {l:List Fnd} {i:Nat}:(fds l).take i=fds (l.take i):=by simp[fds,List.map_take]
theorem zMq {l:List Fnd}:z2 (fds l) 3=True:=fds_flat.rowsLen l
theorem z1Y {l:List Fnd}:tvs (fds l).flatten=true:=fds_flat.tvs l
theorem z1Z {l:List Fnd} {m:Nat}:nmR m (fds l)=true:=fds_flat.nmR l
theorem z4Y {l:List Fnd} {k:Nat} {H:Heap}:(fds l).map (fun r=>r.map (fz k H))=fds l:=fds_flat.fz l
theorem zX8 {l:List Fnd}:fzoR (fds l)=fds l:=fds_flat.fzoR l
attribute [go_sem] z10 zQR zQQ z11 zX9 zX7 zMq z1Y z1Z z4Y zX8 zXa
def zPh (x:Prf):List HV:=[.sl (pcks x.picks),.sl (ints x.out.mem),.sl (ints x.out.regs),.sl (ints x.slots)]
def pfs (l:List Prf):List (List HV):=l.map zPh
theorem pfs_flat:Plain zPh 4:=⟨fun _=>rfl,fun _=>rfl⟩
theorem zZl:pfs []=[]:=rfl
theorem zPg {a b:List Prf}:pfs a++pfs b=pfs (a++b):=by simp[pfs]
theorem zPf {l:List Prf}:(pfs l).length=l.length:=by simp[pfs]
theorem zZm {l:List Prf} {i:Nat}:(pfs l)[i]?=l[i]?.map zPh:=by simp[pfs]
theorem zWg {l:List Prf} {i:Nat}:(pfs l).drop i=pfs (l.drop i):=by simp[pfs,List.map_drop]
theorem zWe {l:List Prf} {i:Nat}:(pfs l).take i=pfs (l.take i):=by simp[pfs,List.map_take]
theorem zM2 {l:List Prf}:z2 (pfs l) 4=True:=pfs_flat.rowsLen l
theorem zZk {l:List Prf}:tvs (pfs l).flatten=true:=pfs_flat.tvs l
theorem zSb {l:List Prf} {m:Nat}:nmR m (pfs l)=true:=pfs_flat.nmR l
theorem z2s {l:List Prf} {k:Nat} {H:Heap}:(pfs l).map (fun r=>r.map (fz k H))=pfs l:=pfs_flat.fz l
theorem zWf {l:List Prf}:fzoR (pfs l)=pfs l:=pfs_flat.fzoR l
attribute [go_sem] zZl zPg zPf zZm zWg zWe zM2 zZk zSb z2s zWf zPh
def zRy (x:List Int):List HV:=[.sl (ints x)]
def rws (l:List (List Int)):List (List HV):=l.map zRy
theorem rws_flat:Plain zRy 1:=⟨fun _=>rfl,fun _=>rfl⟩
theorem zZV:rws []=[]:=rfl
theorem zPS {a b:List (List Int)}:rws a++rws b=rws (a++b):=by simp[rws]
theorem zPR {l:List (List Int)}:(rws l).length=l.length:=by simp[rws]
theorem zZW {l:List (List Int)} {i:Nat}:(rws l)[i]?=l[i]?.map zRy:=by simp[rws]
theorem zWA {l:List (List Int)} {i:Nat}:(rws l).drop i=rws (l.drop i):=by simp[rws,List.map_drop]
theorem zVz {l:List (List Int)} {i:Nat}:(rws l).take i=rws (l.take i):=by simp[rws,List.map_take]
theorem zMP {l:List (List Int)}:z2 (rws l) 1=True:=rws_flat.rowsLen l
theorem zZU {l:List (List Int)}:tvs (rws l).flatten=true:=rws_flat.tvs l
theorem zRx {l:List (List Int)} {m:Nat}:nmR m (rws l)=true:=rws_flat.nmR l
theorem z2d {l:List (List Int)} {k:Nat} {H:Heap}:(rws l).map (fun r=>r.map (fz k H))=rws l:=rws_flat.fz l
theorem zI3 {l:List (List Int)}:fzoR (rws l)=rws l:=rws_flat.fzoR l
attribute [go_sem] zZV zPS zPR zZW zWA zVz zMP zZU zRx z2d zI3 zRy
abbrev otH (o:Ot):HV:=.ag [.sl (ints o.mem),.sl (ints o.regs)]
abbrev prfH (x:Prf):HV:=.ag [.sl (pcks x.picks),.sl (ints x.out.mem),.sl (ints x.out.regs),.sl (ints x.slots)]
abbrev ansH (a:Ans):HV:=.ag [.sl (ints a.fences),.sl (pfs a.proofs),.sl (ots a.ends),.sl (ots a.loose),.v (.int .i64 a.states)]
theorem zSj {l:List Ot} {a b:List Int}:ots l++[[.sl (ints a),.sl (ints b)]]=ots (l++[⟨a,b⟩]):=by simp[ots,orow]
theorem zRw {l:List (List Int)} {a:List Int}:rws l++[[.sl (ints a)]]=rws (l++[a]):=by simp[rws,zRy]
theorem zSa {l:List Prf} {a:List Pck} {b c d:List Int}:pfs l++[[.sl (pcks a),.sl (ints b),.sl (ints c),.sl (ints d)]]=pfs (l++[⟨a,⟨b,c⟩,d⟩]):=by simp[pfs,zPh]
attribute [go_sem] zSj zRw zSa
end Go.Proofs.YtoknohandclcbaaGreat
namespace Go.Proofs.YtoknohandclcbaaGreat
open Go.RowKit
set_option maxRecDepth 8000
def idxF {α:Type} (pred:α→Bool) (l:List α):Int:=match l.findIdx? pred with | some i=>(i:Int) | none => -1
section
variable {α:Type} {pred:α→Bool} {l:List α}
theorem zEU {i:Nat} {x:α} (hx:l[i]?=some x) (hp:∀(j:Nat) y,j<i→l[j]?=some y→pred y=false) (h:pred x=true):idxF pred l=(i:Int):=by
 have:l.findIdx? pred=some i:=by
  rw[List.findIdx?_eq_some_iff_getElem]
  obtain ⟨hlt,he⟩:=List.getElem?_eq_some_iff.1 hx
  refine ⟨hlt,by rw[he];exact h,fun j hj=>?_⟩
  rw[hp j _ hj (List.getElem?_eq_getElem (by omega))];simp
 unfold idxF
 rw[this]
theorem zCy (hp:∀(j:Nat) y,l[j]?=some y→pred y=false):idxF pred l = -1:=by
 have:l.findIdx? pred=none:=by
  rw[List.findIdx?_eq_none_iff]
  intro x hx
  obtain ⟨j,hj⟩:=List.getElem?_of_mem hx
  exact hp j x hj
 unfold idxF
 rw[this]
theorem zG5:decide (0≤idxF pred l)=l.any pred:=by
 unfold idxF
 cases h:l.findIdx? pred with
 | none =>
  rw[List.findIdx?_eq_none_iff] at h
  have:l.any pred=false:=by
   rw[List.any_eq_false]
   intro x hx
   rw[h x hx];simp
  rw[this];rfl
 | some i =>
  rw[List.findIdx?_eq_some_iff_getElem] at h
  obtain ⟨h1,h2,_⟩:=h
  have:l.any pred=true:=List.any_eq_true.2 ⟨_,List.getElem_mem h1,h2⟩
  rw[this];simp
theorem zEz:-1≤idxF pred l∧idxF pred l≤l.length:=by
 unfold idxF
 cases h:l.findIdx? pred with
 | none=>simp
 | some i =>
  rw[List.findIdx?_eq_some_iff_getElem] at h
  obtain ⟨h1,h2,_⟩:=h
  simp;try omega
theorem tfE' (p:Prop):(p∧p=True)∨(¬p∧p=False):=by by_cases h:p <;> simp[h]
end
set_option maxHeartbeats 4000000 in
theorem idxI (l:List Int) (f:Nat) (caps:List HV) (pred:Int→Bool) (hl:l.length≤1000000) (hn:∀x∈l,nmL 0 (fnA f .any [.v (.int .i64 x)] caps)=true)
  (h:∀(i:Nat) x,l[i]?=some x→(∀(j:Nat) y,j<i→l[j]?=some y→pred y=false)→HFn Tryz.prog (fnF f) (fnA f .any [.v (.int .i64 x)] caps) (.v (.bool (pred x)))) :
  HFn Tryz.prog 124 [.sl (ints l),.fn f caps] (.v (.int .i64 (idxF pred l))):=by
 refine zB (fn:=Tryz.f124) 19 [4] (by kernel_rfl) rfl (by kernel_rfl) (HW.run 400 (by kernel_rfl) ?_)
 simp +decide only[go_sem,nT,nA,nS,nM,nB,reduceIte,reduceCtorEq]
 refine HW.loopG (fun k T H=>∃i:Nat,k=l.length-i∧i≤l.length∧(∀(j:Nat) y,j<i→l[j]?=some y→pred y=false)∧T 0=.sl (ints l)∧T 1=.fn f caps∧T 7=.v (.int .i64 l.length)∧T 8=.v (.int .i64 i)∧H=[]) l.length ⟨_,_,Ghost.refl,0,rfl,by omega,by simp,rfl,rfl,rfl,rfl,rfl⟩ ?_
 rintro k T H ⟨i,rfl,hil,hp,h0,h1,h7,h8,rfl⟩
 refine HW.run 200 (by kernel_rfl) ?_
 by_cases hlt:i<l.length
 ·have hlt' : ((i:Int)<(l.length:Int))=True:=by simp only[eq_iff_iff,iff_true];omega
  have hx:l[i]?=some l[i]:=List.getElem?_eq_getElem hlt
  have hm:=List.getElem_mem hlt
  generalize l[i]=x at hx hm
  have hc:=h i x hx hp
  have hnn:=hn x hm
  simp +decide only[go_sem,nT,nA,nS,nM,nB,reduceIte,reduceCtorEq,h0,h1,h7,h8,hlt',hx]
  refine zD hc rfl hnn ?_
  cases hb:pred x with
  | true =>
   rw[zEU hx hp hb]
   simp +decide only[go_sem,nT,nA,nS,nM,nB,reduceIte,reduceCtorEq,h0,h1,h7,h8]
  | false =>
   simp +decide only[go_sem,nT,nA,nS,nM,nB,reduceIte,reduceCtorEq,h0,h1,h7,h8]
   refine ⟨_,_,Ghost.refl,l.length-(i+1),by omega,i+1,rfl,by omega,?_,?_,?_,?_,?_,?_⟩
   ·intro j y hj hy
    rcases Nat.lt_or_ge j i with hji | hji
    ·exact hp j y hji hy
    ·obtain rfl:j=i:=by omega
     rw[hx] at hy;cases hy;exact hb
   all_goals first | (simp +decide only[go_sem,nB,reduceIte,h0,h1,h7];done) | (simp +decide only[go_sem,nB,reduceIte];rw[w64 (by omega) (by omega)];rfl) | rfl
 ·have hlt' : ((i:Int)<(l.length:Int))=False:=by simp only[eq_iff_iff,iff_false];omega
  rw[zCy fun j y hy=>hp j y (by have:=(List.getElem?_eq_some_iff.1 hy).1;omega) hy]
  simp +decide only[go_sem,nT,nA,nS,nM,nB,reduceIte,reduceCtorEq,h0,h1,h7,h8,hlt']
theorem conI (l:List Int) (f:Nat) (caps:List HV) (pred:Int→Bool) (hl:l.length≤1000000) (hn:∀x∈l,nmL 0 (fnA f .any [.v (.int .i64 x)] caps)=true) (hc:nmL 0 caps=true)
  (h:∀(i:Nat) x,l[i]?=some x→(∀(j:Nat) y,j<i→l[j]?=some y→pred y=false)→HFn Tryz.prog (fnF f) (fnA f .any [.v (.int .i64 x)] caps) (.v (.bool (pred x)))) :
  HFn Tryz.prog 89 [.sl (ints l),.fn f caps] (.v (.bool (l.any pred))):=by
 have hi:=idxI l f caps pred hl hn h
 rw[←zG5]
 have hr:=zEz (pred:=pred) (l:=l)
 generalize idxF pred l=n at hi hr
 refine zB (fn:=Tryz.f89) 9 [4] (by kernel_rfl) rfl (by kernel_rfl) (HW.run 400 (by kernel_rfl) ?_)
 simp +decide only[go_sem,nT,nA,nS,nM,nB,reduceIte,reduceCtorEq]
 refine zD hi rfl (by simp only[nmL,nm,zET,hc,Bool.and_self]) ?_
 rcases tfE' (0≤n) with ⟨d,c⟩ | ⟨d,c⟩
 ·simp +decide only[go_sem,nT,nA,nS,nM,nB,reduceIte,reduceCtorEq,c]
 ·simp +decide only[go_sem,nT,nA,nS,nM,nB,reduceIte,reduceCtorEq,c]
set_option maxHeartbeats 4000000 in
theorem idxR (l:List (List Int)) (f:Nat) (caps:List HV) (pred:(List Int)→Bool) (hl:l.length≤1000000) (hn:∀x∈l,nmL 0 (fnA f .any [.sl (ints x)] caps)=true)
  (h:∀(i:Nat) x,l[i]?=some x→(∀(j:Nat) y,j<i→l[j]?=some y→pred y=false)→HFn Tryz.prog (fnF f) (fnA f .any [.sl (ints x)] caps) (.v (.bool (pred x)))) :
  HFn Tryz.prog 88 [.sl (rws l),.fn f caps] (.v (.int .i64 (idxF pred l))):=by
 refine zB (fn:=Tryz.f88) 19 [4] (by kernel_rfl) rfl (by kernel_rfl) (HW.run 400 (by kernel_rfl) ?_)
 simp +decide only[go_sem,nT,nA,nS,nM,nB,reduceIte,reduceCtorEq]
 refine HW.loopG (fun k T H=>∃i:Nat,k=l.length-i∧i≤l.length∧(∀(j:Nat) y,j<i→l[j]?=some y→pred y=false)∧T 0=.sl (rws l)∧T 1=.fn f caps∧T 7=.v (.int .i64 l.length)∧T 8=.v (.int .i64 i)∧H=[]) l.length ⟨_,_,Ghost.refl,0,rfl,by omega,by simp,rfl,rfl,rfl,rfl,rfl⟩ ?_
 rintro k T H ⟨i,rfl,hil,hp,h0,h1,h7,h8,rfl⟩
 refine HW.run 200 (by kernel_rfl) ?_
 by_cases hlt:i<l.length
 ·have hlt' : ((i:Int)<(l.length:Int))=True:=by simp only[eq_iff_iff,iff_true];omega
  have hx:l[i]?=some l[i]:=List.getElem?_eq_getElem hlt
  have hm:=List.getElem_mem hlt
  generalize l[i]=x at hx hm
  have hc:=h i x hx hp
  have hnn:=hn x hm
  simp +decide only[go_sem,nT,nA,nS,nM,nB,reduceIte,reduceCtorEq,h0,h1,h7,h8,hlt',hx]
  refine zD hc rfl hnn ?_
  cases hb:pred x with
  | true =>
   rw[zEU hx hp hb]
   simp +decide only[go_sem,nT,nA,nS,nM,nB,reduceIte,reduceCtorEq,h0,h1,h7,h8]
  | false =>
   simp +decide only[go_sem,nT,nA,nS,nM,nB,reduceIte,reduceCtorEq,h0,h1,h7,h8]
   refine ⟨_,_,Ghost.refl,l.length-(i+1),by omega,i+1,rfl,by omega,?_,?_,?_,?_,?_,?_⟩
   ·intro j y hj hy
    rcases Nat.lt_or_ge j i with hji | hji
    ·exact hp j y hji hy
    ·obtain rfl:j=i:=by omega
     rw[hx] at hy;cases hy;exact hb
   all_goals first | (simp +decide only[go_sem,nB,reduceIte,h0,h1,h7];done) | (simp +decide only[go_sem,nB,reduceIte];rw[w64 (by omega) (by omega)];rfl) | rfl
 ·have hlt' : ((i:Int)<(l.length:Int))=False:=by simp only[eq_iff_iff,iff_false];omega
  rw[zCy fun j y hy=>hp j y (by have:=(List.getElem?_eq_some_iff.1 hy).1;omega) hy]
  simp +decide only[go_sem,nT,nA,nS,nM,nB,reduceIte,reduceCtorEq,h0,h1,h7,h8,hlt']
theorem conR (l:List (List Int)) (f:Nat) (caps:List HV) (pred:(List Int)→Bool) (hl:l.length≤1000000) (hn:∀x∈l,nmL 0 (fnA f .any [.sl (ints x)] caps)=true) (hc:nmL 0 caps=true)
  (h:∀(i:Nat) x,l[i]?=some x→(∀(j:Nat) y,j<i→l[j]?=some y→pred y=false)→HFn Tryz.prog (fnF f) (fnA f .any [.sl (ints x)] caps) (.v (.bool (pred x)))) :
  HFn Tryz.prog 56 [.sl (rws l),.fn f caps] (.v (.bool (l.any pred))):=by
 have hi:=idxR l f caps pred hl hn h
 rw[←zG5]
 have hr:=zEz (pred:=pred) (l:=l)
 generalize idxF pred l=n at hi hr
 refine zB (fn:=Tryz.f56) 9 [4] (by kernel_rfl) rfl (by kernel_rfl) (HW.run 400 (by kernel_rfl) ?_)
 simp +decide only[go_sem,nT,nA,nS,nM,nB,reduceIte,reduceCtorEq]
 refine zD hi rfl (by simp only[nmL,nm,zRx,hc,Bool.and_self]) ?_
 rcases tfE' (0≤n) with ⟨d,c⟩ | ⟨d,c⟩
 ·simp +decide only[go_sem,nT,nA,nS,nM,nB,reduceIte,reduceCtorEq,c]
 ·simp +decide only[go_sem,nT,nA,nS,nM,nB,reduceIte,reduceCtorEq,c]
set_option maxHeartbeats 4000000 in
theorem idxP (l:List Prf) (f:Nat) (caps:List HV) (pred:Prf→Bool) (hl:l.length≤1000000) (hn:∀x∈l,nmL 0 (fnA f .any [prfH x] caps)=true)
  (h:∀(i:Nat) x,l[i]?=some x→(∀(j:Nat) y,j<i→l[j]?=some y→pred y=false)→HFn Tryz.prog (fnF f) (fnA f .any [prfH x] caps) (.v (.bool (pred x)))) :
  HFn Tryz.prog 31 [.sl (pfs l),.fn f caps] (.v (.int .i64 (idxF pred l))):=by
 refine zB (fn:=Tryz.f31) 19 [4] (by kernel_rfl) rfl (by kernel_rfl) (HW.run 400 (by kernel_rfl) ?_)
 simp +decide only[go_sem,nT,nA,nS,nM,nB,reduceIte,reduceCtorEq]
 refine HW.loopG (fun k T H=>∃i:Nat,k=l.length-i∧i≤l.length∧(∀(j:Nat) y,j<i→l[j]?=some y→pred y=false)∧T 0=.sl (pfs l)∧T 1=.fn f caps∧T 7=.v (.int .i64 l.length)∧T 8=.v (.int .i64 i)∧H=[]) l.length ⟨_,_,Ghost.refl,0,rfl,by omega,by simp,rfl,rfl,rfl,rfl,rfl⟩ ?_
 rintro k T H ⟨i,rfl,hil,hp,h0,h1,h7,h8,rfl⟩
 refine HW.run 200 (by kernel_rfl) ?_
 by_cases hlt:i<l.length
 ·have hlt' : ((i:Int)<(l.length:Int))=True:=by simp only[eq_iff_iff,iff_true];omega
  have hx:l[i]?=some l[i]:=List.getElem?_eq_getElem hlt
  have hm:=List.getElem_mem hlt
  generalize l[i]=x at hx hm
  have hc:=h i x hx hp
  have hnn:=hn x hm
  simp +decide only[go_sem,nT,nA,nS,nM,nB,reduceIte,reduceCtorEq,h0,h1,h7,h8,hlt',hx]
  refine zD hc rfl hnn ?_
  cases hb:pred x with
  | true =>
   rw[zEU hx hp hb]
   simp +decide only[go_sem,nT,nA,nS,nM,nB,reduceIte,reduceCtorEq,h0,h1,h7,h8]
  | false =>
   simp +decide only[go_sem,nT,nA,nS,nM,nB,reduceIte,reduceCtorEq,h0,h1,h7,h8]
   refine ⟨_,_,Ghost.refl,l.length-(i+1),by omega,i+1,rfl,by omega,?_,?_,?_,?_,?_,?_⟩
   ·intro j y hj hy
    rcases Nat.lt_or_ge j i with hji | hji
    ·exact hp j y hji hy
    ·obtain rfl:j=i:=by omega
     rw[hx] at hy;cases hy;exact hb
   all_goals first | (simp +decide only[go_sem,nB,reduceIte,h0,h1,h7];done) | (simp +decide only[go_sem,nB,reduceIte];rw[w64 (by omega) (by omega)];rfl) | rfl
 ·have hlt' : ((i:Int)<(l.length:Int))=False:=by simp only[eq_iff_iff,iff_false];omega
  rw[zCy fun j y hy=>hp j y (by have:=(List.getElem?_eq_some_iff.1 hy).1;omega) hy]
  simp +decide only[go_sem,nT,nA,nS,nM,nB,reduceIte,reduceCtorEq,h0,h1,h7,h8,hlt']
theorem conP (l:List Prf) (f:Nat) (caps:List HV) (pred:Prf→Bool) (hl:l.length≤1000000) (hn:∀x∈l,nmL 0 (fnA f .any [prfH x] caps)=true) (hc:nmL 0 caps=true)
  (h:∀(i:Nat) x,l[i]?=some x→(∀(j:Nat) y,j<i→l[j]?=some y→pred y=false)→HFn Tryz.prog (fnF f) (fnA f .any [prfH x] caps) (.v (.bool (pred x)))) :
  HFn Tryz.prog 69 [.sl (pfs l),.fn f caps] (.v (.bool (l.any pred))):=by
 have hi:=idxP l f caps pred hl hn h
 rw[←zG5]
 have hr:=zEz (pred:=pred) (l:=l)
 generalize idxF pred l=n at hi hr
 refine zB (fn:=Tryz.f69) 9 [4] (by kernel_rfl) rfl (by kernel_rfl) (HW.run 400 (by kernel_rfl) ?_)
 simp +decide only[go_sem,nT,nA,nS,nM,nB,reduceIte,reduceCtorEq]
 refine zD hi rfl (by simp only[nmL,nm,zSb,hc,Bool.and_self]) ?_
 rcases tfE' (0≤n) with ⟨d,c⟩ | ⟨d,c⟩
 ·simp +decide only[go_sem,nT,nA,nS,nM,nB,reduceIte,reduceCtorEq,c]
 ·simp +decide only[go_sem,nT,nA,nS,nM,nB,reduceIte,reduceCtorEq,c]
set_option maxHeartbeats 4000000 in
theorem idxO (l:List Ot) (f:Nat) (caps:List HV) (pred:Ot→Bool) (hl:l.length≤1000000) (hn:∀x∈l,nmL 0 (fnA f .any [otH x] caps)=true)
  (h:∀(i:Nat) x,l[i]?=some x→(∀(j:Nat) y,j<i→l[j]?=some y→pred y=false)→HFn Tryz.prog (fnF f) (fnA f .any [otH x] caps) (.v (.bool (pred x)))) :
  HFn Tryz.prog 133 [.sl (ots l),.fn f caps] (.v (.int .i64 (idxF pred l))):=by
 refine zB (fn:=Tryz.f133) 19 [4] (by kernel_rfl) rfl (by kernel_rfl) (HW.run 400 (by kernel_rfl) ?_)
 simp +decide only[go_sem,nT,nA,nS,nM,nB,reduceIte,reduceCtorEq]
 refine HW.loopG (fun k T H=>∃i:Nat,k=l.length-i∧i≤l.length∧(∀(j:Nat) y,j<i→l[j]?=some y→pred y=false)∧T 0=.sl (ots l)∧T 1=.fn f caps∧T 7=.v (.int .i64 l.length)∧T 8=.v (.int .i64 i)∧H=[]) l.length ⟨_,_,Ghost.refl,0,rfl,by omega,by simp,rfl,rfl,rfl,rfl,rfl⟩ ?_
 rintro k T H ⟨i,rfl,hil,hp,h0,h1,h7,h8,rfl⟩
 refine HW.run 200 (by kernel_rfl) ?_
 by_cases hlt:i<l.length
 ·have hlt' : ((i:Int)<(l.length:Int))=True:=by simp only[eq_iff_iff,iff_true];omega
  have hx:l[i]?=some l[i]:=List.getElem?_eq_getElem hlt
  have hm:=List.getElem_mem hlt
  generalize l[i]=x at hx hm
  have hc:=h i x hx hp
  have hnn:=hn x hm
  simp +decide only[go_sem,nT,nA,nS,nM,nB,reduceIte,reduceCtorEq,h0,h1,h7,h8,hlt',hx]
  refine zD hc rfl hnn ?_
  cases hb:pred x with
  | true =>
   rw[zEU hx hp hb]
   simp +decide only[go_sem,nT,nA,nS,nM,nB,reduceIte,reduceCtorEq,h0,h1,h7,h8]
  | false =>
   simp +decide only[go_sem,nT,nA,nS,nM,nB,reduceIte,reduceCtorEq,h0,h1,h7,h8]
   refine ⟨_,_,Ghost.refl,l.length-(i+1),by omega,i+1,rfl,by omega,?_,?_,?_,?_,?_,?_⟩
   ·intro j y hj hy
    rcases Nat.lt_or_ge j i with hji | hji
    ·exact hp j y hji hy
    ·obtain rfl:j=i:=by omega
     rw[hx] at hy;cases hy;exact hb
   all_goals first | (simp +decide only[go_sem,nB,reduceIte,h0,h1,h7];done) | (simp +decide only[go_sem,nB,reduceIte];rw[w64 (by omega) (by omega)];rfl) | rfl
 ·have hlt' : ((i:Int)<(l.length:Int))=False:=by simp only[eq_iff_iff,iff_false];omega
  rw[zCy fun j y hy=>hp j y (by have:=(List.getElem?_eq_some_iff.1 hy).1;omega) hy]
  simp +decide only[go_sem,nT,nA,nS,nM,nB,reduceIte,reduceCtorEq,h0,h1,h7,h8,hlt']
end Go.Proofs.YtoknohandclcbaaGreat
namespace Go.Proofs.YtoknohandclcbaaGreat
set_option maxRecDepth 8000
def zAr:List Int→List Int→Bool
 | [],[]=>false
 | [],_::_=>true
 | _::_,[]=>false
 | a::x,b::y=>if a=b then zAr x y else decide (a<b)
def cmpI (a b:Int):Int:=if a<b then -1 else if b<a then 1 else 0
def cmpL:List Int→List Int→Int
 | [],[]=>0
 | [],_::_ => -1
 | _::_,[]=>1
 | a::x,b::y=>if cmpI a b≠0 then cmpI a b else cmpL x y
theorem zE6 {a b:Int}:cmpI a b=0↔a=b:=by
 unfold cmpI
 split
 ·constructor
  ·intro h;cases h
  ·intro h;omega
 ·split
  ·constructor
   ·intro h;cases h
   ·intro h;omega
  ·constructor <;> omega
theorem zYT {a b:Int}:cmpI a b<0↔a<b:=by
 unfold cmpI
 split
 ·simp;omega
 ·split
  ·simp;omega
  ·simp;omega
theorem zBs:∀{a b:List Int},cmpL a b=0↔a=b
 | [],[]=>by simp[cmpL]
 | [],_::_=>by simp[cmpL]
 | _::_,[]=>by simp[cmpL]
 | a::x,b::y=>by
  unfold cmpL
  by_cases h:cmpI a b=0
  ·rw[if_neg (by simp[h]),zBs (a:=x) (b:=y)]
   have:=zE6.1 h
   subst this;simp
  ·rw[if_pos h]
   constructor
   ·intro e;exact absurd e h
   ·intro e;simp at e;exact absurd (zE6.2 e.1) h
theorem zJT:∀{a b:List Int},cmpL a b<0↔zAr a b=true
 | [],[]=>by simp[cmpL,zAr]
 | [],_::_=>by simp[cmpL,zAr]
 | _::_,[]=>by simp[cmpL,zAr]
 | a::x,b::y=>by
  unfold cmpL zAr
  by_cases h:cmpI a b=0
  ·have e:=zE6.1 h
   subst e
   rw[if_neg (by simp[h]),zJT (a:=x) (b:=y),if_pos rfl]
  ·have e:a≠b:=fun e=>h (zE6.2 e)
   rw[if_pos h,if_neg e,zYT];simp
theorem zHB:∀a:List Int,zAr a a=false
 | []=>rfl
 | a::x=>by unfold zAr;rw[if_pos rfl];exact zHB x
theorem zDt:∀{a b c:List Int},zAr a b=true→zAr b c=true→zAr a c=true
 | [],[],c,h,_=>by simp[zAr] at h
 | [],_::_,[],_,h=>by simp[zAr] at h
 | [],_::_,_::_,_,_=>rfl
 | _::_,[],c,h,_=>by simp[zAr] at h
 | _::_,_::_,[],_,h=>by simp[zAr] at h
 | a::x,b::y,c::z,h1,h2=>by
  unfold zAr at h1 h2⊢
  by_cases e1:a=b
  ·subst e1
   rw[if_pos rfl] at h1
   by_cases e2:a=c
   ·subst e2
    rw[if_pos rfl] at h2⊢
    exact zDt h1 h2
   ·rw[if_neg e2] at h2⊢;exact h2
  ·rw[if_neg e1] at h1
   have h1:a<b:=by simpa using h1
   by_cases e2:b=c
   ·subst e2
    rw[if_neg e1];simpa using h1
   ·rw[if_neg e2] at h2
    have h2:b<c:=by simpa using h2
    rw[if_neg (by omega)];simp;omega
theorem zHA:∀(a b:List Int),zAr a b=true∨a=b∨zAr b a=true
 | [],[]=>.inr (.inl rfl)
 | [],_::_=>.inl rfl
 | _::_,[]=>.inr (.inr rfl)
 | a::x,b::y=>by
  unfold zAr
  by_cases e:a=b
  ·subst e
   rw[if_pos rfl,if_pos rfl]
   rcases zHA x y with h | h | h
   ·exact .inl h
   ·exact .inr (.inl (by rw[h]))
   ·exact .inr (.inr h)
  ·rw[if_neg e,if_neg (fun h=>e h.symm)]
   rcases Int.lt_or_gt_of_ne e with h | h
   ·exact .inl (by simpa using h)
   ·exact .inr (.inr (by simpa using h))
def zB3 (a b:Ot):Bool:=if a.mem=b.mem then zAr a.regs b.regs else zAr a.mem b.mem
def cmpO (a b:Ot):Int:=if cmpL a.mem b.mem≠0 then cmpL a.mem b.mem else cmpL a.regs b.regs
theorem zO5 {a b:Ot}:cmpO a b<0↔zB3 a b=true:=by
 unfold cmpO zB3
 by_cases h:a.mem=b.mem
 ·rw[if_neg (by simp[zBs,h]),if_pos h,zJT]
 ·rw[if_pos (by simp[zBs,h]),if_neg h,zJT]
theorem zUm {a b:Ot}:cmpO a b=0↔a=b:=by
 obtain ⟨am,ar⟩:=a
 obtain ⟨bm,br⟩:=b
 unfold cmpO
 by_cases h:am=bm
 ·subst h
  rw[if_neg (by simp[zBs]),zBs];simp
 ·rw[if_pos (by simp[zBs,h]),zBs];simp[h]
theorem zEQ (a:Ot):zB3 a a=false:=by unfold zB3;rw[if_pos rfl];exact zHB _
theorem zGZ {a b c:Ot} (h1:zB3 a b=true) (h2:zB3 b c=true):zB3 a c=true:=by
 unfold zB3 at h1 h2⊢
 by_cases e1:a.mem=b.mem
 ·rw[if_pos e1] at h1
  rw[e1]
  by_cases e2:b.mem=c.mem
  ·rw[if_pos e2] at h2⊢;exact zDt h1 h2
  ·rw[if_neg e2] at h2⊢;exact h2
 ·rw[if_neg e1] at h1
  by_cases e2:b.mem=c.mem
  ·rw[←e2,if_neg e1];exact h1
  ·rw[if_neg e2] at h2
   have h3:=zDt h1 h2
   rw[if_neg (fun e=>by rw[e,zHB] at h3;cases h3)];exact h3
theorem zSx (a b:Ot):zB3 a b=true∨a=b∨zB3 b a=true:=by
 obtain ⟨am,ar⟩:=a
 obtain ⟨bm,br⟩:=b
 unfold zB3
 by_cases e:am=bm
 ·subst e
  rw[if_pos rfl,if_pos rfl]
  rcases zHA ar br with h | h | h
  ·exact .inl h
  ·exact .inr (.inl (by rw[h]))
  ·exact .inr (.inr h)
 ·have e' : ¬bm=am:=fun h=>e h.symm
  rw[if_neg e,if_neg e']
  rcases zHA am bm with h | h | h
  ·exact .inl h
  ·exact absurd h e
  ·exact .inr (.inr h)
def setO:List Ot→Bool
 | []=>true
 | [_]=>true
 | a::b::r=>zB3 a b && setO (b::r)
def hasO (l:List Ot) (o:Ot):Bool:=decide (o∈l)
def zHm (a b:List Ot):List Ot:=a.filter fun o=>!hasO b o
def SetO (l:List Ot):Prop:=l.Pairwise fun a b=>zB3 a b=true
theorem zFe:∀{l:List Ot},setO l=true↔SetO l
 | []=>by simp[setO,SetO]
 | [a]=>by simp[setO,SetO]
 | a::b::r=>by
  have ih:=zFe (l:=b::r)
  unfold setO
  rw[Bool.and_eq_true,ih]
  constructor
  ·rintro ⟨h1,h2⟩
   refine List.pairwise_cons.2 ⟨fun x hx=>?_,h2⟩
   rcases List.mem_cons.1 hx with rfl | hx
   ·exact h1
   ·exact zGZ h1 ((List.pairwise_cons.1 h2).1 x hx)
  ·intro h
   have:=List.pairwise_cons.1 h
   exact ⟨this.1 b (by simp),this.2⟩
def posO (l:List Ot) (o:Ot):Nat:=(l.takeWhile fun x=>zB3 x o).length
theorem zZj (l:List Ot) (o:Ot):posO l o≤l.length:=List.takeWhile_sublist _ |>.length_le
theorem zIj {o:Ot}:∀{l:List Ot},SetO l→∀(i:Nat) (x:Ot),l[i]?=some x→(zB3 x o=true↔i<posO l o)
 | [],_,i,x,h=>by simp at h
 | a::l,hs,i,x,h=>by
  obtain ⟨h1,h2⟩:=List.pairwise_cons.1 hs
  have ih:=zIj (o:=o) h2
  by_cases ha:zB3 a o=true
  ·have e:posO (a::l) o=posO l o+1:=by simp[posO,List.takeWhile_cons,ha]
   rw[e]
   cases i with
   | zero=>simp at h;subst h;simp[ha]
   | succ i=>rw[ih i x (by simpa using h)];omega
  ·have e:posO (a::l) o=0:=by simp[posO,List.takeWhile_cons,ha]
   rw[e]
   cases i with
   | zero=>simp at h;subst h;simp[ha]
   | succ i =>
    have hm:x∈l:=List.mem_of_getElem? (by simpa using h)
    constructor
    ·intro hx;exact absurd (zGZ (h1 x hm) hx) ha
    ·intro hx;omega
theorem zWd {o:Ot} {l:List Ot} (hs:SetO l):hasO l o=true↔l[posO l o]?=some o:=by
 unfold hasO
 rw[decide_eq_true_iff]
 constructor
 ·intro hm
  obtain ⟨i,hi⟩:=List.getElem?_of_mem hm
  have h1:=zIj (o:=o) hs i o hi
  rw[zEQ] at h1
  have hge:posO l o≤i:=by
   rcases Nat.lt_or_ge i (posO l o) with h | h
   ·exact absurd (h1.2 h) (by simp)
   ·exact h
  rcases Nat.lt_or_ge (posO l o) i with h | h
  ·have hlt:posO l o<l.length:=by have:=(List.getElem?_eq_some_iff.1 hi).1;omega
   have hy:l[posO l o]?=some l[posO l o]:=List.getElem?_eq_getElem hlt
   have h2:=zIj (o:=o) hs _ _ hy
   have hp:=List.pairwise_iff_getElem.1 hs (posO l o) i hlt (List.getElem?_eq_some_iff.1 hi).1 h
   rw[(List.getElem?_eq_some_iff.1 hi).2] at hp
   have:=h2.1 hp
   omega
  ·have:i=posO l o:=by omega
   rw[←this];exact hi
 ·intro h;exact List.mem_of_getElem? h
end Go.Proofs.YtoknohandclcbaaGreat
namespace Go.Proofs.YtoknohandclcbaaGreat
open Go.RowKit
set_option maxRecDepth 8000
theorem zZA (n:Int):HFn Tryz.prog 203 [.v (.int .i64 n)] (.v (.bool false)):=by
 refine zB (fn:=Tryz.f203) 6 [2] (by kernel_rfl) rfl (by kernel_rfl) (HW.run 400 (by kernel_rfl) ?_)
 simp +decide only[go_sem,nT,nA,nS,nM,nB,reduceIte,reduceCtorEq]
theorem zRA (a b:Int):HFn Tryz.prog 207 [.v (.int .i64 a),.v (.int .i64 b)] (.v (.int .i64 (cmpI a b))):=by
 refine zB (fn:=Tryz.f207) 20 [4] (by kernel_rfl) rfl (by kernel_rfl) (HW.run 400 (by kernel_rfl) ?_)
 simp +decide only[go_sem,nT,nA,nS,nM,nB,reduceIte,reduceCtorEq]
 refine zD (zZA a) rfl rfl ?_
 simp +decide only[go_sem,nT,nA,nS,nM,nB,reduceIte,reduceCtorEq]
 refine zD (zZA b) rfl rfl ?_
 unfold cmpI
 rcases tfE' (a<b) with ⟨d,c⟩ | ⟨d,c⟩
 ·simp +decide only[go_sem,nT,nA,nS,nM,nB,reduceIte,reduceCtorEq,c]
 ·rcases tfE' (b<a) with ⟨d1,c1⟩ | ⟨d1,c1⟩
  ·simp +decide only[go_sem,nT,nA,nS,nM,nB,reduceIte,reduceCtorEq,c,c1]
  ·simp +decide only[go_sem,nT,nA,nS,nM,nB,reduceIte,reduceCtorEq,c,c1]
set_option maxHeartbeats 4000000 in
theorem zED (a b:List Int) (ha:a.length≤1000000) (hb:b.length≤1000000):HFn Tryz.prog 194 [.sl (ints a),.sl (ints b)] (.v (.int .i64 (cmpL a b))):=by
 refine zB (fn:=Tryz.f194) 36 [4] (by kernel_rfl) rfl (by kernel_rfl) (HW.run 400 (by kernel_rfl) ?_)
 simp +decide only[go_sem,nT,nA,nS,nM,nB,reduceIte,reduceCtorEq]
 refine HW.loopG (fun k T H=>∃i:Nat,k=a.length-i∧i≤a.length∧i≤b.length∧cmpL a b=cmpL (a.drop i) (b.drop i)∧T 0=.sl (ints a)∧T 1=.sl (ints b)∧T 9=.sl (ints a)∧T 10=.v (.int .i64 a.length)∧T 11=.v (.int .i64 i)∧H=[]) a.length ⟨_,_,Ghost.refl,0,rfl,by omega,by omega,rfl,rfl,rfl,rfl,rfl,rfl,rfl⟩ ?_
 rintro k T H ⟨i,rfl,hia,hib,hI,h0,h1,h9,h10,h11,rfl⟩
 refine HW.run 200 (by kernel_rfl) ?_
 by_cases hlt:i<a.length
 ·have hlt' : ((i:Int)<(a.length:Int))=True:=by simp only[eq_iff_iff,iff_true];omega
  have hx:a[i]?=some a[i]:=List.getElem?_eq_getElem hlt
  have hdr:a.drop i=a[i]::a.drop (i+1):=List.drop_eq_getElem_cons hlt
  generalize a[i]=x at hx hdr
  by_cases hlb:i<b.length
  ·have hlb' : ((b.length:Int)≤(i:Int))=False:=by simp only[eq_iff_iff,iff_false];omega
   have hlb2:((i:Int)<(b.length:Int))=True:=by simp only[eq_iff_iff,iff_true];omega
   have hy:b[i]?=some b[i]:=List.getElem?_eq_getElem hlb
   have hdb:b.drop i=b[i]::b.drop (i+1):=List.drop_eq_getElem_cons hlb
   generalize b[i]=y at hy hdb
   rw[hdr,hdb,cmpL] at hI
   have hc:=zRA x y
   simp +decide only[go_sem,nT,nA,nS,nM,nB,reduceIte,reduceCtorEq,h0,h1,h9,h10,h11,hlt',hx,hlb',hlb2,hy]
   refine zD (hc) rfl rfl ?_
   by_cases hz:cmpI x y=0
   ·rw[if_neg (by simp[hz])] at hI
    simp +decide only[go_sem,nT,nA,nS,nM,nB,reduceIte,reduceCtorEq,h0,h1,h9,h10,h11,hz]
    refine ⟨_,_,Ghost.refl,a.length-(i+1),by omega,i+1,rfl,by omega,by omega,hI,?_,?_,?_,?_,?_,?_⟩
    all_goals first | (simp +decide only[go_sem,nB,reduceIte,h0,h1,h9,h10];done) | (simp +decide only[go_sem,nB,reduceIte];rw[w64 (by omega) (by omega)];rfl) | rfl
   ·rw[if_pos hz] at hI
    rw[hI]
    have hz' : (cmpI x y=0)=False:=eq_false hz
    simp +decide only[go_sem,nT,nA,nS,nM,nB,reduceIte,reduceCtorEq,h0,h1,h9,h10,h11,hz']
  ·have hlb' : ((b.length:Int)≤(i:Int))=True:=by simp only[eq_iff_iff,iff_true];omega
   rw[hdr,List.drop_of_length_le (by omega:b.length≤i),cmpL] at hI
   rw[hI]
   simp +decide only[go_sem,nT,nA,nS,nM,nB,reduceIte,reduceCtorEq,h0,h1,h9,h10,h11,hlt',hx,hlb']
 ·have hlt' : ((i:Int)<(a.length:Int))=False:=by simp only[eq_iff_iff,iff_false];omega
  rw[List.drop_of_length_le (by omega:a.length≤i)] at hI
  rw[hI]
  by_cases hlb:a.length<b.length
  ·have hlb' : ((a.length:Int)<(b.length:Int))=True:=by simp only[eq_iff_iff,iff_true];omega
   have:b.drop i≠[]:=by
    intro e
    have:=congrArg List.length e
    simp at this;omega
   have e:cmpL [] (b.drop i) = -1:=by
    cases hd:b.drop i with
    | nil=>exact absurd hd this
    | cons=>rfl
   rw[e]
   simp +decide only[go_sem,nT,nA,nS,nM,nB,reduceIte,reduceCtorEq,h0,h1,h9,h10,h11,hlt',hlb']
  ·have hlb' : ((a.length:Int)<(b.length:Int))=False:=by simp only[eq_iff_iff,iff_false];omega
   rw[List.drop_of_length_le (by omega:b.length≤i)]
   simp +decide only[go_sem,nT,nA,nS,nM,nB,reduceIte,reduceCtorEq,h0,h1,h9,h10,h11,hlt',hlb']
   rfl
def orF:List Int→Int
 | []=>0
 | x::l=>if x=0 then orF l else x
set_option maxHeartbeats 4000000 in
theorem yBk (l:List Int) (hl:l.length≤1000000):HFn Tryz.prog 193 [.sl (ints l)] (.v (.int .i64 (orF l))):=by
 refine zB (fn:=Tryz.f193) 18 [2] (by kernel_rfl) rfl (by kernel_rfl) (HW.run 400 (by kernel_rfl) ?_)
 simp +decide only[go_sem,nT,nA,nS,nM,nB,reduceIte,reduceCtorEq]
 refine HW.loopG (fun k T H=>∃i:Nat,k=l.length-i∧i≤l.length∧orF l=orF (l.drop i)∧T 3=.v (.int .i64 0)∧T 6=.sl (ints l)∧T 7=.v (.int .i64 l.length)∧T 8=.v (.int .i64 i)∧H=[]) l.length ⟨_,_,Ghost.refl,0,rfl,by omega,rfl,rfl,rfl,rfl,rfl,rfl⟩ ?_
 rintro k T H ⟨i,rfl,hil,hI,h3,h6,h7,h8,rfl⟩
 refine HW.run 200 (by kernel_rfl) ?_
 by_cases hlt:i<l.length
 ·have hlt' : ((i:Int)<(l.length:Int))=True:=by simp only[eq_iff_iff,iff_true];omega
  have hx:l[i]?=some l[i]:=List.getElem?_eq_getElem hlt
  have hdr:l.drop i=l[i]::l.drop (i+1):=List.drop_eq_getElem_cons hlt
  generalize l[i]=x at hx hdr
  rw[hdr,orF] at hI
  by_cases hz:x=0
  ·rw[if_pos hz] at hI
   simp +decide only[go_sem,nT,nA,nS,nM,nB,reduceIte,reduceCtorEq,h3,h6,h7,h8,hlt',hx,hz]
   refine ⟨_,_,Ghost.refl,l.length-(i+1),by omega,i+1,rfl,by omega,hI,?_,?_,?_,?_,?_⟩
   all_goals first | (simp +decide only[go_sem,nB,reduceIte,h3,h6,h7];done) | (simp +decide only[go_sem,nB,reduceIte];rw[w64 (by omega) (by omega)];rfl) | rfl
  ·rw[if_neg hz] at hI
   rw[hI]
   have hz' : (x=0)=False:=eq_false hz
   simp +decide only[go_sem,nT,nA,nS,nM,nB,reduceIte,reduceCtorEq,h3,h6,h7,h8,hlt',hx,hz']
 ·have hlt' : ((i:Int)<(l.length:Int))=False:=by simp only[eq_iff_iff,iff_false];omega
  rw[List.drop_of_length_le (by omega)] at hI
  rw[hI]
  simp +decide only[go_sem,nT,nA,nS,nM,nB,reduceIte,reduceCtorEq,h3,h6,h7,h8,hlt']
  rfl
structure SmallO (o:Ot):Prop where
 mem:o.mem.length≤1000000
 regs:o.regs.length≤1000000
theorem zZr {a b:Ot}:orF [cmpL a.mem b.mem,cmpL a.regs b.regs]=cmpO a b:=by
 unfold cmpO orF
 by_cases h:cmpL a.mem b.mem=0
 ·rw[if_pos h,if_neg (by simp[h])]
  unfold orF
  split
  ·rename_i h2;rw[h2];rfl
  ·rfl
 ·rw[if_neg h,if_pos h]
set_option maxHeartbeats 4000000 in
theorem zO3 (a b:Ot) (ha:SmallO a) (hb:SmallO b):HFn Tryz.prog 162 [otH a,otH b] (.v (.int .i64 (cmpO a b))):=by
 have h1:=zED a.mem b.mem ha.mem hb.mem
 have h2:=zED a.regs b.regs ha.regs hb.regs
 have h3:=yBk [cmpL a.mem b.mem,cmpL a.regs b.regs] (by simp)
 rw[zZr] at h3
 generalize cmpL a.mem b.mem=x at h1 h3
 generalize cmpL a.regs b.regs=y at h2 h3
 generalize cmpO a b=z at h3
 refine zB (fn:=Tryz.f162) 21 [4] (by kernel_rfl) rfl (by kernel_rfl) (HW.run 400 (by kernel_rfl) ?_)
 simp +decide only[go_sem,nT,nA,nS,nM,nB,reduceIte,reduceCtorEq]
 refine HW.tree 1 (.light 0 (.light 1 (.light 2 (.light 3 (.light 4 (.light 5 (.light 7 (.light 8 (.light 9 (.light 10 (.light 11 (.light 12 (.heavy 6 [7,8,9,10,11,12] (.heavy 13 [] (.heavy 14 [] (.heavy 15 [] (.light 16 .leaf) .stop) .stop) .stop) .stop))))))))))))) follows (by kernel_rfl) (by kernel_rfl) ?_
 simp +decide only[go_sem,nT,nA,nS,nM,nB,reduceIte,reduceCtorEq]
 refine zD (h1) rfl rfl ?_
 simp +decide only[go_sem,nT,nA,nS,nM,nB,reduceIte,reduceCtorEq]
 refine zD (h2) rfl rfl ?_
 simp +decide only[go_sem,nT,nA,nS,nM,nB,reduceIte,reduceCtorEq]
 refine zJ 3 h3 (by simp only[go_sem];rfl) rfl ?_
 simp +decide only[go_sem,nT,nA,nS,nM,nB,reduceIte,reduceCtorEq]
theorem zKW (a b:Ot) (ha:SmallO a) (hb:SmallO b):HFn Tryz.prog 135 [otH a,otH b] (.v (.int .i64 (cmpO a b))):=by
 refine zB (fn:=Tryz.f135) 10 [4] (by kernel_rfl) rfl (by kernel_rfl) (HW.run 400 (by kernel_rfl) ?_)
 simp +decide only[go_sem,nT,nA,nS,nM,nB,reduceIte,reduceCtorEq]
 refine zD (zO3 a b ha hb) rfl rfl ?_
 simp +decide only[go_sem,nT,nA,nS,nM,nB,reduceIte,reduceCtorEq]
theorem z1u (a b:Ot):decide (cmpO a b<0)=zB3 a b:=by
 rw[Bool.eq_iff_iff,decide_eq_true_iff,zO5]
theorem zSi (a b:Ot) (ha:SmallO a) (hb:SmallO b):HFn Tryz.prog 132 [.ic 168 (otH a),otH b] (.v (.bool (zB3 a b))):=by
 have he:=zO3 a b ha hb
 rw[←z1u]
 generalize cmpO a b=z at he
 refine zB (fn:=Tryz.f132) 9 [4] (by kernel_rfl) rfl (by kernel_rfl) (HW.run 400 (by kernel_rfl) ?_)
 simp +decide only[go_sem,nT,nA,nS,nM,nB,reduceIte,reduceCtorEq]
 refine zD (he) rfl rfl ?_
 rcases tfE' (z<0) with ⟨d,c⟩ | ⟨d,c⟩
 ·simp +decide only[go_sem,nT,nA,nS,nM,nB,reduceIte,reduceCtorEq,c]
 ·simp +decide only[go_sem,nT,nA,nS,nM,nB,reduceIte,reduceCtorEq,c]
theorem zIk (a b:Ot) (ha:SmallO a) (hb:SmallO b):HFn Tryz.prog 103 [otH a,otH b] (.v (.bool (zB3 a b))):=by
 refine zB (fn:=Tryz.f103) 11 [4] (by kernel_rfl) rfl (by kernel_rfl) (HW.run 400 (by kernel_rfl) ?_)
 simp +decide only[go_sem,nT,nA,nS,nM,nB,reduceIte,reduceCtorEq]
 refine zD (zSi a b ha hb) rfl rfl ?_
 simp +decide only[go_sem,nT,nA,nS,nM,nB,reduceIte,reduceCtorEq]
theorem zRt {l:List Ot}:∀{i:Nat} {x y:Ot},l[i]?=some x→l[i+1]?=some y→setO (l.drop i)=(zB3 x y && setO (l.drop (i+1))):=by
 intro i x y hx hy
 have h1:l.drop i=x::l.drop (i+1):=by
  obtain ⟨h,e⟩:=List.getElem?_eq_some_iff.1 hx
  rw[←e];exact List.drop_eq_getElem_cons h
 have h2:l.drop (i+1)=y::l.drop (i+2):=by
  obtain ⟨h,e⟩:=List.getElem?_eq_some_iff.1 hy
  rw[←e];exact List.drop_eq_getElem_cons h
 rw[h1,h2,setO]
set_option maxHeartbeats 4000000 in
theorem zSg (l:List Ot) (hl:l.length≤1000000) (ho:∀o∈l,SmallO o):HFn Tryz.prog 67 [.sl (ots l)] (.v (.bool (setO l))):=by
 refine zB (fn:=Tryz.f67) 21 [2] (by kernel_rfl) rfl (by kernel_rfl) (HW.run 400 (by kernel_rfl) ?_)
 simp +decide only[go_sem,nT,nA,nS,nM,nB,reduceIte,reduceCtorEq]
 refine HW.loopG (fun k T H=>∃i:Nat,k=l.length-i∧i≤l.length+1∧1≤i∧setO l=setO (l.drop (i-1))∧T 0=.sl (ots l)∧T 3=.v (.int .i64 i)∧H=[]) (l.length-1) ⟨_,_,Ghost.refl,1,rfl,by omega,by omega,rfl,rfl,rfl,rfl⟩ ?_
 rintro k T H ⟨i,rfl,hil,hi1,hI,h0,h3,rfl⟩
 refine HW.run 200 (by kernel_rfl) ?_
 by_cases hlt:i<l.length
 ·have hlt' : ((i:Int)<(l.length:Int))=True:=by simp only[eq_iff_iff,iff_true];omega
  have w1:IntKind.i64.wrap ((i:Int)-1)=((i-1:Nat):Int):=by rw[w64 (by omega) (by omega)];omega
  have hlt2:(((i-1:Nat):Int)<(l.length:Int))=True:=by simp only[eq_iff_iff,iff_true];omega
  have hx:l[i]?=some l[i]:=List.getElem?_eq_getElem hlt
  have hy:l[i-1]?=some (l[i-1]'(by omega)):=List.getElem?_eq_getElem (by omega)
  have ho1:=ho _ (List.getElem_mem hlt)
  have ho2:=ho _ (List.getElem_mem (by omega:i-1<l.length))
  generalize l[i]=x at hx ho1
  generalize l[i-1]'(by omega)=y at hy ho2
  have hs:=zRt hy (by rw[show i-1+1=i by omega];exact hx)
  rw[show i-1+1=i by omega] at hs
  rw[hs] at hI
  have hL:=zIk y x ho2 ho1
  simp +decide only[go_sem,nT,nA,nS,nM,nB,reduceIte,reduceCtorEq,h0,h3,hlt']
  refine HW.tree 1 (.light 0 (.light 1 (.light 2 (.light 3 (.light 4 (.light 5 (.light 6 (.light 7 (.light 8 (.heavy 9 [] (.light 10 .leaf) .stop)))))))))) follows (by kernel_rfl) (by kernel_rfl) ?_
  simp +decide only[go_sem,nT,nA,nS,nM,nB,reduceIte,reduceCtorEq,h0,h3,hlt',w1,hlt2,hx,hy]
  refine zD (hL) rfl rfl ?_
  cases hb:zB3 y x with
  | true =>
   rw[hb,Bool.true_and] at hI
   simp +decide only[go_sem,nT,nA,nS,nM,nB,reduceIte,reduceCtorEq,h0,h3]
   refine ⟨_,_,Ghost.refl,l.length-(i+1),by omega,i+1,rfl,by omega,by omega,by rw[hI,Nat.add_sub_cancel],?_,?_,rfl⟩
   all_goals first | (simp +decide only[go_sem,nB,reduceIte,h0];done) | (simp +decide only[go_sem,nB,reduceIte];rw[w64 (by omega) (by omega)];rfl)
  | false =>
   rw[hb,Bool.false_and] at hI
   rw[hI]
   simp +decide only[go_sem,nT,nA,nS,nM,nB,reduceIte,reduceCtorEq,h0,h3]
 ·have hlt' : ((i:Int)<(l.length:Int))=False:=by simp only[eq_iff_iff,iff_false];omega
  have:setO l=true:=by
   rw[hI]
   have hlen:(l.drop (i-1)).length≤1:=by simp;omega
   match hd:l.drop (i-1),hlen with
   | [],_=>rfl
   | [_],_=>rfl
   | _::_::_,h=>simp at h
  rw[this]
  simp +decide only[go_sem,nT,nA,nS,nM,nB,reduceIte,reduceCtorEq,h0,h3,hlt']
end Go.Proofs.YtoknohandclcbaaGreat
namespace Go.Proofs.YtoknohandclcbaaGreat
open Go.RowKit
set_option maxRecDepth 8000
theorem zKG (p:Prg) (s:Sta) (k:Pck) (hp:RightP p) (hs:RightS p s) (hb:∀t∈s.ths,t.buf.length≤100000):HFn Tryz.prog 195 [staH s,pckH k,zGS p] (.tu [staH (zAS p s k false).1,.v (.bool (zAS p s k false).2)]):=by
 have hst:HFn Tryz.prog 158 [prgH p,staH s,.v (.int .i64 k.th)] (.tu [staH (zCr p s k.th).1,.v (.bool (zCr p s k.th).2)]):=HFn.shut (zYl p s k.th hp hs hb) (by simp only[fzo,fzoL,zAZ,zCL])
 have e:zAS p s k false=if k.dr=true then (s,false) else zCr p s k.th:=by unfold zAS;rw[if_neg (by simp)]
 rw[e]
 generalize zCr p s k.th=z at hst
 obtain ⟨s',ok⟩:=z
 refine zV (fn:=Tryz.f195) 17 [.cell 5 79,.tmp 6] (by kernel_rfl) rfl rfl (by kernel_rfl) (HW.run 400 (by kernel_rfl) ?_)
 cases hd:k.dr with
 | true =>
  simp +decide only[go_sem,nT,nA,nS,nM,nB,reduceIte,reduceCtorEq,hd]
 | false =>
  simp +decide only[go_sem,nT,nA,nS,nM,nB,reduceIte,reduceCtorEq,hd]
  refine zD (hst) rfl rfl ?_
  simp +decide only[go_sem,nT,nA,nS,nM,nB,reduceIte,reduceCtorEq,hd]
theorem zWC (p:Prg) (s:Sta) (k:Pck) (hp:RightP p) (hs:RightS p s) (hb:∀t∈s.ths,t.buf.length≤100000):HFn Tryz.prog 196 [staH s,pckH k,zGS p] (.tu [staH (zAS p s k true).1,.v (.bool (zAS p s k true).2)]):=by
 have e:zAS p s k true=zQ p s k:=by unfold zAS;rw[if_pos rfl]
 rw[e]
 exact zPW p s k hp hs hb
set_option maxHeartbeats 4000000 in
theorem zZZ (p:Prg) (l:List Pck) (weak:Bool) (f:Nat) (hp:RightP p) (hl:l.length≤100000) (hlt:f<4294967296)
  (hF:∀s k,RightS p s→(∀t∈s.ths,t.buf.length≤100000)→HFn Tryz.prog f [staH s,pckH k,zGS p] (.tu [staH (zAS p s k weak).1,.v (.bool (zAS p s k weak).2)])) :
  HFn Tryz.prog 165 [prgH p,.sl (pcks l),.fn f [zGS p],.fn 166 []]
  (.tu [staH (runF (fun s k=>zAS p s k weak) (zI p) l).1,.v (.int .i64 ((runF (fun s k=>zAS p s k weak) (zI p) l).2.1:Nat)),.v (.bool (runF (fun s k=>zAS p s k weak) (zI p) l).2.2)]):=by
 refine zAk (fn:=Tryz.f165) 3 45 [.cell 8 79,.tmp 9,.tmp 10] (by kernel_rfl) rfl rfl (by kernel_rfl) (HW.run 400 (by kernel_rfl) ?_)
 simp +decide only[go_sem,nT,nA,nS,nM,nB,reduceIte,reduceCtorEq]
 refine zD (zRv p (by have:=hp.thr;omega) (by have:=hp.init;omega)) rfl rfl ?_
 generalize hR:runF (fun s k=>zAS p s k weak) (zI p) l=R
 simp +decide only[go_sem,nT,nA,nS,nM,nB,reduceIte,reduceCtorEq]
 refine HW.loopG (fun k T H=>∃(i:Nat) (s:Sta),k=l.length-i∧i≤l.length∧RightS p s∧Few s i∧R=((runF (fun s k=>zAS p s k weak) s (l.drop i)).1,i+(runF (fun s k=>zAS p s k weak) s (l.drop i)).2.1,(runF (fun s k=>zAS p s k weak) s (l.drop i)).2.2)∧
  T 1=.sl (pcks l)∧T 2=.fn f [zGS p]∧T 3=.fn 166 []∧T 8=.pt 1 1 0 0∧T 11=.pt 2 1 0 0∧T 18=.sl (pcks l)∧T 19=.v (.int .i64 l.length)∧T 20=.v (.int .i64 i)∧
  H=[some ⟨25,2,[[.sl (ints p.init),.sl (thrs p.thr)]]⟩,some ⟨79,2,[[.v (.slice none 0 0),.v (.slice none 0 0)]]⟩,some ⟨79,2,[[.sl (ints s.mem),.sl (thds s.ths)]]⟩]) l.length
  ⟨_,_,Ghost.refl,0,zI p,rfl,by omega,zAy,zL7,?_,rfl,rfl,rfl,rfl,rfl,rfl,rfl,rfl,?_⟩ ?_
 ·rw[List.drop_zero,hR];simp
 ·rfl
 rintro k T H ⟨i,s,rfl,hi,hs,hf,hRi,h1,h2,h3,h8,h11,h18,h19,h20,rfl⟩
 refine HW.run 200 (by kernel_rfl) ?_
 by_cases hlt:i<l.length
 ·have hlt' : ((i:Int)<(l.length:Int))=True:=by rw[zR];simp[hlt]
  have hx:l[i]?=some l[i]:=List.getElem?_eq_getElem hlt
  have hdr:l.drop i=l[i]::l.drop (i+1):=List.drop_eq_getElem_cons hlt
  generalize l[i]=x at hx hdr
  rw[hdr] at hRi
  have hr':=zDc (k:=x) (weak:=weak) hp hs
  have hf':=zJs (p:=p) (k:=x) (weak:=weak) hf
  have hst:=hF s x hs (fun t ht=>by have:=hf t ht;omega)
  have hst' : HFn Tryz.prog (fnF f) (fnA f .any [staH s,pckH x] [zGS p]) (.tu [staH (zAS p s x weak).1,.v (.bool (zAS p s x weak).2)]):=by
   rw[zGb (by assumption),zFV (by assumption)];exact hst
  have hnm:nmL 0 (fnA f .any [staH s,pckH x] [zGS p])=true:=by
   rw[zFV (by assumption)];simp only[List.cons_append,List.nil_append,nmL,nm,zET,zNo,zNn,Bool.and_self,nmR]
  simp only[runF] at hRi
  simp +decide only[go_sem,nT,nA,nS,nM,nB,reduceIte,reduceCtorEq,h1,h2,h3,h8,h11,h18,h19,h20,hlt',hx]
  refine zD hst' rfl hnm ?_
  generalize zAS p s x weak=z at hRi hr' hf'⊢
  obtain ⟨s',ok⟩:=z
  simp only at hRi hr' hf'
  cases ok with
  | true =>
   rw[if_pos rfl] at hRi
   simp +decide only[go_sem,nT,nA,nS,nM,nB,reduceIte,reduceCtorEq,h1,h2,h3,h8,h11,h18,h19,h20,hlt',hx]
   refine zD (zZY s x) rfl rfl ?_
   simp +decide only[go_sem,nT,nA,nS,nM,nB,reduceIte,reduceCtorEq,h1,h2,h3,h8,h11,h18,h19,h20,hlt',hx]
   refine ⟨_,_,Ghost.trunc [1,2,3,8,11,18,19,20] 3 (by omega) ?_ ?_,l.length-(i+1),by omega,i+1,s',rfl,by omega,hr',hf',?_,?_,?_,?_,?_,?_,?_,?_,?_,?_⟩
   ·simp +decide only[go_sem,nB,reduceIte,h1,h2,h3,h8,h11,h18,h19]
   ·simp +decide only[go_sem,nB,reduceIte]
   ·rw[hRi];simp only[Prod.mk.injEq,true_and,and_true];omega
   iterate 7 simp +decide only[go_sem,nB,reduceIte,h1,h2,h3,h8,h11,h18,h19]
   ·simp +decide only[go_sem,nB,reduceIte];rw[w64 (by omega) (by omega)];rfl
   ·simp +decide only[go_sem,nT,nA,nS,nM,nB,reduceIte,reduceCtorEq]
  | false =>
   rw[if_neg (by simp)] at hRi
   subst hRi
   simp +decide only[go_sem,nT,nA,nS,nM,nB,reduceIte,reduceCtorEq,h1,h2,h3,h8,h11,h18,h19,h20,hlt',hx]
 ·have hlt' : ((i:Int)<(l.length:Int))=False:=by rw[zR];simp[hlt]
  have e:i=l.length:=by omega
  subst e
  rw[List.drop_length] at hRi
  simp only[runF,Nat.add_zero] at hRi
  subst hRi
  simp +decide only[go_sem,nT,nA,nS,nM,nB,reduceIte,reduceCtorEq,h1,h2,h3,h8,h11,h18,h19,h20,hlt']
theorem zMR (p:Prg):HFn Tryz.prog 163 [prgH p] (.fn 195 [zGS p]):=by
 refine HFn.shut (R:=.fn 195 [.bx 25 2 [.sl (ints p.init),.sl (thrs p.thr)]]) ?_ (by simp only[fzo,fzoL,fzoR,zAZ,zFo])
 refine zB (fn:=Tryz.f163) 4 [2] (by kernel_rfl) rfl (by kernel_rfl) (HW.run 400 (by kernel_rfl) ?_)
 simp +decide only[go_sem,nT,nA,nS,nM,nB,reduceIte,reduceCtorEq]
theorem zRz (p:Prg):HFn Tryz.prog 164 [prgH p] (.fn 196 [zGS p]):=by
 refine HFn.shut (R:=.fn 196 [.bx 25 2 [.sl (ints p.init),.sl (thrs p.thr)]]) ?_ (by simp only[fzo,fzoL,fzoR,zAZ,zFo])
 refine zB (fn:=Tryz.f164) 4 [2] (by kernel_rfl) rfl (by kernel_rfl) (HW.run 400 (by kernel_rfl) ?_)
 simp +decide only[go_sem,nT,nA,nS,nM,nB,reduceIte,reduceCtorEq]
theorem z2e (p:Prg) (l:List Pck) (weak:Bool) (hp:RightP p) (hl:l.length≤100000) :
  HFn Tryz.prog 136 [prgH p,.sl (pcks l),.v (.bool weak)]
  (.tu [staH (runF (fun s k=>zAS p s k weak) (zI p) l).1,.v (.int .i64 ((runF (fun s k=>zAS p s k weak) (zI p) l).2.1:Nat)),.v (.bool (runF (fun s k=>zAS p s k weak) (zI p) l).2.2)]):=by
 have hg:HFn Tryz.prog 165 [prgH p,.sl (pcks l),.fn (if weak=true then 196 else 195) [zGS p],.fn 166 []] _ :=
  zZZ p l weak (if weak=true then 196 else 195) hp hl (by split <;> decide) (fun s k hs hb=>by
   cases weak with
   | true=>exact zWC p s k hp hs hb
   | false=>exact zKG p s k hp hs hb)
 generalize runF (fun s k=>zAS p s k weak) (zI p) l=R at hg
 refine zAk (fn:=Tryz.f136) 3 22 [.cell 6 79,.tmp 7,.tmp 8] (by kernel_rfl) rfl rfl (by kernel_rfl) (HW.run 400 (by kernel_rfl) ?_)
 simp +decide only[go_sem,nT,nA,nS,nM,nB,reduceIte,reduceCtorEq]
 refine zD (zMR p) rfl rfl ?_
 cases weak with
 | true =>
  rw[if_pos rfl] at hg
  simp +decide only[go_sem,nT,nA,nS,nM,nB,reduceIte,reduceCtorEq]
  refine zD (zRz p) rfl rfl ?_
  simp +decide only[go_sem,nT,nA,nS,nM,nB,reduceIte,reduceCtorEq]
  refine zD (hg) rfl rfl ?_
  simp +decide only[go_sem,nT,nA,nS,nM,nB,reduceIte,reduceCtorEq]
 | false =>
  rw[if_neg (by simp)] at hg
  simp +decide only[go_sem,nT,nA,nS,nM,nB,reduceIte,reduceCtorEq]
  refine zD (hg) rfl rfl ?_
  simp +decide only[go_sem,nT,nA,nS,nM,nB,reduceIte,reduceCtorEq]
theorem zWn {p:Prg} {s:Sta} (hs:RightS p s) {i:Nat} {y:Thd} {l:List Stp} (hx:s.ths[i]?=some y) (hy:p.thr[i]?=some l):(y.pc<l.length)=(¬y.pc=l.length):=by
 have:=(hs.t i l y hy hx).pc
 simp only[eq_iff_iff];omega
set_option maxHeartbeats 4000000 in
theorem zZX (p:Prg) (s:Sta) (hp:RightP p) (hs:RightS p s):HFn Tryz.prog 137 [prgH p,staH s] (.v (.bool (zBM p s))):=by
 refine zB (fn:=Tryz.f137) 31 [4] (by kernel_rfl) rfl (by kernel_rfl) (HW.run 400 (by kernel_rfl) ?_)
 simp +decide only[go_sem,nT,nA,nS,nM,nB,reduceIte,reduceCtorEq]
 have htl:s.ths.length≤1000:=by have:=hs.ths;have:=hp.thr;omega
 have hlen:=hs.ths
 refine HW.loopG (fun k T H=>∃i:Nat,k=s.ths.length-i∧i≤s.ths.length∧(∀j,j<i→overT p s j=true)∧T 2=.pt 0 1 0 0∧T 3=.pt 1 1 0 0∧T 8=.sl (thds s.ths)∧T 9=.v (.int .i64 s.ths.length)∧T 10=.v (.int .i64 i)∧H=[some ⟨25,2,[[.sl (ints p.init),.sl (thrs p.thr)]]⟩,some ⟨79,2,[[.sl (ints s.mem),.sl (thds s.ths)]]⟩]) s.ths.length ⟨_,_,Ghost.refl,0,rfl,by omega,by simp,rfl,rfl,rfl,rfl,rfl,rfl⟩ ?_
 rintro k T H ⟨i,rfl,hi,hno,h2,h3,h8,h9,h10,rfl⟩
 refine HW.run 200 (by kernel_rfl) ?_
 by_cases hlt:i<s.ths.length
 ·have hlt' : ((i:Int)<(s.ths.length:Int))=True:=by rw[zR];simp[hlt]
  have hlt2:((i:Int)<(p.thr.length:Int))=True:=by rw[zR,←hlen];simp[hlt]
  have hx:s.ths[i]?=some s.ths[i]:=List.getElem?_eq_getElem hlt
  have hy:p.thr[i]?=some (p.thr[i]'(by omega)):=List.getElem?_eq_getElem (by omega)
  generalize s.ths[i]=y at hx
  generalize p.thr[i]'(by omega)=l at hy
  have ho:overT p s i=(decide (y.pc=l.length) && y.buf.isEmpty):=by unfold overT;rw[hx,hy]
  have hpc:=zWn hs hx hy
  simp +decide only[go_sem,nT,nA,nS,nM,nB,reduceIte,reduceCtorEq,h2,h3,h8,h9,h10,hlt',hx]
  refine HW.tree 1 (.light 0 (.light 1 (.light 2 (.light 3 (.light 4 (.light 5 (.light 6 (.light 7 (.light 8 (.light 9 (.light 10 (.light 11 (.light 12 (.light 13 (.light 14 .leaf))))))))))))))) follows (by kernel_rfl) (by kernel_rfl) ?_
  by_cases c1:y.pc=l.length
  ·have c1' : (y.pc<l.length)=False:=by rw[hpc];simp[c1]
   by_cases c2:y.buf=[]
   ·have b0:((0:Int)<(y.buf.length:Int))=False:=by rw[c2];simp
    simp +decide only[go_sem,nT,nA,nS,nM,nB,reduceIte,reduceCtorEq,h2,h3,h8,h9,h10,hlt',hlt2,hx,hy,c1',b0]
    refine ⟨_,_,Ghost.trunc [2,3,8,9,10] 2 (by omega) ?_ ?_,s.ths.length-(i+1),by omega,i+1,rfl,by omega,?_,?_,?_,?_,?_,?_,?_⟩
    ·simp +decide only[go_sem,nB,reduceIte,h2,h3,h8,h9]
    ·simp +decide only[go_sem,nB,reduceIte]
    ·intro j hj
     rcases Nat.lt_or_ge j i with h | h
     ·exact hno j h
     ·obtain rfl:j=i:=by omega
      rw[ho,c2];simp[c1]
    all_goals first | (simp +decide only[go_sem,nB,reduceIte,h2,h3,h8,h9];done) | (simp +decide only[go_sem,nB,reduceIte];rw[w64 (by omega) (by omega)];rfl) | (simp +decide only[go_sem,nT,nA,nS,nM,nB,reduceIte,reduceCtorEq];done)
   ·have b0:((0:Int)<(y.buf.length:Int))=True:=by
     have:=List.length_pos_iff.mpr c2
     simp only[eq_iff_iff,iff_true];omega
    simp +decide only[go_sem,nT,nA,nS,nM,nB,reduceIte,reduceCtorEq,h2,h3,h8,h9,h10,hlt',hlt2,hx,hy,c1',b0]
    have:zBM p s=false:=by
     unfold zBM
     rw[List.all_eq_false]
     exact ⟨i,by simpa using hlt,by rw[ho];simp[c2]⟩
    exact vb this.symm
  ·have c1' : (y.pc<l.length)=True:=by rw[hpc];simp[c1]
   simp +decide only[go_sem,nT,nA,nS,nM,nB,reduceIte,reduceCtorEq,h2,h3,h8,h9,h10,hlt',hlt2,hx,hy,c1']
   have:zBM p s=false:=by
    unfold zBM
    rw[List.all_eq_false]
    exact ⟨i,by simpa using hlt,by rw[ho];simp[c1]⟩
   exact vb this.symm
 ·have hlt' : ((i:Int)<(s.ths.length:Int))=False:=by rw[zR];simp[hlt]
  have:zBM p s=true:=by
   unfold zBM
   rw[List.all_eq_true]
   intro j hj
   exact hno j (by simp at hj;omega)
  simp +decide only[go_sem,nT,nA,nS,nM,nB,reduceIte,reduceCtorEq,h2,h3,h8,h9,h10,hlt']
  exact vb this.symm
set_option maxHeartbeats 4000000 in
theorem z2f (s:Sta) (hm:s.mem.length≤100000) (ht:s.ths.length≤1000) (hr:∀t∈s.ths,t.regs.length≤1000):HFn Tryz.prog 138 [staH s] (.ag [.ow 3 1 (ints s.mem),.ow 3 1 (ints (zF6 s))]):=by
 refine zV (fn:=Tryz.f138) 25 [.cell 2 44] (by kernel_rfl) rfl rfl (by kernel_rfl) (HW.weaken (Q':=fun e=>GQ _ _ (endC _ _ _ _ e)) (HW.run 400 (by kernel_rfl) ?_) (fun _ _ _ h=>h))
 simp +decide only[go_sem,nT,nA,nS,nM,nB,reduceIte,reduceCtorEq]
 refine zD (zAj s.mem (by omega)) rfl rfl ?_
 simp +decide only[go_sem,nT,nA,nS,nM,nB,reduceIte,reduceCtorEq]
 repeat (with_reducible refine And.intro ?_ ?_;·(with_reducible and_intros) <;> omega)
 have hfl:∀i,((s.ths.take i).flatMap (·.regs)).length≤1000*i:=by
  intro i
  induction i with
  | zero=>simp
  | succ i ih =>
   rw[List.take_add_one,List.flatMap_append,List.length_append]
   cases hx:s.ths[i]? with
   | none=>simp only[Option.toList_none,List.flatMap_nil,List.length_nil];omega
   | some x=>have:=hr x (List.mem_of_getElem? hx);simp only[Option.toList_some,List.flatMap_cons,List.flatMap_nil,List.append_nil];omega
 refine HW.loopG (fun k T H=>∃i:Nat,k=s.ths.length-i∧i≤s.ths.length∧T 2=.pt 1 1 0 0∧T 3=.pt 3 1 0 0∧T 11=.sl (thds s.ths)∧T 12=.v (.int .i64 s.ths.length)∧T 13=.v (.int .i64 i)∧
  H=[some ⟨79,2,[[.sl (ints s.mem),.sl (thds s.ths)]]⟩,some ⟨44,2,[[.v (.slice none 0 0),.v (.slice none 0 0)]]⟩,some ⟨3,1,ints s.mem⟩,some ⟨44,2,[[.hd 2 0 s.mem.length,.hd 4 0 ((s.ths.take i).flatMap (·.regs)).length]]⟩,some ⟨3,1,ints ((s.ths.take i).flatMap (·.regs))⟩]) s.ths.length
  ⟨_,_,(Ghost.cell 3 0 1 (.ow 3 1 []) rfl rfl rfl rfl (Conv.nilOw _ _) (by simp)).trans (Ghost.open 3 0 1),0,rfl,by omega,rfl,rfl,rfl,?_,rfl,?_⟩ ?_
 ·simp +decide only[go_sem,nT,nA,nS,nM,nB,reduceIte,reduceCtorEq]
 ·simp +decide only[go_sem,nT,nA,nS,nM,nB,reduceIte,reduceCtorEq]
  rfl
 rintro k T H ⟨i,rfl,hi,h2,h3,h11,h12,h13,rfl⟩
 refine HW.run 200 (by kernel_rfl) ?_
 have hfi:=hfl i
 by_cases hlt:i<s.ths.length
 ·have hlt' : ((i:Int)<(s.ths.length:Int))=True:=by rw[zR];simp[hlt]
  have hx:s.ths[i]?=some s.ths[i]:=List.getElem?_eq_getElem hlt
  have hxr:=hr _ (List.getElem_mem hlt)
  have htk:(s.ths.take (i+1)).flatMap (·.regs)=(s.ths.take i).flatMap (·.regs)++(s.ths[i]).regs:=by rw[List.take_add_one,hx,List.flatMap_append];simp
  generalize s.ths[i]=x at hx hxr htk
  generalize (s.ths.take i).flatMap (·.regs)=o at hfi htk⊢
  simp +decide only[go_sem,nT,nA,nS,nM,nB,reduceIte,reduceCtorEq,h2,h3,h11,h12,h13,hlt',hx]
  repeat (with_reducible refine And.intro ?_ ?_;·(with_reducible and_intros) <;> omega)
  refine ⟨_,_,Ghost.trunc [2,3,11,12,13] 5 (by omega) ?_ ?_,s.ths.length-(i+1),by omega,i+1,rfl,by omega,?_,?_,?_,?_,?_,?_⟩
  all_goals first | (simp +decide only[go_sem,nB,reduceIte,h2,h3,h11,h12];done) | (simp +decide only[go_sem,nB,reduceIte];rw[w64 (by omega) (by omega)];rfl) | (simp +decide only[go_sem,nT,nA,nS,nM,nB,reduceIte,reduceCtorEq,htk,List.length_append];done)
 ·have hlt' : ((i:Int)<(s.ths.length:Int))=False:=by rw[zR];simp[hlt]
  have e:s.ths.take i=s.ths:=List.take_of_length_le (by omega)
  simp +decide only[go_sem,nT,nA,nS,nM,nB,reduceIte,reduceCtorEq,h2,h3,h11,h12,h13,hlt',e]
  refine GQ.done ?_
  simp +decide only[go_sem,nT,nA,nS,nM,nB,reduceIte,reduceCtorEq,h2]
  try rfl
def zYN (p:Prg) (l:List Pck) (weak:Bool):Option Ot:=if ((runF (fun s k=>zAS p s k weak) (zI p) l).2.2 && zBM p (runF (fun s k=>zAS p s k weak) (zI p) l).1)=true then some ⟨(runF (fun s k=>zAS p s k weak) (zI p) l).1.mem,zF6 (runF (fun s k=>zAS p s k weak) (zI p) l).1⟩ else none
theorem zDI {p:Prg} {weak:Bool} (hp:RightP p):∀(l:List Pck) (s:Sta),RightS p s→RightS p (runF (fun s k=>zAS p s k weak) s l).1
 | [],s,hs=>hs
 | k::l,s,hs=>by
  unfold runF
  split
  ·exact zDI hp l _ (zDc hp hs)
  ·exact hs
theorem zEo {p:Prg} {s:Sta} (hs:RightS p s):∀t∈s.ths,t.regs.length≤1000:=fun t ht=>by
 obtain ⟨i,hi⟩:=List.getElem?_of_mem ht
 have hil:=(List.getElem?_eq_some_iff.1 hi).1
 have hl:=hs.ths
 have:=(hs.t i _ t (List.getElem?_eq_getElem (by omega)) hi).regs
 omega
def endR:Option Ot→HV
 | none=>.tu [.ag [.v (.slice none 0 0),.v (.slice none 0 0)],.v (.bool false)]
 | some o=>.tu [otH o,.v (.bool true)]
theorem zZ0 (p:Prg) (l:List Pck) (weak:Bool) (hp:RightP p) (hl:l.length≤100000) :
  HFn Tryz.prog 108 [prgH p,.sl (pcks l),.v (.bool weak)] (endR (zYN p l weak)):=by
 have hR:=z2e p l weak hp hl
 have hrs:=zDI (weak:=weak) hp l (zI p) zAy
 unfold zYN
 generalize runF (fun s k=>zAS p s k weak) (zI p) l=R at hR hrs
 obtain ⟨s,n,ok⟩:=R
 simp only at hrs hR
 have hO:=zZX p s hp hrs
 have hE:HFn Tryz.prog 138 [staH s] (otH ⟨s.mem,zF6 s⟩):=HFn.shut (z2f s (by have:=hrs.mem;have:=hp.init;omega) (by have:=hrs.ths;have:=hp.thr;omega) (zEo hrs)) (by simp only[fzo,fzoL,zAZ])
 generalize zBM p s=ov at hO
 have hne:HV.tu [.ag [.v (.slice none 0 0),.v (.slice none 0 0)],.v (.bool false)]=endR none:=rfl
 refine zAk (fn:=Tryz.f108) 3 30 [.cell 6 44,.tmp 7] (by kernel_rfl) rfl rfl (by kernel_rfl) (HW.run 400 (by kernel_rfl) ?_)
 simp +decide only[go_sem,nT,nA,nS,nM,nB,reduceIte,reduceCtorEq]
 refine zD (hR) rfl rfl ?_
 cases ok with
 | false =>
  rw[Bool.false_and,if_neg (by simp)]
  simp +decide only[go_sem,nT,nA,nS,nM,nB,reduceIte,reduceCtorEq]
  rfl
 | true =>
  simp +decide only[go_sem,nT,nA,nS,nM,nB,reduceIte,reduceCtorEq]
  refine zD (hO) rfl rfl ?_
  cases ov with
  | false =>
   simp +decide only[go_sem,nT,nA,nS,nM,nB,reduceIte,reduceCtorEq]
   rfl
  | true =>
   simp +decide only[go_sem,nT,nA,nS,nM,nB,reduceIte,reduceCtorEq]
   refine zD (hE) rfl rfl ?_
   simp +decide only[go_sem,nT,nA,nS,nM,nB,reduceIte,reduceCtorEq]
   rfl
end Go.Proofs.YtoknohandclcbaaGreat
namespace Go.Proofs.YtoknohandclcbaaGreat
open Go.RowKit
set_option maxRecDepth 8000
theorem zZf (p:Prg) (l:List Pck) (weak:Bool) (hp:RightP p) (hl:l.length≤100000) :
  HFn Tryz.prog 19 [prgH p,.sl (pcks l),.v (.bool weak)] (endR (zYN p l weak)):=by
 have hR:=z2l p l weak hp hl
 have hrs:=zDI (weak:=weak) hp l (zI p) zAy
 unfold zYN
 generalize runF (fun s k=>zAS p s k weak) (zI p) l=R at hR hrs
 obtain ⟨s,n,ok⟩:=R
 simp only at hrs hR
 have hO:=zZc p s hp hrs
 have hE:HFn Tryz.prog 50 [staH s] (otH ⟨s.mem,zF6 s⟩):=HFn.shut (z2m s (by have:=hrs.mem;have:=hp.init;omega) (by have:=hrs.ths;have:=hp.thr;omega) (zEo hrs)) (by simp only[fzo,fzoL,zAZ])
 generalize zBM p s=ov at hO
 refine zAk (fn:=Tryz.f19) 3 30 [.cell 6 44,.tmp 7] (by kernel_rfl) rfl rfl (by kernel_rfl) (HW.run 400 (by kernel_rfl) ?_)
 simp +decide only[go_sem,nT,nA,nS,nM,nB,reduceIte,reduceCtorEq]
 refine zD (hR) rfl rfl ?_
 cases ok with
 | false =>
  rw[Bool.false_and,if_neg (by simp)]
  simp +decide only[go_sem,nT,nA,nS,nM,nB,reduceIte,reduceCtorEq]
  rfl
 | true =>
  simp +decide only[go_sem,nT,nA,nS,nM,nB,reduceIte,reduceCtorEq]
  refine zD (hO) rfl rfl ?_
  cases ov with
  | false =>
   simp +decide only[go_sem,nT,nA,nS,nM,nB,reduceIte,reduceCtorEq]
   rfl
  | true =>
   simp +decide only[go_sem,nT,nA,nS,nM,nB,reduceIte,reduceCtorEq]
   refine zD (hE) rfl rfl ?_
   simp +decide only[go_sem,nT,nA,nS,nM,nB,reduceIte,reduceCtorEq]
   rfl
theorem zP7 (a b:Ot) (ha:SmallO a) (hb:SmallO b):HFn Tryz.prog 53 [otH a,otH b] (.v (.bool (decide (a=b)))):=by
 have h1:=zGL a.mem b.mem (by have:=ha.mem;omega)
 have h2:=zGL a.regs b.regs (by have:=ha.regs;omega)
 have e:decide (a=b)=(decide (a.mem=b.mem) && decide (a.regs=b.regs)):=by
  obtain ⟨am,ar⟩:=a
  obtain ⟨bm,br⟩:=b
  simp
 rw[e]
 generalize decide (a.mem=b.mem)=x at h1
 generalize decide (a.regs=b.regs)=y at h2
 refine zB (fn:=Tryz.f53) 17 [4] (by kernel_rfl) rfl (by kernel_rfl) (HW.run 400 (by kernel_rfl) ?_)
 simp +decide only[go_sem,nT,nA,nS,nM,nB,reduceIte,reduceCtorEq]
 refine zD (h1) rfl rfl ?_
 cases x with
 | false =>
  simp +decide only[go_sem,nT,nA,nS,nM,nB,reduceIte,reduceCtorEq]
  rfl
 | true =>
  simp +decide only[go_sem,nT,nA,nS,nM,nB,reduceIte,reduceCtorEq]
  refine zD (h2) rfl rfl ?_
  simp +decide only[go_sem,nT,nA,nS,nM,nB,reduceIte,reduceCtorEq]
set_option maxHeartbeats 4000000 in
theorem zS1 (l:List Ot) (o:Ot) (hl:l.length≤1000000) (hsl:∀x∈l,SmallO x) (ho:SmallO o):HFn Tryz.prog 21 [.sl (ots l),otH o] (.v (.bool (hasO l o))):=by
 refine zB (fn:=Tryz.f21) 18 [4] (by kernel_rfl) rfl (by kernel_rfl) (HW.run 400 (by kernel_rfl) ?_)
 simp +decide only[go_sem,nT,nA,nS,nM,nB,reduceIte,reduceCtorEq]
 refine HW.loopG (fun k T H=>∃i:Nat,k=l.length-i∧i≤l.length∧o∉l.take i∧T 0=.sl (ots l)∧T 3=.pt 0 1 0 0∧T 5=.v (.int .i64 i)∧H=[some ⟨44,2,[[.sl (ints o.mem),.sl (ints o.regs)]]⟩]) l.length ⟨_,_,Ghost.refl,0,rfl,by omega,by simp,rfl,rfl,rfl,rfl⟩ ?_
 rintro k T H ⟨i,rfl,hi,hno,h0,h3,h5,rfl⟩
 refine HW.run 200 (by kernel_rfl) ?_
 by_cases hlt:i<l.length
 ·have hlt' : ((i:Int)<(l.length:Int))=True:=by simp only[eq_iff_iff,iff_true];omega
  have hx:l[i]?=some l[i]:=List.getElem?_eq_getElem hlt
  have hc:=zP7 _ o (hsl _ (List.getElem_mem hlt)) ho
  generalize l[i]=x at hx hc
  simp +decide only[go_sem,nT,nA,nS,nM,nB,reduceIte,reduceCtorEq,h0,h3,h5,hlt']
  refine HW.tree 1 (.light 0 (.light 1 (.light 2 (.light 3 (.light 4 (.heavy 5 [] .leaf .stop)))))) follows (by kernel_rfl) (by kernel_rfl) ?_
  simp +decide only[go_sem,nT,nA,nS,nM,nB,reduceIte,reduceCtorEq,h0,h3,h5,hlt',hx]
  refine zD (hc) rfl rfl ?_
  by_cases hxo:x=o
  ·rw[show hasO l o=true from decide_eq_true (by rw[←hxo];exact List.mem_of_getElem? hx)]
   have e:decide (x=o)=true:=decide_eq_true hxo
   simp +decide only[go_sem,nT,nA,nS,nM,nB,reduceIte,reduceCtorEq,h0,h3,h5,e]
  ·have e:decide (x=o)=false:=decide_eq_false hxo
   simp +decide only[go_sem,nT,nA,nS,nM,nB,reduceIte,reduceCtorEq,h0,h3,h5,e]
   refine ⟨_,_,Ghost.refl,l.length-(i+1),by omega,i+1,rfl,by omega,?_,?_,?_,?_,rfl⟩
   ·rw[List.take_add_one,hx]
    simp only[Option.toList_some,List.mem_append,List.mem_singleton,not_or]
    exact ⟨hno,fun e=>hxo e.symm⟩
   all_goals first | (simp +decide only[go_sem,nB,reduceIte,h0,h3];done) | (simp +decide only[go_sem,nB,reduceIte];rw[w64 (by omega) (by omega)];rfl)
 ·have hlt' : ((i:Int)<(l.length:Int))=False:=by simp only[eq_iff_iff,iff_false];omega
  rw[List.take_of_length_le (by omega)] at hno
  rw[show hasO l o=false from decide_eq_false hno]
  simp +decide only[go_sem,nT,nA,nS,nM,nB,reduceIte,reduceCtorEq,h0,h3,h5,hlt']
end Go.Proofs.YtoknohandclcbaaGreat
namespace Go.Proofs.YtoknohandclcbaaGreat
open Go.RowKit
set_option maxRecDepth 8000
abbrev z2t (o:Ot):HObj:=⟨44,2,[[.sl (ints o.mem),.sl (ints o.regs)]]⟩
set_option maxHeartbeats 8000000 in
theorem zPj (l:List Ot) (o:Ot) (hl:l.length≤1000000) (hs:SetO l) (hsm:∀x∈l,SmallO x) (ho:SmallO o):HFn Tryz.prog 134 [.sl (ots l),otH o,.fn 135 []] (.tu [.v (.int .i64 (posO l o)),.v (.bool (hasO l o))]):=by
 have hpl:=zZj l o
 have hq1:=fun i x=>zIj (o:=o) hs i x
 have hq2:hasO l o=true↔l[posO l o]?=some o:=zWd hs
 generalize posO l o=q at hpl hq1 hq2
 generalize hasO l o=hb at hq2
 refine zB (fn:=Tryz.f134) 49 [6,7] (by kernel_rfl) rfl (by kernel_rfl) (HW.run 400 (by kernel_rfl) ?_)
 simp +decide only[go_sem,nT,nA,nS,nM,nB,reduceIte,reduceCtorEq]
 refine HW.loopG (fun k T H=>∃lo hi:Nat,k=hi-lo∧lo≤q∧q≤hi∧hi≤l.length∧T 0=.sl (ots l)∧T 2=.fn 135 []∧T 4=.pt 0 1 0 0∧T 8=.v (.int .i64 l.length)∧T 9=.v (.int .i64 lo)∧T 10=.v (.int .i64 hi)∧H=[some (z2t o)]) l.length ⟨_,_,Ghost.refl,0,l.length,rfl,by omega,by omega,by omega,rfl,rfl,rfl,rfl,rfl,rfl,rfl⟩ ?_
 rintro k T H ⟨lo,hi,rfl,h1,h2,h3,h0,hf,h4,h8,h9,h10,rfl⟩
 refine HW.run 200 (by kernel_rfl) ?_
 by_cases hlt:lo<hi
 ·have hlt' : ((lo:Int)<(hi:Int))=True:=by simp only[eq_iff_iff,iff_true];omega
  have hm:(lo+hi) / 2<l.length:=by omega
  have hx:l[(lo+hi) / 2]?=some l[(lo+hi) / 2]:=List.getElem?_eq_getElem hm
  have hxs:=hsm _ (List.getElem_mem hm)
  generalize l[(lo+hi) / 2]=x at hx hxs
  have hp:=zKW x o hxs ho
  have hqx:=hq1 _ x hx
  rw[←zO5] at hqx
  generalize cmpO x o=c at hp hqx
  have w1:IntKind.i64.wrap ((lo:Int)+(hi:Int))=((lo+hi:Nat):Int):=by rw[w64 (by omega) (by omega)];omega
  have w2:IntKind.u64.wrap ((lo+hi:Nat):Int)=((lo+hi:Nat):Int):=IntWalk.u64_in _ ⟨by omega,by omega⟩
  have w3:(((lo+hi:Nat):Int)).fdiv (2 ^ min 1 64)=(((lo+hi) / 2:Nat):Int):=by
   show (((lo+hi:Nat):Int)).fdiv 2=_
   rw[Int.fdiv_eq_ediv_of_nonneg _ (by omega)];omega
  have w4:IntKind.i64.wrap (((lo+hi) / 2:Nat):Int)=(((lo+hi) / 2:Nat):Int):=w64 (by omega) (by omega)
  have w5:IntKind.i64.wrap ((((lo+hi) / 2:Nat):Int)+1)=(((lo+hi) / 2+1:Nat):Int):=by rw[w64 (by omega) (by omega)];omega
  have hmid:(((((lo+hi) / 2:Nat):Int))<(l.length:Int))=True:=by simp only[eq_iff_iff,iff_true];omega
  have hb1:lo≤(lo+hi) / 2:=by omega
  have hb2:(lo+hi) / 2<hi:=by omega
  generalize (lo+hi) / 2=mid at *
  simp +decide only[go_sem,nT,nA,nS,nM,nB,reduceIte,reduceCtorEq,h0,hf,h4,h8,h9,h10,hlt',hx,w1,w2,w3,w4]
  refine HW.tree 1 (.light 0 (.light 1 (.light 2 (.light 3 (.light 4 (.light 5 (.heavy 6 [] (.light 7 .leaf) .stop))))))) follows (by kernel_rfl) (by kernel_rfl) ?_
  simp +decide only[go_sem,nT,nA,nS,nM,nB,reduceIte,reduceCtorEq,h0,hf,h4,h8,h9,h10,hlt',hx,w1,w2,w3,w4,hmid]
  refine zD (hp) rfl rfl ?_
  rcases tfE' (c<0) with ⟨d,e⟩ | ⟨d,e⟩
  ·simp +decide only[go_sem,nT,nA,nS,nM,nB,reduceIte,reduceCtorEq,h0,hf,h4,h8,h9,h10,e,w5]
   refine ⟨_,_,Ghost.refl,hi-(mid+1),by omega,mid+1,hi,rfl,by have:=hqx.1 d;omega,by omega,by omega,?_,?_,?_,?_,?_,?_,rfl⟩
   all_goals first | (simp +decide only[go_sem,nB,reduceIte,h0,hf,h4,h8,h10];done) | rfl
  ·simp +decide only[go_sem,nT,nA,nS,nM,nB,reduceIte,reduceCtorEq,h0,hf,h4,h8,h9,h10,e,w5]
   refine ⟨_,_,Ghost.refl,mid-lo,by omega,lo,mid,rfl,by omega,by have:=fun h=>d (hqx.2 h);omega,by omega,?_,?_,?_,?_,?_,?_,rfl⟩
   all_goals first | (simp +decide only[go_sem,nB,reduceIte,h0,hf,h4,h8,h9];done) | rfl
 ·have hlt' : ((lo:Int)<(hi:Int))=False:=by simp only[eq_iff_iff,iff_false];omega
  obtain rfl:q=lo:=by omega
  by_cases hlb:q<l.length
  ·have hlb' : ((q:Int)<(l.length:Int))=True:=by simp only[eq_iff_iff,iff_true];omega
   have hx:l[q]?=some l[q]:=List.getElem?_eq_getElem hlb
   have hxs:=hsm _ (List.getElem_mem hlb)
   generalize l[q]=x at hx hxs
   have hp:=zKW x o hxs ho
   have hz:cmpO x o=0↔hb=true:=by
    rw[zUm,hq2,hx];simp
   generalize cmpO x o=c at hp hz
   simp +decide only[go_sem,nT,nA,nS,nM,nB,reduceIte,reduceCtorEq,h0,hf,h4,h8,h9,h10,hlt']
   refine HW.tree 1 (.light 0 (.light 1 (.light 2 (.light 3 (.light 4 (.light 5 (.light 6 (.light 7 (.light 8 (.light 9 (.light 10 (.heavy 11 [0] (.light 12 (.light 13 (.light 14 (.light 15 .leaf)))) .stop)))))))))))) follows (by kernel_rfl) (by kernel_rfl) ?_
   simp +decide only[go_sem,nT,nA,nS,nM,nB,reduceIte,reduceCtorEq,h0,hf,h4,h8,h9,h10,hlt',hx,hlb']
   refine zD (hp) rfl rfl ?_
   cases hb with
   | true =>
    have e:(c=0)=True:=by simpa using hz
    simp +decide only[go_sem,nT,nA,nS,nM,nB,reduceIte,reduceCtorEq,h0,hf,h4,h8,h9,h10,e]
   | false =>
    have e:(c=0)=False:=by simpa using hz
    simp +decide only[go_sem,nT,nA,nS,nM,nB,reduceIte,reduceCtorEq,h0,hf,h4,h8,h9,h10,e]
  ·have hlb' : ((q:Int)<(l.length:Int))=False:=by simp only[eq_iff_iff,iff_false];omega
   obtain rfl:hb=false:=by
    cases hb with
    | false=>rfl
    | true=>rw[List.getElem?_eq_none (by omega)] at hq2;simp at hq2
   simp +decide only[go_sem,nT,nA,nS,nM,nB,reduceIte,reduceCtorEq,h0,hf,h4,h8,h9,h10,hlt']
   refine HW.tree 1 (.light 0 (.light 1 (.light 2 (.light 3 (.light 4 (.light 5 (.light 6 (.light 7 (.light 8 (.light 9 (.light 10 (.heavy 11 [0] (.light 12 (.light 13 (.light 14 (.light 15 .leaf)))) .stop)))))))))))) follows (by kernel_rfl) (by kernel_rfl) ?_
   simp +decide only[go_sem,nT,nA,nS,nM,nB,reduceIte,reduceCtorEq,h0,hf,h4,h8,h9,h10,hlt',hlb']
theorem zM5 (l:List Ot) (o:Ot) (hl:l.length≤1000000) (hs:SetO l) (hsm:∀x∈l,SmallO x) (ho:SmallO o):HFn Tryz.prog 107 [.sl (ots l),otH o] (.v (.bool (hasO l o))):=by
 have h:=zPj l o hl hs hsm ho
 refine zB (fn:=Tryz.f107) 14 [4] (by kernel_rfl) rfl (by kernel_rfl) (HW.run 400 (by kernel_rfl) ?_)
 simp +decide only[go_sem,nT,nA,nS,nM,nB,reduceIte,reduceCtorEq]
 refine zD (h) rfl rfl ?_
 simp +decide only[go_sem,nT,nA,nS,nM,nB,reduceIte,reduceCtorEq]
theorem zPk (b:List Ot) (o:Ot) (hl:b.length≤1000000) (hs:SetO b) (hsm:∀x∈b,SmallO x) (ho:SmallO o):HFn Tryz.prog 106 [otH o,.fp [[.sl (ots b)]] 0 0] (.v (.bool (hasO b o))):=by
 have h:=zM5 b o hl hs hsm ho
 refine zB (fn:=Tryz.f106) 7 [3] (by kernel_rfl) rfl (by kernel_rfl) (HW.run 400 (by kernel_rfl) ?_)
 simp +decide only[go_sem,nT,nA,nS,nM,nB,reduceIte,reduceCtorEq]
 refine zD (h) rfl rfl ?_
 simp +decide only[go_sem,nT,nA,nS,nM,nB,reduceIte,reduceCtorEq]
end Go.Proofs.YtoknohandclcbaaGreat
namespace Go.Proofs.YtoknohandclcbaaGreat
set_option maxRecDepth 8000
def zBb (g:List Int) (l:List (List Int)):Bool:=l.all fun row=>zBE row g
def tryG (f:List Int→List Int→Option (List Int)) (row:List Int):List Int→Option (List Int)
 | []=>none
 | n::rest=>match f rest (row++[n]) with | some r=>some r | none=>tryG f row rest
def tryF (l:List (List Int)):Nat→List Int→List Int→Option (List Int)
 | 0,_,row=>if zBb row l=true then some row else none
 | m+1,all,row=>tryG (tryF l m) row all
def zES (l:List (List Int)) (all:List Int):Nat→Nat→List Int×Bool
 | 0,_=>([],false)
 | k+1,m=>match tryF l m all [] with | some r=>(r,true) | none=>zES l all k (m+1)
def insI (n:Int):List Int→List Int
 | []=>[n]
 | x::l=>if n<x then n::x::l else if n=x then x::l else x::insI n l
def allN (l:List (List Int)):List Int:=l.flatten.foldl (fun a n=>insI n a) []
def zCQ (l:List (List Int)):List Int×Bool:=if l.any (·.isEmpty)=true then ([],false) else zES l (allN l) ((allN l).length+1) 0
def zCI (l:List Int):Prop:=l.Pairwise (·< ·)
theorem zIx {n y:Int}:∀{l:List Int},y∈insI n l↔y∈l∨y=n
 | []=>by simp[insI]
 | x::l=>by
  unfold insI
  split
  ·simp;grind
  ·split
   ·rename_i h;subst h;simp;intro h;exact .inl h
   ·simp only[List.mem_cons,zIx (l:=l)];grind
theorem zKc {n:Int}:∀{l:List Int},zCI l→zCI (insI n l)
 | [],_=>by simp[insI,zCI]
 | x::l,h=>by
  obtain ⟨h1,h2⟩:=List.pairwise_cons.1 h
  unfold insI
  split
  ·rename_i hn
   refine List.pairwise_cons.2 ⟨fun y hy=>?_,h⟩
   rcases List.mem_cons.1 hy with rfl | hy
   ·exact hn
   ·have:=h1 y hy;omega
  ·split
   ·exact h
   ·refine List.pairwise_cons.2 ⟨fun y hy=>?_,zKc h2⟩
    rcases zIx.1 hy with hy | rfl
    ·exact h1 y hy
    ·omega
theorem zHx:∀(l a:List Int),zCI a→zCI (l.foldl (fun a n=>insI n a) a)
 | [],_,h=>h
 | x::l,a,h=>zHx l _ (zKc h)
theorem zKm {y:Int}:∀(l a:List Int),y∈l.foldl (fun a n=>insI n a) a↔y∈a∨y∈l
 | [],a=>by simp
 | x::l,a=>by
  rw[List.foldl_cons,zKm l,zIx]
  simp only[List.mem_cons];grind
theorem zGz (l:List (List Int)):zCI (allN l):=zHx _ _ List.Pairwise.nil
theorem zJY {y:Int} {l:List (List Int)}:y∈allN l↔∃r∈l,y∈r:=by
 unfold allN
 rw[zKm];simp[List.mem_flatten]
theorem zSP:∀{a b:List Int},zCI a→zCI b→(∀y,y∈a↔y∈b)→a=b
 | [],[],_,_,_=>rfl
 | [],y::b,_,_,h=>by have:=(h y).2 (by simp);simp at this
 | x::a,[],_,_,h=>by have:=(h x).1 (by simp);simp at this
 | x::a,y::b,ha,hb,h=>by
  obtain ⟨a1,a2⟩:=List.pairwise_cons.1 ha
  obtain ⟨b1,b2⟩:=List.pairwise_cons.1 hb
  have hxy:x=y:=by
   rcases List.mem_cons.1 ((h x).1 (by simp)) with e | hx
   ·exact e
   ·rcases List.mem_cons.1 ((h y).2 (by simp)) with e | hy
    ·exact e.symm
    ·have:=a1 y hy;have:=b1 x hx;omega
  subst hxy
  rw[zSP a2 b2 fun z=>?_]
  constructor
  ·intro hz
   rcases List.mem_cons.1 ((h z).1 (by simp[hz])) with e | hz2
   ·subst e;exact absurd (a1 z hz) (by omega)
   ·exact hz2
  ·intro hz
   rcases List.mem_cons.1 ((h z).2 (by simp[hz])) with e | hz2
   ·subst e;exact absurd (b1 z hz) (by omega)
   ·exact hz2
theorem zNm (l:List (List Int)):∀(all row:List Int),zBb (row++all) l=true→tryF l all.length all row=some (row++all)
 | [],row,h=>by
  rw[List.append_nil] at h⊢
  show (if zBb row l=true then some row else none)=_
  rw[if_pos h]
 | n::all,row,h=>by
  show tryG (tryF l all.length) row (n::all)=_
  rw[tryG,zNm l all (row++[n]) (by rw[List.append_assoc];exact h)]
  simp
theorem zWx {row g:List Int} (hn:row≠[]) (h:∀y∈row,y∈g):zBE row g=true:=by
 cases row with
 | nil=>exact absurd rfl hn
 | cons x r =>
  unfold zBE
  rw[List.any_eq_true]
  exact ⟨x,by simp,by unfold hasB;rw[decide_eq_true_iff];exact h x (by simp)⟩
theorem zXP {l:List (List Int)} (h:¬l.any (·.isEmpty)=true):zBb (allN l) l=true:=by
 unfold zBb
 rw[List.all_eq_true]
 intro row hr
 refine zWx (fun e=>h ?_) fun y hy=>zJY.2 ⟨row,hr,hy⟩
 rw[List.any_eq_true];exact ⟨row,hr,by rw[e];rfl⟩
end Go.Proofs.YtoknohandclcbaaGreat
