/- Parts of the proof: Ct, Cq, Cs, Sw, Sr, St, Pb, Pc, Pd, Qa, Qc, Ge, Gy, Gz, Ia, Id, Ie, Ib, If, Ig. -/
import Derived.Test.YtoknohandclcbaaGreatZc14
import Derived.Test.YtoknohandclcbaaGreatZc13
import Derived.Test.YtoknohandclcbaaGreatZc11
import Derived.Test.YtoknohandclcbaaGreatZc09
import Derived.Test.YtoknohandclcbaaGreatZc12
open Nat renaming reduceAdd → nA, reduceSub → nS, reduceMul → nM, reduceBEq → nB
open Int renaming reduceToNat → nT
set_option linter.unusedSectionVars false
set_option linter.unusedVariables false
set_option linter.unusedSimpArgs false
namespace Go.Proofs.YtoknohandclcbaaGreat
open Go.RowKit
set_option maxRecDepth 8000
theorem Rise.sorted {kv:List (Int×Int)} {out:List Int} (h:Rise kv out):zE3 kv=out:=by
 unfold zE3
 rw[mergeSort_of_perm_i h.perm.symm]
 exact List.mergeSort_of_pairwise (h.rise.imp fun h=>by simp;omega)
abbrev croH (p:Prg) (a:List HV) (b:Bool) (kv:List (Int×Int)):Heap :=
 [some ⟨25,2,[[.sl (ints p.init),.sl (thrs p.thr)]]⟩,some ⟨22,1,[a]⟩,some ⟨4,1,[[.v (.bool b)]]⟩,some (mapI kv),some (zJz 3),none,none,some ⟨93,1,[]⟩]
set_option maxHeartbeats 8000000 in
theorem zQ3 (p:Prg) (l:List Pck) (hp:RightP p) (hl:l.length≤10000):HFn Tryz.prog 109 [prgH p,.sl (pcks l)]
  (.tu [zBs ((zAz p (zK p) [] l).getD []),.v (.bool (zAz p (zK p) [] l).isSome)]):=by
 refine HCalls.conv (Q:=fun x _=>x=.tu [zBs ((zAz p (zK p) [] l).getD []),.v (.bool (zAz p (zK p) [] l).isSome)]∨(zAz p (zK p) [] l=none∧x=.tu [.v (.slice none 0 0),.v (.bool false)])) ?_ ?_
 rotate_left
 ·rintro x H' (rfl | ⟨h,rfl⟩)
  ·exact ⟨_,rfl,.inl rfl⟩
  ·rw[h];exact ⟨_,rfl,.inr ⟨rfl,Conv.nilTuOw _ _ _⟩⟩
 have hsm:=hp.small
 refine zU (fn:=Tryz.f109) 38 [.cell 4 22,.cell 5 4] (by kernel_rfl) rfl rfl (by kernel_rfl) (HW.run 400 (by kernel_rfl) ?_)
 simp +decide only[go_sem,nT,nA,nS,nM,nB,reduceIte,reduceCtorEq]
 refine zD (zHn p l) rfl rfl ?_
 simp +decide only[go_sem,nT,nA,nS,nM,nB,reduceIte,reduceCtorEq]
 refine HW.ghost (Ghost.hole 93 1) ?_
 simp +decide only[go_sem,nT,nA,nS,nM,nB,reduceIte,reduceCtorEq]
 refine HW.rangeFunc rfl (by decide) rfl (zAX p (zK p) l) (croH p [.v (.slice none 0 0)] false [])
  (fun j Hi=>∃pre s out r kv,zAX p (zK p) l=pre++zAX p s r∧pre.length=j∧j≤l.length∧zAz p (zK p) [] l=zAz p s out r∧Rise kv out∧(∀e∈kv,-1000000≤e.1∧e.1≤1000000)∧kv.length≤j∧(∀n,0≤getM kv n∧getM kv n≤j)∧Hi=croH p [.v (.slice none 0 0)] false kv)
  (fun c Hi=>c=.ret∧zAz p (zK p) [] l=none∧∃kv,Hi=croH p [.v (.slice none 0 0)] false kv)
  ?_ ?_ (fun o=>zY0 p l hp hl _ 5 6 (by omega) rfl rfl) ⟨[],zK p,[],l,[],rfl,rfl,by simp,rfl,⟨by simp,by simp⟩,by simp,by simp,fun n=>⟨Int.le_refl _,Int.le_refl _⟩,rfl⟩ ?_ ?_ ?_
 ·refine ⟨rfl,fun j o hj=>?_⟩
  rcases j with _ | _ | _ | _ | _ | _ | _ | _ | j <;> simp at hj⊢<;> exact hj
 ·intro x hx
  rcases zEz hx with ⟨k,t,rfl⟩ | rfl <;> exact ⟨rfl,rfl⟩
 ·rintro j x Hi hx - ⟨pre,s,out,r,kv,hX,hpre,hjl,hR,hri,hrg,hkl,hkv,rfl⟩
  obtain ⟨k,r',rfl,hcase⟩:=zLH hX hpre hx
  have hlen:=zGk (p:=p) l (zK p)
  have hj1:j+1≤l.length:=by
   have:=(List.getElem?_eq_some_iff.1 hx).1
   omega
  have hkv1:∀n,0≤getM kv n∧getM kv n≤((j+1:Nat):Int):=fun n=>⟨(hkv n).1,by have:=(hkv n).2;omega⟩
  refine HW.run 60 (by kernel_rfl) ?_
  rcases hcase with ⟨hw,rfl,hX'⟩ | ⟨hw,rfl⟩
  ·have hthr:=(zID hw).1
   have c0:(k.th<0)=False:=by simp only[eq_iff_iff,iff_false];omega
   rw[zAz,if_pos hw] at hR
   generalize (zAA p s k).1=s' at hR hX'
   generalize thAt s k.th=y at hR hX' hx
   have hbuf:(0<(y.buf.length:Int))=(y.buf≠[]):=by
    cases y.buf with
    | nil=>simp
    | cons a b=>simp only[List.length_cons,eq_iff_iff];constructor <;> intro <;> first | simp | omega
   simp +decide only[go_sem,nT,nA,nS,nM,nB,reduceIte,reduceCtorEq,c0]
   refine HW.run 100 (by kernel_rfl) ?_
   simp +decide only[go_sem,nT,nA,nS,nM,nB,reduceIte,reduceCtorEq,c0]
   by_cases hb:y.buf=[]
   ·have hbuf' : ((0:Int)<(y.buf.length:Int))=False:=by rw[hbuf];simp[hb]
    rw[if_neg (fun h=>h.2 hb)] at hR
    simp +decide only[go_sem,nT,nA,nS,nM,nB,reduceIte,reduceCtorEq,hbuf']
    refine ⟨_,_,Ghost.trunc [] 8 (by omega) rfl ?_,rfl,pre++[[zFX k y]],s',out,r',kv,hX',by simp[hpre],hj1,hR,hri,hrg,by omega,hkv1,?_⟩
    ·simp +decide only[go_sem,nB,reduceIte]
    ·rfl
   ·have hbuf' : ((0:Int)<(y.buf.length:Int))=True:=by rw[hbuf];simp[hb]
    cases hdr:k.dr with
    | true =>
     rw[if_neg (by simp[hdr])] at hR
     simp +decide only[go_sem,nT,nA,nS,nM,nB,reduceIte,reduceCtorEq,hbuf',hdr]
     refine ⟨_,_,Ghost.trunc [] 8 (by omega) rfl ?_,rfl,pre++[[zFX k y]],s',out,r',kv,hX',by simp[hpre],hj1,hR,hri,hrg,by omega,hkv1,?_⟩
     ·simp +decide only[go_sem,nB,reduceIte]
     ·rfl
    | false =>
     rw[if_pos ⟨hdr,hb⟩] at hR
     simp +decide only[go_sem,nT,nA,nS,nM,nB,reduceIte,reduceCtorEq,hbuf',hdr]
     refine HW.tree 1 (.light 0 (.light 1 (.light 2 (.light 3 (.light 4 (.light 5 (.light 6 (.heavy 7 [0] (.heavy 8 [] (.light 9 (.heavy 10 [] .leaf .stop)) .stop) .stop)))))))) follows (by kernel_rfl) (by kernel_rfl) ?_
     simp +decide only[go_sem,nT,nA,nS,nM,nB,reduceIte,reduceCtorEq,hbuf',hdr]
     refine zD (zN1 p k.th y.pc hsm) rfl rfl ?_
     have hnr:=zPU p hsm k.th y.pc
     generalize numS p k.th y.pc=n at hR hnr
     have hkn:=hkv n
     have hw2:IntKind.i64.wrap (getM kv n+1)=getM kv n+1:=w64 (by omega) (by omega)
     simp +decide only[go_sem,nT,nA,nS,nM,nB,reduceIte,reduceCtorEq,hbuf',hdr,hw2]
     refine ⟨_,_,Ghost.trunc [] 8 (by omega) rfl ?_,rfl,pre++[[zFX k y]],s',putB out n,r',setM kv n (getM kv n+1),hX',by simp[hpre],hj1,hR,hri.put n _,zOo hrg (by omega),by have:=zLi n (getM kv n+1) kv;omega,fun m=>?_,?_⟩
     ·simp +decide only[go_sem,nB,reduceIte]
     ·rw[zPf]
      have:=hkv m
      split <;> omega
     ·rfl
  ·simp +decide only[go_sem,nT,nA,nS,nM,nB,reduceIte,reduceCtorEq]
   refine HW.run 100 (by kernel_rfl) ?_
   simp +decide only[go_sem,nT,nA,nS,nM,nB,reduceIte,reduceCtorEq]
   have hR' : zAz p (zK p) [] l=none:=by rw[hR,zAz,if_neg (by simp[hw])]
   refine ⟨_,_,Ghost.trunc [] 8 (by omega) rfl ?_,rfl,hR',kv,rfl⟩
   simp +decide only[go_sem,nB,reduceIte]
 ·rintro Hf - ⟨pre,s,out,r,kv,hX,hpre,hjl,hR,hri,hrg,hkl,hkv,rfl⟩
  obtain rfl:=zHs hX hpre
  simp +decide only[go_sem,nT,nA,nS,nM,nB,reduceIte,reduceCtorEq]
  refine ⟨_,zWZ (kv:=kv) (j:=7) rfl rfl,?_⟩
  rintro r H' ⟨rfl,rfl⟩ -
  simp +decide only[go_sem,nT,nA,nS,nM,nB,reduceIte,reduceCtorEq]
  refine ⟨_,zJ0 (id:=3) (j:=7) (kv:=kv) rfl rfl hri.nodup hrg (by omega),?_⟩
  rintro r H' ⟨rfl,rfl⟩ -
  rw[hri.sorted]
  simp +decide only[go_sem,nT,nA,nS,nM,nB,reduceIte,reduceCtorEq]
  rw[hR]
  exact .inl rfl
 ·rintro c Hf - ⟨rfl,hn,kv,rfl⟩
  unfold XQ
  simp +decide only[go_sem,nT,nA,nS,nM,nB,reduceIte,reduceCtorEq]
  exact .inr hn
end Go.Proofs.YtoknohandclcbaaGreat
namespace Go.Proofs.YtoknohandclcbaaGreat
open Go.RowKit
set_option maxRecDepth 8000
def zVE (x:List Stp):List HV:=[.ow 87 5 (stps x)]
def zJM (l:List (List Stp)):List (List HV):=l.map zVE
theorem zQx {l:List (List Stp)}:(zJM l).length=l.length:=by simp[zJM]
theorem zVI {l:List (List Stp)} {k:Nat} {H:Heap}:(zJM l).map (fun r=>r.map (fz k H))=thrs l:=by
 simp only[zJM,thrs,List.map_map]
 apply List.map_congr_left
 intro x _
 cases k <;> simp only[Function.comp,zVE,trow,List.map_cons,List.map_nil,fz,fzo,zJV]
theorem zJL {m:Nat}:∀{l:List (List Stp)},nmR m (zJM l)=true
 | []=>rfl
 | x::l=>by
  show nmR m (zVE x::zJM l)=true
  simp only[nmR,zVE,nmL,nm,zJL,Bool.and_self]
theorem zIB {l:List (List Stp)}:zV (zJM l) 1=True:=by
 simp only[zV,zJM,List.mem_map,eq_iff_iff,iff_true]
 rintro r ⟨a,_,rfl⟩;rfl
attribute [go_sem] zVI zJL zIB zQx
end Go.Proofs.YtoknohandclcbaaGreat
namespace Go.Proofs.YtoknohandclcbaaGreat
open Go.RowKit
set_option maxRecDepth 8000
end Go.Proofs.YtoknohandclcbaaGreat
namespace Go.Proofs.YtoknohandclcbaaGreat
open Go.RowKit
set_option maxRecDepth 8000
def bufP:Prg:=⟨[0,0],[[⟨4,0,0,1,0⟩,⟨2,0,1,0,0⟩],[⟨4,0,1,1,0⟩,⟨2,0,0,0,0⟩]]⟩
def loose:List Pck:=[⟨0,false⟩,⟨0,false⟩,⟨1,false⟩,⟨1,false⟩,⟨0,true⟩,⟨1,true⟩]
theorem zB9:RightP bufP:=zFx.1 (by rfl)
theorem zKC:HFn Tryz.prog 27 [] (prgH bufP):=by
 refine zCu (fn:=Tryz.f27) 4 10 [.cell 0 25] (by kernel_rfl) rfl rfl (by kernel_rfl) (HW.run 400 (by kernel_rfl) ?_)
 simp +decide only[go_sem,nT,nA,nS,nM,nB,reduceIte,reduceCtorEq]
 rfl
theorem zW0:HFn Tryz.prog 55 [] (.sl (pcks loose)):=by
 refine HFn.shut (R:=zSF loose) ?_ (by simp only[fzo,zDz])
 refine zB (fn:=Tryz.f55) 8 [0] (by kernel_rfl) rfl (by kernel_rfl) (HW.run 400 (by kernel_rfl) ?_)
 simp +decide only[go_sem,nT,nA,nS,nM,nB,reduceIte,reduceCtorEq]
 rfl
end Go.Proofs.YtoknohandclcbaaGreat
namespace Go.Proofs.YtoknohandclcbaaGreat
open Go.RowKit
set_option maxRecDepth 8000
end Go.Proofs.YtoknohandclcbaaGreat
namespace Go.Proofs.YtoknohandclcbaaGreat
open Go.RowKit
set_option maxRecDepth 8000
end Go.Proofs.YtoknohandclcbaaGreat
namespace Go.Proofs.YtoknohandclcbaaGreat
open Go.RowKit
set_option maxRecDepth 8000
theorem zHm (p:Prg):∀(l:List Pck) (s:Sta) (out x:List Int),zAz p s out l=some x→x.length≤out.length+l.length
 | [],s,out,x,h=>by simp only[zAz,Option.some.injEq] at h;subst h;simp
 | k::r,s,out,x,h=>by
  unfold zAz at h
  split at h
  ·have h1:=zHm p r _ _ x h
   have h2:=zWD out (numS p k.th (thAt s k.th).pc)
   simp only[List.length_cons]
   split at h1 <;> omega
  ·cases h
theorem zWs {α:Type} {o:Option (List α)} {n:Nat} (h:∀x,o=some x→x.length≤n):(o.getD []).length≤n:=by
 cases o with
 | none=>simp
 | some x=>exact h x rfl
theorem zUJ {p:Prg} {l:List Pck}:((zAz p (zK p) [] l).getD []).length≤l.length:=zWs fun x h=>by have:=zHm p l _ _ x h;simpa using this
end Go.Proofs.YtoknohandclcbaaGreat
namespace Go.Proofs.YtoknohandclcbaaGreat
set_option maxRecDepth 8000
def goW (x:Stp) (mem:List Int) (t:Thd):Option (List Int×Thd) :=
 if t.buf≠[]∧(x.op=6∨x.op=5) then none
 else if x.op=2 then some (mem,{ (zM x mem t).2 with regs:=setI t.regs x.reg (zO8 t.buf mem x.loc).1 })
 else if x.op=3 then some (mem,{ (zM x mem t).2 with buf:=t.buf++[(x.loc,getI t.regs x.reg)] })
 else if x.op=4 then some (mem,{ (zM x mem t).2 with buf:=t.buf++[(x.loc,x.n)] })
 else some (zM x mem t)
theorem zV1 {p:Prg} {s:Sta} {k:Pck} (hk:k.dr=true) (h:0≤k.th∧k.th<s.ths.length):zAA p s k =
  if (zA5 (thAt s k.th).buf s.mem).2.2=true then (zBT s k.th (zA5 (thAt s k.th).buf s.mem).2.1 { thAt s k.th with buf:=(zA5 (thAt s k.th).buf s.mem).1 },true) else (s,false):=by
 unfold zAA
 rw[if_neg (not_not_intro h),if_pos hk]
theorem zV0 {p:Prg} {s:Sta} {k:Pck} (hk:k.dr=false) (h:0≤k.th∧k.th<s.ths.length):zAA p s k =
  match atS p s k.th with
  | none=>(s,false)
  | some x=>match goW x s.mem (thAt s k.th) with
   | none=>(s,false)
   | some r=>(zBT s k.th r.1 r.2,true):=by
 unfold zAA goW
 rw[if_neg (not_not_intro h),if_neg (by rw[hk];simp)]
 cases atS p s k.th with
 | none=>rfl
 | some x =>
  dsimp only
  repeat' split
  all_goals first | rfl | (rename_i e;cases e;rfl) | simp_all
abbrev runW (p:Prg) (s:Sta) (l:List Pck):Sta×Nat×Bool:=runF (fun s k=>zAc p s k true) s l
theorem zFt {p:Prg} {s:Sta} {k:Pck} {l:List Pck}:runW p s (k::l)=if (zAA p s k).2=true then ((runW p (zAA p s k).1 l).1,(runW p (zAA p s k).1 l).2.1+1,(runW p (zAA p s k).1 l).2.2) else (s,0,false):=by
 simp only[runW,runF,zAc,if_true]
theorem zLm {p:Prg} {s:Sta} {k:Pck} {l:List Pck}:(runW p s (k::l)).2.2=((zAA p s k).2 && (runW p (zAA p s k).1 l).2.2):=by
 rw[zFt]
 cases (zAA p s k).2 <;> simp
theorem zYj {p:Prg} {s:Sta} {k:Pck} {l:List Pck} (h:(zAA p s k).2=true):(runW p s (k::l)).1=(runW p (zAA p s k).1 l).1:=by
 rw[zFt,if_pos h]
end Go.Proofs.YtoknohandclcbaaGreat
namespace Go.Proofs.YtoknohandclcbaaGreat
set_option maxRecDepth 8000
def Empty (s:Sta):Prop:=∀t∈s.ths,t.buf=[]
theorem Empty.at {s:Sta} (h:Empty s) (th:Int):(thAt s th).buf=[]:=by
 unfold thAt
 cases hx:s.ths[th.toNat]? with
 | none=>rfl
 | some t=>exact h t (List.mem_of_getElem? hx)
theorem Empty.set {s:Sta} {th:Int} {mem:List Int} {t:Thd} (h:Empty s) (ht:t.buf=[]):Empty (zBT s th mem t):=by
 intro t' ht'
 rcases List.mem_or_eq_of_mem_set ht' with h1 | rfl
 ·exact h t' h1
 ·exact ht
end Go.Proofs.YtoknohandclcbaaGreat
namespace Go.Proofs.YtoknohandclcbaaGreat
set_option maxRecDepth 8000
def fpos (g:List Int) (a i:Nat):Nat:=i+zCp g a i
def spos (g:List Int) (a i:Nat):Nat:=i+zCp g a (i+1)
theorem zTH {g:List Int} {a i j:Nat} (h:i<j):spos g a i<fpos g a j:=by
 unfold spos fpos
 have:=zGd g a (show i+1≤j by omega);omega
theorem zZi {g:List Int} {a i:Nat}:fpos g a i≤spos g a i:=by
 unfold spos fpos
 have:=zGd g a (show i≤i+1 by omega);omega
theorem zTG {g:List Int} {a i j:Nat} (h:i<j):fpos g a i<fpos g a j:=Nat.lt_of_le_of_lt zZi (zTH h)
section
variable {p:Prg} {g:List Int}
theorem zW9 {t:Nat} {l:List Stp} (hl:p.thr[t]?=some l):(insP p g).thr[t]?=some (insT g (z7 p.thr t) l):=by
 have ht:=(List.getElem?_eq_some_iff.1 hl).1
 show (insF g p.thr p.thr.length)[t]?=_
 rw[zNn g p.thr _ t ht,hl,Option.getD_some]
theorem zW7 {a:Nat} {l:List Stp}:(insT g a l).length=fpos g a l.length:=zW6 g a l
def Pos (b:Bool) (g:List Int) (a n:Nat) (t:Thd) (c:Int):Prop :=
 c=((fpos g a t.pc.toNat:Nat):Int)∨(b=true∧t.pc.toNat<n∧hasB g ((a+t.pc.toNat:Nat):Int)=true∧t.buf=[]∧c=((spos g a t.pc.toNat:Nat):Int))
structure Sim (b:Bool) (p:Prg) (g:List Int) (s z:Sta):Prop where
 mem:z.mem=s.mem
 len:z.ths.length=s.ths.length
 th:∀i t l,s.ths[i]?=some t→p.thr[i]?=some l→∃c:Int,z.ths[i]?=some { t with pc:=c }∧Pos b g (z7 p.thr i) l.length t c
theorem Sim.set {b:Bool} {s z:Sta} {th c:Int} {m:List Int} {t:Thd} (h:Sim b p g s z) (ht:∀l,p.thr[th.toNat]?=some l→Pos b g (z7 p.thr th.toNat) l.length t c) :
  Sim b p g (zBT s th m t) (zBT z th m { t with pc:=c }):=by
 refine ⟨rfl,by simp[zBT,h.len],fun i u l hu hl=>?_⟩
 simp only[zBT] at hu⊢
 by_cases e:th.toNat=i
 ·subst e
  rw[List.getElem?_set] at hu⊢
  rw[if_pos rfl] at hu⊢
  split at hu
  ·rename_i hlt
   cases hu
   rw[if_pos (by rw[h.len];exact hlt)]
   exact ⟨c,rfl,ht l hl⟩
  ·cases hu
 ·rw[List.getElem?_set_ne e] at hu⊢
  exact h.th i u l hu hl
theorem Sim.regs {b:Bool} {s z:Sta} (hs:RightS p s) (h:Sim b p g s z):zHA z=zHA s:=by
 have e:z.ths.map (·.regs)=s.ths.map (·.regs):=by
  apply List.ext_getElem?
  intro i
  rw[List.getElem?_map,List.getElem?_map]
  by_cases hi:i<s.ths.length
  ·have hlen:=hs.ths
   have ht:s.ths[i]?=some s.ths[i]:=List.getElem?_eq_getElem hi
   have hl:p.thr[i]?=some (p.thr[i]'(by omega)):=List.getElem?_eq_getElem (by omega)
   obtain ⟨c,hz,_⟩:=h.th i _ _ ht hl
   rw[hz,ht];rfl
  ·rw[List.getElem?_eq_none (by rw[h.len];omega),List.getElem?_eq_none (by omega)]
 unfold zHA
 rw[List.flatMap_def,List.flatMap_def,e]
theorem Sim.overT {b:Bool} {s z:Sta} (hs:RightS p s) (h:Sim b p g s z) {i:Nat} (hi:i<s.ths.length):(overT (insP p g) z i=true→overT p s i=true)∧(b=false→overT p s i=true→overT (insP p g) z i=true):=by
 have hlen:=hs.ths
 have ht:s.ths[i]?=some s.ths[i]:=List.getElem?_eq_getElem hi
 have hl:p.thr[i]?=some (p.thr[i]'(by omega)):=List.getElem?_eq_getElem (by omega)
 obtain ⟨c,hz,hP⟩:=h.th i _ _ ht hl
 have hT:=hs.t i _ _ hl ht
 have hq:=zW9 (g:=g) hl
 unfold Go.Proofs.YtoknohandclcbaaGreat.overT
 rw[hz,ht,hl,hq]
 dsimp only
 rw[zW7]
 have hpc:=hT.pc
 simp only[Bool.and_eq_true,decide_eq_true_eq]
 refine ⟨fun ⟨h1,h2⟩=>⟨?_,h2⟩,fun hb ⟨h1,h2⟩=>⟨?_,h2⟩⟩
 ·rcases hP with hP | ⟨_,h2,_,_,h5⟩
  ·rw[hP] at h1
   rcases Nat.lt_or_ge (s.ths[i]).pc.toNat (p.thr[i]'(by omega)).length with e | e
   ·have:=zTG (g:=g) (a:=z7 p.thr i) e;omega
   ·omega
  ·rw[h5] at h1
   have:=zTH (g:=g) (a:=z7 p.thr i) h2
   omega
 ·rcases hP with hP | ⟨h3,_⟩
  ·rw[hP]
   have:(s.ths[i]).pc.toNat=(p.thr[i]'(by omega)).length:=by omega
   rw[this]
  ·rw[hb] at h3;cases h3
theorem Sim.over {b:Bool} {s z:Sta} (hs:RightS p s) (h:Sim b p g s z):(zBp (insP p g) z=true→zBp p s=true)∧(b=false→zBp p s=zBp (insP p g) z):=by
 have e1:zBp (insP p g) z=true→zBp p s=true:=by
  unfold zBp
  rw[h.len,List.all_eq_true,List.all_eq_true]
  intro h1 i hi
  exact (h.overT hs (by simpa using hi)).1 (h1 i hi)
 refine ⟨e1,fun hb=>?_⟩
 rw[Bool.eq_iff_iff]
 refine ⟨?_,e1⟩
 unfold zBp
 rw[h.len,List.all_eq_true,List.all_eq_true]
 intro h1 i hi
 exact (h.overT hs (by simpa using hi)).2 hb (h1 i hi)
end
end Go.Proofs.YtoknohandclcbaaGreat
namespace Go.Proofs.YtoknohandclcbaaGreat
open Go.RowKit
set_option maxRecDepth 8000
theorem zHZ {p:Prg} (hp:RightP p):∀(l:List Pck) (s:Sta),RightS p s→RightS p (runW p s l).1
 | [],s,h=>h
 | k::r,s,h=>by
  rw[zFt]
  split
  ·exact zHZ hp r _ (zD0 hp h)
  ·exact h
end Go.Proofs.YtoknohandclcbaaGreat
namespace Go.Proofs.YtoknohandclcbaaGreat
set_option maxRecDepth 8000
def zFW (p:Prg) (l:List Pck):Option Ot:=if ((runW p (zK p) l).2.2 && zBp p (runW p (zK p) l).1)=true then some ⟨(runW p (zK p) l).1.mem,zHA (runW p (zK p) l).1⟩ else none
def zAC (l:List Prf):List (List Int):=l.map (·.slots)
def zHl (p:Prg) (l:List Pck):List Int:=(zAz p (zK p) [] l).getD []
def zA3 (p:Prg) (a:Ans) (x:Prf):Bool:=match zFW p x.picks with
 | none=>false
 | some o=>decide (o=x.out) && (decide (zHl p x.picks=x.slots) && (!hasO a.ends o && hasO a.loose o))
def zFk (a:Ans):Bool:=setO a.ends && (setO a.loose && (zAm a.ends a.loose).isEmpty)
def zFH (a:Ans):Bool:=(zBe (zAC a.proofs)).2 && decide ((zBe (zAC a.proofs)).1=a.fences)
def zMF (a:Ans):Bool:=decide (decide (a.fences=[])=decide (a.ends=a.loose))
def zAo (p:Prg) (a:Ans):Bool:=zFk a && (a.proofs.all (zA3 p a) && (zFH a && zMF a))
def zLD (a:Ans) (g:List Int):Option Prf:=a.proofs.find? fun x=>!zBL x.slots g
theorem zCS {p:Prg} {a:Ans}:zAo p a=true↔zFk a=true∧(∀x∈a.proofs,zA3 p a x=true)∧zFH a=true∧zMF a=true:=by
 unfold zAo
 rw[Bool.and_eq_true,Bool.and_eq_true,Bool.and_eq_true,List.all_eq_true]
theorem zBI {p:Prg} {a:Ans} {x:Prf}:zA3 p a x=true↔zFW p x.picks=some x.out∧zHl p x.picks=x.slots∧hasO a.ends x.out=false∧hasO a.loose x.out=true:=by
 unfold zA3
 cases h:zFW p x.picks with
 | none=>simp
 | some o =>
  simp only[Bool.and_eq_true,decide_eq_true_iff,Bool.not_eq_true',Option.some.injEq]
  constructor
  ·rintro ⟨rfl,h2,h3,h4⟩;exact ⟨rfl,h2,h3,h4⟩
  ·rintro ⟨rfl,h2,h3,h4⟩;exact ⟨rfl,h2,h3,h4⟩
theorem zC7 {p:Prg} {a:Ans} (h:zAo p a=true):zBe (zAC a.proofs)=(a.fences,true):=by
 have:=(zCS.1 h).2.2.1
 unfold zFH at this
 rw[Bool.and_eq_true,decide_eq_true_iff] at this
 rw[←this.1,←this.2]
theorem zMq {p:Prg} {a:Ans} (h:zAo p a=true) {x:Prf} (hx:x∈a.proofs):x.slots≠[]∧x.picks≠[]:=by
 have h1:=(zD5 (zC7 h)).1 x.slots (List.mem_map.2 ⟨x,hx,rfl⟩)
 have h2:=(zBI.1 ((zCS.1 h).2.1 x hx)).2.1
 refine ⟨h1,fun e=>h1 ?_⟩
 rw[←h2,e];rfl
theorem zJb {p:Prg} {k:Pck}:∀{l:List Pck} {s:Sta},(runW p s (l++[k])).2.2=true→(runW p s l).2.2=true∧(zAA p (runW p s l).1 k).2=true
 | [],s,h=>by
  rw[List.nil_append,zLm,Bool.and_eq_true] at h
  exact ⟨rfl,h.1⟩
 | x::l,s,h=>by
  rw[List.cons_append,zLm,Bool.and_eq_true] at h
  obtain ⟨h1,h2⟩:=zJb h.2
  rw[zLm,zYj h.1,h1,h.1]
  exact ⟨rfl,h2⟩
theorem zZL {p:Prg} {s:Sta} {th:Int} (hs:RightS p s) (h:zBp p s=true) (hin:0≤th∧th<s.ths.length):(thAt s th).buf=[]∧∃l,p.thr[th.toNat]?=some l∧(thAt s th).pc=l.length:=by
 have ht:=zF0 hin
 have hlen:=hs.ths
 have hl:p.thr[th.toNat]?=some (p.thr[th.toNat]'(by omega)):=List.getElem?_eq_getElem (by omega)
 unfold zBp at h
 rw[List.all_eq_true] at h
 have:=h th.toNat (by rw[List.mem_range];omega)
 unfold overT at this
 rw[ht,hl] at this
 simp only[Bool.and_eq_true,decide_eq_true_iff] at this
 exact ⟨by simpa using this.2,_,hl,this.1⟩
theorem zSG {p:Prg} {s:Sta} {k:Pck} (hs:RightS p s) (h:zBp p s=true):(zAA p s k).2=false:=by
 by_cases hin:0≤k.th∧k.th<s.ths.length
 ·obtain ⟨h1,l,h2,h3⟩:=zZL hs h hin
  cases hk:k.dr with
  | true =>
   rw[zV1 hk hin,h1];rfl
  | false =>
   have hA:atS p s k.th=none:=by
    unfold atS
    rw[if_pos hin,h2,Option.getD_some,h3]
    simp
   rw[zV0 hk hin,hA]
 ·unfold zAA
  rw[if_pos hin]
theorem zHk {p:Prg} {l:List Pck} {o:Ot} (h:zFW p l=some o):(runW p (zK p) l).2.2=true∧zBp p (runW p (zK p) l).1=true∧o=⟨(runW p (zK p) l).1.mem,zHA (runW p (zK p) l).1⟩:=by
 unfold zFW at h
 split at h
 ·rename_i hh
  rw[Bool.and_eq_true] at hh
  exact ⟨hh.1,hh.2,(Option.some.inj h).symm⟩
 ·cases h
theorem zQW {p:Prg} (hp:RightP p) {l:List Pck} {k:Pck} {o:Ot} (h:zFW p (l++[k])=some o):zFW p l=none:=by
 obtain ⟨h1,_,_⟩:=zHk h
 obtain ⟨h3,h4⟩:=zJb h1
 unfold zFW
 rw[if_neg]
 intro hh
 rw[Bool.and_eq_true] at hh
 rw[zSG (zHZ hp l _ zBl) hh.2] at h4
 cases h4
theorem zHq {p:Prg} {a:Ans} (h:zAo p a=true) {g:List Int} (hg:∀n∈a.fences,n∈g):zLD a g=none:=by
 have h1:=zPc (zMM (zC7 h)) hg
 unfold zLD
 rw[List.find?_eq_none]
 intro x hx
 unfold zB2 at h1
 rw[List.all_eq_true] at h1
 have:=h1 x.slots (List.mem_map.2 ⟨x,hx,rfl⟩)
 simp[this]
theorem zCR {p:Prg} {b:Ans} {x:Prf} (hx:x∈b.proofs) (h:zA3 p b x=false):zAo p b=false:=by
 cases hc:zAo p b with
 | false=>rfl
 | true=>rw[(zCS.1 hc).2.1 x hx] at h;cases h
theorem zFf {p:Prg} {a b:Ans} {x:Prf} {s:List Int} (h:zA3 p a x=true) (hs:s≠x.slots):zA3 p b { x with slots:=s }=false:=by
 cases hc:zA3 p b { x with slots:=s } with
 | false=>rfl
 | true =>
  have h1:=(zBI.1 h).2.1
  have h2:=(zBI.1 hc).2.1
  exact absurd (h2.symm.trans h1) hs
theorem zLf {p:Prg} {a b:Ans} {x:Prf} (hp:RightP p) (h:zA3 p a x=true) (hn:x.picks≠[]):zA3 p b { x with picks:=x.picks.take (x.picks.length-1) }=false:=by
 have h1:=(zBI.1 h).1
 have e:x.picks=x.picks.dropLast++[x.picks.getLast hn]:=(List.dropLast_concat_getLast hn).symm
 rw[e] at h1
 have h2:=zQW hp h1
 unfold zA3
 simp only
 rw[←List.dropLast_eq_take,h2]
theorem zRO {p:Prg} {a b:Ans} {x:Prf} {o:Ot} (h:zA3 p a x=true) (hs:o≠x.out):zA3 p b { x with out:=o }=false:=by
 cases hc:zA3 p b { x with out:=o } with
 | false=>rfl
 | true =>
  have h1:=(zBI.1 h).1
  have h2:=(zBI.1 hc).1
  simp only at h2
  rw[h1] at h2
  exact absurd (Option.some.inj h2).symm hs
theorem zJY {p:Prg} {a b:Ans} (h:zAo p a=true) (hs:zAC b.proofs=zAC a.proofs) (hf:b.fences≠a.fences):zAo p b=false:=by
 cases hc:zAo p b with
 | false=>rfl
 | true =>
  have h1:=zC7 h
  have h2:=zC7 hc
  rw[hs,h1] at h2
  exact absurd (Prod.mk.inj h2).1.symm hf
theorem zHU {p:Prg} {a b:Ans} {x:Prf} (h:zA3 p a x=true) (hb:hasO b.ends x.out=true∨hasO b.loose x.out=false):zA3 p b x=false:=by
 cases hc:zA3 p b x with
 | false=>rfl
 | true =>
  obtain ⟨_,_,h3,h4⟩:=zBI.1 hc
  rcases hb with e | e
  ·rw[h3] at e;cases e
  ·rw[h4] at e;cases e
theorem zPY:zBe []=([],true):=by
 unfold zBe allN
 simp only[List.any_nil,List.flatten_nil,List.foldl_nil,List.length_nil]
 rfl
theorem zMK {l:List Ot}:zAm l l=[]:=by
 unfold zAm
 rw[List.filter_eq_nil_iff]
 intro o ho
 simp[hasO,ho]
theorem zMr {p:Prg} {l m:List Ot} {n:Int}:zAo p ⟨[],[],l,m,n⟩=(setO l && decide (l=m)):=by
 unfold zAo zFk zFH zMF zAC
 simp only[List.map_nil,zPY,List.all_nil,decide_true,Bool.true_and,Bool.and_true]
 by_cases h:l=m
 ·subst h
  rw[zMK]
  simp
 ·simp[h]
end Go.Proofs.YtoknohandclcbaaGreat
namespace Go.Proofs.YtoknohandclcbaaGreat
open Go.RowKit
set_option maxRecDepth 8000
structure SmallA (a:Ans):Prop where
 ends:a.ends.length≤1000
 endO:∀o∈a.ends,SmallO o
 loose:a.loose.length≤1000
 looseO:∀o∈a.loose,SmallO o
 proofs:a.proofs.length≤1000
 picks:∀x∈a.proofs,x.picks.length≤10000
 slots:∀x∈a.proofs,x.slots.length≤1000
 outs:∀x∈a.proofs,SmallO x.out
 fences:a.fences.length≤1000
 all:(zAC a.proofs).flatten.length≤10000
abbrev chkC (p:Prg) (a:Ans):HV:=.fp [[.sl (ints a.fences),.sl (pfs a.proofs),.sl (ots a.ends),.sl (ots a.loose),.v (.int .i64 a.states),.sl (ints p.init),.sl (thrs p.thr)]] 0 0
theorem zOE (a b:Ot) (ha:SmallO a) (hb:SmallO b):HFn Tryz.prog 76 [otH a,otH b] (.v (.bool (decide (a=b)))):=by
 have h1:=zIV a b ha hb
 have h2:=zIV b a hb ha
 have e:decide (a=b)=(!zAv a b && !zAv b a):=by
  rcases zSZ a b with h | rfl | h
  ·have:¬a=b:=fun e=>by subst e;rw[zEE] at h;cases h
   simp[h,this]
  ·simp[zEE]
  ·have:¬a=b:=fun e=>by subst e;rw[zEE] at h;cases h
   simp[h,this]
 rw[e]
 generalize zAv a b=x at h1
 generalize zAv b a=y at h2
 refine zB (fn:=Tryz.f76) 15 [4] (by kernel_rfl) rfl (by kernel_rfl) (HW.run 400 (by kernel_rfl) ?_)
 simp +decide only[go_sem,nT,nA,nS,nM,nB,reduceIte,reduceCtorEq]
 refine zD (h1) rfl rfl ?_
 cases x with
 | true =>
  simp +decide only[go_sem,nT,nA,nS,nM,nB,reduceIte,reduceCtorEq]
  rfl
 | false =>
  simp +decide only[go_sem,nT,nA,nS,nM,nB,reduceIte,reduceCtorEq]
  refine zD (h2) rfl rfl ?_
  simp +decide only[go_sem,nT,nA,nS,nM,nB,reduceIte,reduceCtorEq]
set_option maxHeartbeats 4000000 in
theorem zFi (a b:List Int) (ha:a.length≤1000000) (hb:b.length≤1000000):HFn Tryz.prog 74 [.sl (ints a),.sl (ints b)] (.v (.bool (decide (a=b)))):=by
 refine zB (fn:=Tryz.f74) 26 [4] (by kernel_rfl) rfl (by kernel_rfl) (HW.run 400 (by kernel_rfl) ?_)
 by_cases hn:a.length=b.length
 ·have hn' : ((a.length:Int)=(b.length:Int))=True:=by simp only[eq_iff_iff,iff_true];omega
  simp +decide only[go_sem,nT,nA,nS,nM,nB,reduceIte,reduceCtorEq,hn']
  refine HW.loopG (fun k T H=>∃i:Nat,k=a.length-i∧i≤a.length∧a.take i=b.take i∧T 0=.sl (ints a)∧T 1=.sl (ints b)∧T 12=.v (.int .i64 a.length)∧T 13=.v (.int .i64 i)∧H=[]) a.length ⟨_,_,Ghost.refl,0,rfl,by omega,rfl,rfl,rfl,?_,rfl,rfl⟩ ?_
  ·simp +decide only[go_sem,nT,nA,nS,nM,nB,reduceIte,reduceCtorEq]
  rintro k T H ⟨i,rfl,hi,he,h0,h1,h12,h13,rfl⟩
  refine HW.run 200 (by kernel_rfl) ?_
  by_cases hlt:i<a.length
  ·have hlt' : ((i:Int)<(a.length:Int))=True:=by simp only[eq_iff_iff,iff_true];omega
   have hlt2:((i:Int)<(b.length:Int))=True:=by simp only[eq_iff_iff,iff_true];omega
   have hx:a[i]?=some a[i]:=List.getElem?_eq_getElem hlt
   have hy:b[i]?=some (b[i]'(by omega)):=List.getElem?_eq_getElem (by omega)
   generalize a[i]=x at hx
   generalize b[i]'(by omega)=y at hy
   simp +decide only[go_sem,nT,nA,nS,nM,nB,reduceIte,reduceCtorEq,h0,h1,h12,h13,hlt']
   refine HW.tree 1 (.light 0 (.light 1 (.light 2 (.light 3 (.light 4 (.light 5 (.light 6 (.light 7 (.light 8 .leaf))))))))) follows (by kernel_rfl) (by kernel_rfl) ?_
   simp +decide only[go_sem,nT,nA,nS,nM,nB,reduceIte,reduceCtorEq,h0,h1,h12,h13,hlt',hlt2,hx,hy]
   by_cases hxy:x=y
   ·subst hxy
    simp +decide only[go_sem,nT,nA,nS,nM,nB,reduceIte,reduceCtorEq,h0,h1,h12,h13]
    refine ⟨_,_,Ghost.refl,a.length-(i+1),by omega,i+1,rfl,by omega,by rw[List.take_add_one,List.take_add_one,he,hx,hy],?_,?_,?_,?_,rfl⟩
    all_goals first | (simp +decide only[go_sem,nB,reduceIte,h0,h1,h12];done) | (simp +decide only[go_sem,nB,reduceIte];rw[w64 (by omega) (by omega)];rfl)
   ·have hxy' : (x=y)=False:=eq_false hxy
    have:¬a=b:=fun e=>by rw[e,hy] at hx;exact hxy (Option.some.inj hx).symm
    rw[show decide (a=b)=false from decide_eq_false this]
    simp +decide only[go_sem,nT,nA,nS,nM,nB,reduceIte,reduceCtorEq,h0,h1,h12,h13,hxy']
  ·have hlt' : ((i:Int)<(a.length:Int))=False:=by simp only[eq_iff_iff,iff_false];omega
   have:a=b:=by rw[List.take_of_length_le (by omega),List.take_of_length_le (by omega)] at he;exact he
   rw[show decide (a=b)=true from decide_eq_true this]
   simp +decide only[go_sem,nT,nA,nS,nM,nB,reduceIte,reduceCtorEq,h0,h1,h12,h13,hlt']
 ·have hn' : ((a.length:Int)=(b.length:Int))=False:=by simp only[eq_iff_iff,iff_false];omega
  have:¬a=b:=fun e=>hn (by rw[e])
  rw[show decide (a=b)=false from decide_eq_false this]
  simp +decide only[go_sem,nT,nA,nS,nM,nB,reduceIte,reduceCtorEq,hn']
set_option maxHeartbeats 4000000 in
theorem zJ1 (a b:List Ot) (ha:a.length≤1000000) (hb:b.length≤1000000) (hsa:∀x∈a,SmallO x) (hsb:∀x∈b,SmallO x):HFn Tryz.prog 75 [.sl (ots a),.sl (ots b),.fn 76 []] (.v (.bool (decide (a=b)))):=by
 refine zB (fn:=Tryz.f75) 32 [6] (by kernel_rfl) rfl (by kernel_rfl) (HW.run 400 (by kernel_rfl) ?_)
 by_cases hn:a.length=b.length
 ·have hn' : ((a.length:Int)=(b.length:Int))=True:=by simp only[eq_iff_iff,iff_true];omega
  simp +decide only[go_sem,nT,nA,nS,nM,nB,reduceIte,reduceCtorEq,hn']
  refine HW.loopG (fun k T H=>∃i:Nat,k=a.length-i∧i≤a.length∧a.take i=b.take i∧T 1=.sl (ots b)∧T 2=.fn 76 []∧T 15=.sl (ots a)∧T 16=.v (.int .i64 a.length)∧T 17=.v (.int .i64 i)∧H=[]) a.length ⟨_,_,Ghost.refl,0,rfl,by omega,rfl,rfl,rfl,rfl,?_,rfl,rfl⟩ ?_
  ·simp +decide only[go_sem,nT,nA,nS,nM,nB,reduceIte,reduceCtorEq]
  rintro k T H ⟨i,rfl,hi,he,h1,h2,h15,h16,h17,rfl⟩
  refine HW.run 200 (by kernel_rfl) ?_
  by_cases hlt:i<a.length
  ·have hlt' : ((i:Int)<(a.length:Int))=True:=by simp only[eq_iff_iff,iff_true];omega
   have hlt2:((i:Int)<(b.length:Int))=True:=by simp only[eq_iff_iff,iff_true];omega
   have hx:a[i]?=some a[i]:=List.getElem?_eq_getElem hlt
   have hy:b[i]?=some (b[i]'(by omega)):=List.getElem?_eq_getElem (by omega)
   have hc:=zOE _ _ (hsa _ (List.getElem_mem hlt)) (hsb _ (List.getElem_mem (by omega:i<b.length)))
   generalize a[i]=x at hx hc
   generalize b[i]'(by omega)=y at hy hc
   simp +decide only[go_sem,nT,nA,nS,nM,nB,reduceIte,reduceCtorEq,h1,h2,h15,h16,h17,hlt',hlt2,hx,hy]
   refine zD (hc) rfl rfl ?_
   by_cases hxy:x=y
   ·subst hxy
    simp +decide only[go_sem,nT,nA,nS,nM,nB,reduceIte,reduceCtorEq,h1,h2,h15,h16,h17]
    refine ⟨_,_,Ghost.trunc [1,2,15,16,17] 0 (by omega) ?_ ?_,a.length-(i+1),by omega,i+1,rfl,by omega,by rw[List.take_add_one,List.take_add_one,he,hx,hy],?_,?_,?_,?_,?_,rfl⟩
    all_goals first | (simp +decide only[go_sem,nB,reduceIte,h1,h2,h15,h16];done) | (simp +decide only[go_sem,nB,reduceIte];rw[w64 (by omega) (by omega)];rfl)
   ·have hxy' : decide (x=y)=false:=decide_eq_false hxy
    have:¬a=b:=fun e=>by rw[e,hy] at hx;exact hxy (Option.some.inj hx).symm
    rw[show decide (a=b)=false from decide_eq_false this]
    simp +decide only[go_sem,nT,nA,nS,nM,nB,reduceIte,reduceCtorEq,h1,h2,h15,h16,h17,hxy']
  ·have hlt' : ((i:Int)<(a.length:Int))=False:=by simp only[eq_iff_iff,iff_false];omega
   have:a=b:=by rw[List.take_of_length_le (by omega),List.take_of_length_le (by omega)] at he;exact he
   rw[show decide (a=b)=true from decide_eq_true this]
   simp +decide only[go_sem,nT,nA,nS,nM,nB,reduceIte,reduceCtorEq,h1,h2,h15,h16,h17,hlt']
 ·have hn' : ((a.length:Int)=(b.length:Int))=False:=by simp only[eq_iff_iff,iff_false];omega
  have:¬a=b:=fun e=>hn (by rw[e])
  rw[show decide (a=b)=false from decide_eq_false this]
  simp +decide only[go_sem,nT,nA,nS,nM,nB,reduceIte,reduceCtorEq,hn']
theorem zXn (p:Prg) (a:Ans) (ha:SmallA a):HFn Tryz.prog 41 [chkC p a] (.v (.bool (zMF a))):=by
 have hE:=zJ1 a.ends a.loose (by have:=ha.ends;omega) (by have:=ha.loose;omega) ha.endO ha.looseO
 have e1:decide ((a.fences.length:Int)=0)=decide (a.fences=[]):=by
  cases a.fences with
  | nil=>rfl
  | cons x l=>simp;omega
 unfold zMF
 generalize decide (a.ends=a.loose)=z at hE
 refine zB (fn:=Tryz.f41) 22 [2] (by kernel_rfl) rfl (by kernel_rfl) (HW.run 400 (by kernel_rfl) ?_)
 simp +decide only[go_sem,nT,nA,nS,nM,nB,reduceIte,reduceCtorEq]
 refine HW.tree 1 (.light 0 (.light 1 (.light 2 (.light 3 (.light 4 (.light 5 (.light 6 (.light 7 (.light 8 (.light 9 (.light 10 (.light 11 (.light 12 (.light 13 (.light 14 (.light 15 (.light 16 (.heavy 17 [0,1,2,3,4,5,6] (.light 18 (.light 19 .leaf)) .stop)))))))))))))))))) follows (by kernel_rfl) (by kernel_rfl) ?_
 simp +decide only[go_sem,nT,nA,nS,nM,nB,reduceIte,reduceCtorEq,e1]
 refine zD (hE) rfl rfl ?_
 simp +decide only[go_sem,nT,nA,nS,nM,nB,reduceIte,reduceCtorEq,e1]
set_option maxHeartbeats 4000000 in
theorem zXl (p:Prg) (a:Ans) (ha:SmallA a):HFn Tryz.prog 38 [chkC p a] (.v (.bool (zFk a))):=by
 have h1:=zSH a.ends (by have:=ha.ends;omega) ha.endO
 have h2:=zSH a.loose (by have:=ha.loose;omega) ha.looseO
 unfold zFk
 refine zB (fn:=Tryz.f38) 32 [2] (by kernel_rfl) rfl (by kernel_rfl) (HW.run 400 (by kernel_rfl) ?_)
 simp +decide only[go_sem,nT,nA,nS,nM,nB,reduceIte,reduceCtorEq]
 refine HW.tree 1 (.light 0 (.light 1 (.light 2 (.light 3 (.light 4 (.heavy 5 [] (.light 6 (.light 7 (.light 8 (.light 9 (.light 10 (.light 11 (.heavy 12 [] (.light 13 (.light 14 (.light 15 (.light 16 (.light 17 (.light 18 (.light 19 (.light 20 (.light 21 (.light 22 (.light 23 (.light 24 (.heavy 25 [] (.light 26 (.light 27 (.light 28 (.light 29 .leaf)))) .stop))))))))))))) .stop))))))) .stop)))))) follows (by kernel_rfl) (by kernel_rfl) ?_
 simp +decide only[go_sem,nT,nA,nS,nM,nB,reduceIte,reduceCtorEq]
 refine zD (h1) rfl rfl ?_
 cases hb:setO a.ends with
 | false =>
  simp +decide only[go_sem,nT,nA,nS,nM,nB,reduceIte,reduceCtorEq]
  rfl
 | true =>
  simp +decide only[go_sem,nT,nA,nS,nM,nB,reduceIte,reduceCtorEq]
  refine zD (h2) rfl rfl ?_
  cases hb2:setO a.loose with
  | false =>
   simp +decide only[go_sem,nT,nA,nS,nM,nB,reduceIte,reduceCtorEq]
   rfl
  | true =>
   have h3:=zSI a.ends a.loose (by have:=ha.ends;omega) (by have:=ha.loose;omega) (zF2.1 hb2) ha.endO ha.looseO
   have e:decide (((zAm a.ends a.loose).length:Int)=0)=(zAm a.ends a.loose).isEmpty:=by
    cases zAm a.ends a.loose with
    | nil=>rfl
    | cons x l=>simp;omega
   simp +decide only[go_sem,nT,nA,nS,nM,nB,reduceIte,reduceCtorEq]
   refine zD (h3) rfl rfl ?_
   simp +decide only[go_sem,nT,nA,nS,nM,nB,reduceIte,reduceCtorEq,e]
end Go.Proofs.YtoknohandclcbaaGreat
namespace Go.Proofs.YtoknohandclcbaaGreat
open Go.RowKit
set_option maxRecDepth 8000
theorem zN7:∀(l:List Thd),(∀t∈l,t.regs.length≤1000)→(l.flatMap (·.regs)).length≤1000*l.length
 | [],_=>by simp
 | t::l,h=>by
  have:=zN7 l fun t ht=>h t (by simp[ht])
  have:=h t (by simp)
  simp only[List.flatMap_cons,List.length_append,List.length_cons]
  omega
theorem zMk {p:Prg} (hp:RightP p) {l:List Pck} {o:Ot} (h:zFW p l=some o):SmallO o:=by
 obtain ⟨_,_,rfl⟩:=zHk h
 have hs:RightS p (runW p (zK p) l).1:=zE9 (weak:=true) hp l (zK p) zBl
 have h1:=hs.mem
 have h2:=hs.ths
 have h3:=hp.init
 have h4:=hp.thr
 have h5:=zN7 _ (zH3 hs)
 exact ⟨by show (runW p (zK p) l).1.mem.length≤_;omega,by show (zHA (runW p (zK p) l).1).length≤_;unfold zHA;omega⟩
abbrev z2A (x:Prf):HObj:=⟨50,4,[[.sl (pcks x.picks),.sl (ints x.out.mem),.sl (ints x.out.regs),.sl (ints x.slots)]]⟩
def zEQ:Option Ot→List HV
 | none=>[.v (.slice none 0 0),.v (.slice none 0 0)]
 | some o=>[.sl (ints o.mem),.sl (ints o.regs)]
set_option maxHeartbeats 8000000 in
theorem zUN (p:Prg) (a:Ans) (x:Prf) (hp:RightP p) (ha:SmallA a) (hs1:SetO a.ends) (hs2:SetO a.loose) (hx:x∈a.proofs):HFn Tryz.prog 71 [chkC p a,prfH x] (.v (.bool (zA3 p a x))):=by
 have hE:HFn Tryz.prog 108 [prgH p,.sl (pcks x.picks),.v (.bool true)] (endR (zFW p x.picks)):=zYn p x.picks true hp (by have:=ha.picks x hx;omega)
 have hC:HFn Tryz.prog 109 [prgH p,.sl (pcks x.picks)] (.tu [.sl (ints (zHl p x.picks)),.v (.bool (zAz p (zK p) [] x.picks).isSome)]):=HFn.shut (zQ3 p x.picks hp (ha.picks x hx)) (by simp only[fzo,fzoL,zAU];rfl)
 have hcl:(zHl p x.picks).length≤1000000:=by
  have:=zUJ (p:=p) (l:=x.picks)
  have:=ha.picks x hx
  show ((zAz p (zK p) [] x.picks).getD []).length≤_
  omega
 have hQ:=zFi (zHl p x.picks) x.slots hcl (by have:=ha.slots x hx;omega)
 have hxo:=ha.outs x hx
 have hse:∀o,zFW p x.picks=some o→SmallO o:=fun o h=>zMk hp h
 unfold zA3
 generalize zFW p x.picks=eo at hE hse
 generalize (zAz p (zK p) [] x.picks).isSome=cb at hC
 generalize zHl p x.picks=cr at hC hQ hcl
 refine zB (fn:=Tryz.f71) 61 [4] (by kernel_rfl) rfl (by kernel_rfl) (HW.run 400 (by kernel_rfl) ?_)
 simp +decide only[go_sem,nT,nA,nS,nM,nB,reduceIte,reduceCtorEq]
 refine HW.treeI (fun T H=>T 0=chkC p a∧T 3=.pt 0 1 0 0∧T 5=.pt 1 1 0 0∧T 6=.v (.bool eo.isSome)∧H=[some (z2A x),some ⟨44,2,[zEQ eo]⟩]) (.light 0 (.light 1 (.light 2 (.light 3 (.light 4 (.light 5 (.heavy 6 [] (.light 7 (.light 8 (.light 9 (.heavy 10 [0,1,2,3,4,5,7,8,9] (.heavy 11 [9] (.light 12 .leaf) .stop) .stop)))) (.heavy 10 [0,1,2,3,4,5] (.heavy 6 [] (.light 7 (.light 8 (.light 9 (.heavy 11 [9] (.light 12 .leaf) .stop)))) .stop) .stop)))))))) follows (by kernel_rfl) (by kernel_rfl) ?_ ?_
 ·cases eo with
  | none =>
   simp only[endR] at hE
   simp +decide only[go_sem,nT,nA,nS,nM,nB,reduceIte,reduceCtorEq]
   refine ⟨?_,?_⟩
   all_goals
    refine zD (hE) rfl rfl ?_
    simp +decide only[go_sem,nT,nA,nS,nM,nB,reduceIte,reduceCtorEq]
    refine GQ.done ⟨?_,?_,?_,?_,rfl⟩
    all_goals first | (simp +decide only[go_sem,nB,reduceIte];done) | rfl
  | some o =>
   simp only[endR] at hE
   simp +decide only[go_sem,nT,nA,nS,nM,nB,reduceIte,reduceCtorEq]
   refine ⟨?_,?_⟩
   all_goals
    refine zD (hE) rfl rfl ?_
    simp +decide only[go_sem,nT,nA,nS,nM,nB,reduceIte,reduceCtorEq]
    refine GQ.done ⟨?_,?_,?_,?_,rfl⟩
    all_goals first | (simp +decide only[go_sem,nB,reduceIte];done) | rfl
 rintro T H ⟨h0,h3,h5,h6,rfl⟩
 simp +decide only[go_sem,nT,nA,nS,nM,nB,reduceIte,reduceCtorEq,h0,h3,h5,h6]
 refine HW.tree 1 (.light 0 (.light 1 (.light 2 (.light 3 (.light 4 (.light 5 (.heavy 6 [] (.light 7 (.light 8 (.light 9 (.light 10 (.light 11 .leaf))))) .stop))))))) follows (by kernel_rfl) (by kernel_rfl) ?_
 simp +decide only[go_sem,nT,nA,nS,nM,nB,reduceIte,reduceCtorEq,h0,h3,h5,h6]
 refine zD (hC) rfl rfl ?_
 simp +decide only[go_sem,nT,nA,nS,nM,nB,reduceIte,reduceCtorEq,h0,h3,h5,h6]
 refine HW.tree 1 (.light 0 (.light 1 (.light 2 (.light 3 (.light 4 (.heavy 5 [] (.light 6 (.light 7 (.light 8 (.light 9 (.light 10 (.heavy 11 [] (.light 12 (.light 13 (.light 14 (.light 15 (.light 16 (.light 17 (.light 18 (.light 19 (.heavy 20 [] (.light 21 (.light 22 (.light 23 (.light 24 (.light 25 (.light 26 (.light 27 (.light 28 (.light 29 (.heavy 30 [] (.light 31 (.light 32 .leaf)) .stop)))))))))) .stop))))))))) .stop)))))) .stop)))))) follows (by kernel_rfl) (by kernel_rfl) ?_
 cases eo with
 | none =>
  simp +decide only[go_sem,nT,nA,nS,nM,nB,reduceIte,reduceCtorEq,h0,h3,h5,h6,Option.isSome_none]
 | some o =>
  have hso:=hse o rfl
  have h1:=zOE o x.out hso hxo
  have h2:=zMC a.ends o (by have:=ha.ends;omega) hs1 ha.endO hso
  have h4:=zMC a.loose o (by have:=ha.loose;omega) hs2 ha.looseO hso
  simp only
  generalize decide (o=x.out)=b1 at h1
  generalize decide (cr=x.slots)=b2 at hQ
  generalize hasO a.ends o=b3 at h2
  generalize hasO a.loose o=b4 at h4
  simp +decide only[go_sem,nT,nA,nS,nM,nB,reduceIte,reduceCtorEq,h0,h3,h5,h6,Option.isSome_some,zEQ]
  refine zD (h1) rfl rfl ?_
  cases b1 with
  | false =>
   simp +decide only[go_sem,nT,nA,nS,nM,nB,reduceIte,reduceCtorEq,h0,h3,h5,h6,zEQ]
   rfl
  | true =>
   simp +decide only[go_sem,nT,nA,nS,nM,nB,reduceIte,reduceCtorEq,h0,h3,h5,h6,zEQ]
   refine zD (hQ) rfl rfl ?_
   cases b2 with
   | false =>
    simp +decide only[go_sem,nT,nA,nS,nM,nB,reduceIte,reduceCtorEq,h0,h3,h5,h6,zEQ]
    rfl
   | true =>
    simp +decide only[go_sem,nT,nA,nS,nM,nB,reduceIte,reduceCtorEq,h0,h3,h5,h6,zEQ]
    refine zD (h2) rfl rfl ?_
    cases b3 with
    | true =>
     simp +decide only[go_sem,nT,nA,nS,nM,nB,reduceIte,reduceCtorEq,h0,h3,h5,h6,zEQ]
     rfl
    | false =>
     simp +decide only[go_sem,nT,nA,nS,nM,nB,reduceIte,reduceCtorEq,h0,h3,h5,h6,zEQ]
     refine zD (h4) rfl rfl ?_
     simp +decide only[go_sem,nT,nA,nS,nM,nB,reduceIte,reduceCtorEq,h0,h3,h5,h6,zEQ]
end Go.Proofs.YtoknohandclcbaaGreat
namespace Go.Proofs.YtoknohandclcbaaGreat
open Go.RowKit
set_option maxRecDepth 8000
theorem zMu (p:Prg) (a:Ans) (x:Prf) (hp:RightP p) (ha:SmallA a) (hs1:SetO a.ends) (hs2:SetO a.loose) (hx:x∈a.proofs):HFn Tryz.prog 70 [prfH x,.fp [[chkC p a]] 0 0] (.v (.bool (!zA3 p a x))):=by
 have h:=zUN p a x hp ha hs1 hs2 hx
 refine zB (fn:=Tryz.f70) 8 [3] (by kernel_rfl) rfl (by kernel_rfl) (HW.run 400 (by kernel_rfl) ?_)
 simp +decide only[go_sem,nT,nA,nS,nM,nB,reduceIte,reduceCtorEq]
 refine zD (h) rfl rfl ?_
 simp +decide only[go_sem,nT,nA,nS,nM,nB,reduceIte,reduceCtorEq]
theorem zQ7 (p:Prg) (a:Ans) (hp:RightP p) (ha:SmallA a) (hs1:SetO a.ends) (hs2:SetO a.loose):HFn Tryz.prog 39 [chkC p a] (.v (.bool (a.proofs.all (zA3 p a)))):=by
 have h:=conP a.proofs 70 [.fp [[chkC p a]] 0 0] (fun x=>!zA3 p a x) (by have:=ha.proofs;omega) (fun x _=>rfl) rfl (fun i x hx _=>zMu p a x hp ha hs1 hs2 (List.mem_of_getElem? hx))
 have e:a.proofs.all (zA3 p a) = !(a.proofs.any fun x=>!zA3 p a x):=by rw[List.all_eq_not_any_not]
 rw[e]
 generalize (a.proofs.any fun x=>!zA3 p a x)=b at h
 refine zB (fn:=Tryz.f39) 11 [2] (by kernel_rfl) rfl (by kernel_rfl) (HW.run 400 (by kernel_rfl) ?_)
 simp +decide only[go_sem,nT,nA,nS,nM,nB,reduceIte,reduceCtorEq]
 refine zO 3 h (by simp only[go_sem];rfl) rfl ?_
 simp +decide only[go_sem,nT,nA,nS,nM,nB,reduceIte,reduceCtorEq]
set_option maxHeartbeats 4000000 in
theorem zXm (a:Ans) (ha:a.proofs.length≤100000):HFn Tryz.prog 73 [ansH a] (.sl (rws (zAC a.proofs))):=by
 refine HFn.shut (R:=.ow 22 1 (rws (zAC a.proofs))) ?_ (by simp only[fzo,zII])
 refine zB (fn:=Tryz.f73) 20 [2] (by kernel_rfl) rfl (by kernel_rfl) (HW.run 400 (by kernel_rfl) ?_)
 simp +decide only[go_sem,nT,nA,nS,nM,nB,reduceIte,reduceCtorEq]
 refine HW.loopG (fun k T H=>∃i:Nat,k=a.proofs.length-i∧i≤a.proofs.length∧T 3=.hd 1 0 (zAC (a.proofs.take i)).length∧T 7=.sl (pfs a.proofs)∧T 8=.v (.int .i64 a.proofs.length)∧T 9=.v (.int .i64 i)∧
  H=[some ⟨29,5,[[.sl (ints a.fences),.sl (pfs a.proofs),.sl (ots a.ends),.sl (ots a.loose),.v (.int .i64 a.states)]]⟩,some ⟨22,1,rws (zAC (a.proofs.take i))⟩]) a.proofs.length
  ⟨_,_,Ghost.nil 3 22 1 rfl,0,rfl,by omega,?_,?_,?_,?_,rfl⟩ ?_
 ·simp +decide only[go_sem,nB,reduceIte]
  rfl
 ·simp +decide only[go_sem,nB,reduceIte]
 ·simp +decide only[go_sem,nB,reduceIte]
 ·simp +decide only[go_sem,nB,reduceIte]
  rfl
 rintro k T H ⟨i,rfl,hi,h3,h7,h8,h9,rfl⟩
 refine HW.run 200 (by kernel_rfl) ?_
 by_cases hlt:i<a.proofs.length
 ·have hlt' : ((i:Int)<(a.proofs.length:Int))=True:=by simp only[eq_iff_iff,iff_true];omega
  have hx:a.proofs[i]?=some a.proofs[i]:=List.getElem?_eq_getElem hlt
  have htk:zAC (a.proofs.take (i+1))=zAC (a.proofs.take i)++[(a.proofs[i]).slots]:=by
   unfold zAC;rw[List.take_add_one,hx,List.map_append];rfl
  generalize a.proofs[i]=x at hx htk
  have hln:(zAC (a.proofs.take i)).length≤100000:=by unfold zAC;simp;omega
  simp +decide only[go_sem,nT,nA,nS,nM,nB,reduceIte,reduceCtorEq,h3,h7,h8,h9,hlt',hx]
  repeat (with_reducible refine And.intro ?_ ?_;·(with_reducible and_intros) <;> omega)
  refine ⟨_,_,Ghost.trunc [3,7,8,9] 2 (by omega) ?_ ?_,a.proofs.length-(i+1),by omega,i+1,rfl,by omega,?_,?_,?_,?_,?_⟩
  all_goals first | (simp +decide only[go_sem,nB,reduceIte,h3,h7,h8];done) | (simp +decide only[go_sem,nB,reduceIte];rw[w64 (by omega) (by omega)];rfl) | (simp +decide only[go_sem,nT,nA,nS,nM,nB,reduceIte,reduceCtorEq,htk,List.length_append];done)
 ·have hlt' : ((i:Int)<(a.proofs.length:Int))=False:=by simp only[eq_iff_iff,iff_false];omega
  have e:a.proofs.take i=a.proofs:=List.take_of_length_le (by omega)
  simp +decide only[go_sem,nT,nA,nS,nM,nB,reduceIte,reduceCtorEq,h3,h7,h8,h9,hlt',e]
theorem zUO (p:Prg) (a:Ans) (ha:SmallA a):HFn Tryz.prog 40 [chkC p a] (.v (.bool (zFH a))):=by
 have hr:=zXm a (by have:=ha.proofs;omega)
 have hL:=zWi (zAC a.proofs) (by unfold zAC;simp;have:=ha.proofs;omega) (fun r h=>by
  unfold zAC at h
  obtain ⟨x,hx,rfl⟩:=List.mem_map.1 h
  exact ha.slots x hx) ha.all
 have hlen:∀r,zBe (zAC a.proofs)=(r,true)→r.length≤1000000:=fun r h=>by
  obtain ⟨n,hn,_⟩:=(zD5 h).2
  obtain ⟨_,s,e,_,hsub⟩:=zDl _ _ _ _ _ hn
  rw[List.nil_append] at e
  subst e
  have h1:=hsub.length_le
  have h2:=zOM (zAC a.proofs)
  have h3:=ha.all
  omega
 unfold zFH
 generalize zBe (zAC a.proofs)=R at hL hlen
 generalize zAC a.proofs=sr at hr hL
 obtain ⟨r,b⟩:=R
 cases b with
 | false =>
  simp only[zNi] at hL
  refine zB (fn:=Tryz.f40) 24 [2] (by kernel_rfl) rfl (by kernel_rfl) (HW.run 400 (by kernel_rfl) ?_)
  simp +decide only[go_sem,nT,nA,nS,nM,nB,reduceIte,reduceCtorEq]
  refine zD (hr) rfl rfl ?_
  simp +decide only[go_sem,nT,nA,nS,nM,nB,reduceIte,reduceCtorEq]
  refine zD (hL) rfl rfl ?_
  simp +decide only[go_sem,nT,nA,nS,nM,nB,reduceIte,reduceCtorEq]
  rfl
 | true =>
  simp only[zNi] at hL
  have hQ:=zFi r a.fences (hlen r rfl) (by have:=ha.fences;omega)
  refine zB (fn:=Tryz.f40) 24 [2] (by kernel_rfl) rfl (by kernel_rfl) (HW.run 400 (by kernel_rfl) ?_)
  simp +decide only[go_sem,nT,nA,nS,nM,nB,reduceIte,reduceCtorEq]
  refine zD (hr) rfl rfl ?_
  simp +decide only[go_sem,nT,nA,nS,nM,nB,reduceIte,reduceCtorEq]
  refine zD (hL) rfl rfl ?_
  simp +decide only[go_sem,nT,nA,nS,nM,nB,reduceIte,reduceCtorEq]
  refine zD (hQ) rfl rfl ?_
  simp +decide only[go_sem,nT,nA,nS,nM,nB,reduceIte,reduceCtorEq]
end Go.Proofs.YtoknohandclcbaaGreat
namespace Go.Proofs.YtoknohandclcbaaGreat
open Go.RowKit
set_option maxRecDepth 8000
theorem zMJ {a b:List Ot} {i:Nat} {x:Ot} (hx:a[i]?=some x):zAm (a.take (i+1)) b=if hasO b x=true then zAm (a.take i) b else zAm (a.take i) b++[x]:=zEl hx
set_option maxHeartbeats 4000000 in
theorem zVs (a b:List Ot) (ha:a.length≤1000000) (hb:b.length≤1000000) (hsa:∀x∈a,SmallO x) (hsb:∀x∈b,SmallO x):HFn Tryz.prog 26 [.sl (ots a),.sl (ots b)] (.ow 44 2 (ots (zAm a b))):=by
 refine zB (fn:=Tryz.f26) 28 [4] (by kernel_rfl) rfl (by kernel_rfl) (HW.run 400 (by kernel_rfl) ?_)
 simp +decide only[go_sem,nT,nA,nS,nM,nB,reduceIte,reduceCtorEq]
 refine HW.loopG (fun k T H=>∃i:Nat,k=a.length-i∧i≤a.length∧T 0=.sl (ots a)∧T 1=.sl (ots b)∧T 5=.hd 0 0 (zAm (a.take i) b).length∧T 6=.v (.int .i64 i)∧H=[some ⟨44,2,ots (zAm (a.take i) b)⟩]) a.length ⟨_,_,Ghost.nil 5 44 2 rfl,0,rfl,by omega,?_,?_,?_,?_,rfl⟩ ?_
 iterate 4 first | (simp +decide only[go_sem,nB,reduceIte];done) | exact rfl
 rintro k T H ⟨i,rfl,hi,h0,h1,h5,h6,rfl⟩
 refine HW.run 200 (by kernel_rfl) ?_
 by_cases hlt:i<a.length
 ·have hlt' : ((i:Int)<(a.length:Int))=True:=by simp only[eq_iff_iff,iff_true];omega
  have hx:a[i]?=some a[i]:=List.getElem?_eq_getElem hlt
  have hc:=zZB b _ hb hsb (hsa _ (List.getElem_mem hlt))
  generalize a[i]=x at hx hc
  have htk:=zMJ (b:=b) hx
  have hln:(zAm (a.take i) b).length≤i:=by
   have:=List.length_filter_le (fun o=>!hasO b o) (a.take i)
   simp only[List.length_take] at this
   unfold zAm;omega
  simp +decide only[go_sem,nT,nA,nS,nM,nB,reduceIte,reduceCtorEq,h0,h1,h5,h6,hlt',hx]
  refine zD (hc) rfl rfl ?_
  cases hh:hasO b x with
  | true =>
   rw[if_pos hh] at htk
   simp +decide only[go_sem,nT,nA,nS,nM,nB,reduceIte,reduceCtorEq,h0,h1,h5,h6]
   refine ⟨_,_,Ghost.refl,a.length-(i+1),by omega,i+1,rfl,by omega,?_,?_,?_,?_,?_⟩
   all_goals first | (simp +decide only[go_sem,nB,reduceIte,h0,h1,h5];done) | (simp +decide only[go_sem,nB,reduceIte,h5,htk];done) | (simp +decide only[go_sem,nB,reduceIte];rw[w64 (by omega) (by omega)];rfl) | (rw[htk];done)
  | false =>
   rw[if_neg (by rw[hh];simp)] at htk
   simp +decide only[go_sem,nT,nA,nS,nM,nB,reduceIte,reduceCtorEq,h0,h1,h5,h6,hlt',hx]
   repeat (with_reducible refine And.intro ?_ ?_;·(with_reducible and_intros) <;> omega)
   refine ⟨_,_,Ghost.trunc [0,1,5,6] 1 (by omega) ?_ ?_,a.length-(i+1),by omega,i+1,rfl,by omega,?_,?_,?_,?_,?_⟩
   all_goals first | (simp +decide only[go_sem,nB,reduceIte,h0,h1,h5];done) | (simp +decide only[go_sem,nB,reduceIte];rw[w64 (by omega) (by omega)];rfl) | (simp +decide only[go_sem,nT,nA,nS,nM,nB,reduceIte,reduceCtorEq,htk,List.length_append];done)
 ·have hlt' : ((i:Int)<(a.length:Int))=False:=by simp only[eq_iff_iff,iff_false];omega
  have e:a.take i=a:=List.take_of_length_le (by omega)
  simp +decide only[go_sem,nT,nA,nS,nM,nB,reduceIte,reduceCtorEq,h0,h1,h5,h6,hlt',e]
def insO (o:Ot):List Ot→List Ot
 | []=>[o]
 | x::l=>if x=o then x::l else if zAv o x=true then o::x::l else x::insO o l
theorem zI8 {o y:Ot}:∀{l:List Ot},y∈insO o l↔y∈l∨y=o
 | []=>by simp[insO]
 | x::l=>by
  unfold insO
  split
  ·rename_i h;subst h;simp;intro h;exact .inl h
  ·split
   ·simp;grind
   ·simp only[List.mem_cons,zI8 (l:=l)];grind
theorem zSg {o x:Ot} {l:List Ot} {i:Nat} (hx:l[i]?=some x):insO o (l.drop i)=if x=o then x::l.drop (i+1) else if zAv o x=true then o::x::l.drop (i+1) else x::insO o (l.drop (i+1)):=by
 obtain ⟨h1,e1⟩:=List.getElem?_eq_some_iff.1 hx
 rw[List.drop_eq_getElem_cons h1,e1,insO]
set_option maxHeartbeats 8000000 in
theorem zYz (l:List Ot) (o:Ot) (hl:l.length≤1000000) (hsl:∀x∈l,SmallO x) (ho:SmallO o):HFn Tryz.prog 25 [.sl (ots l),otH o] (.ow 44 2 (ots (insO o l))):=by
  refine zB (fn:=Tryz.f25) 48 [4] (by kernel_rfl) rfl (by kernel_rfl) (HW.run 400 (by kernel_rfl) ?_)
  simp +decide only[go_sem,nT,nA,nS,nM,nB,reduceIte,reduceCtorEq]
  refine HW.loopG (fun k T H=>∃(i:Nat) (out:List Ot) (d:Bool),k=l.length-i∧i≤l.length∧out.length≤i+d.toNat∧insO o l=out++(if d=true then l.drop i else insO o (l.drop i))∧T 0=.sl (ots l)∧T 3=.pt 0 1 0 0∧T 5=.hd 1 0 out.length∧T 6=.v (.bool d)∧T 7=.v (.int .i64 i)∧
    H=[some ⟨44,2,[[.sl (ints o.mem),.sl (ints o.regs)]]⟩,some ⟨44,2,ots out⟩]) l.length ⟨_,_,Ghost.nil 5 44 2 rfl,0,[],false,rfl,by omega,by simp,rfl,?_,?_,?_,?_,?_,rfl⟩ ?_
  iterate 5 first | (simp +decide only[go_sem,nB,reduceIte];done) | exact rfl
  rintro k T H ⟨i,out,d,rfl,hi,hol,hI,h0,h3,h5,h6,h7,rfl⟩
  refine HW.run 200 (by kernel_rfl) ?_
  by_cases hlt:i<l.length
  · have hlt' : ((i:Int)<(l.length:Int))=True:=by simp only[eq_iff_iff,iff_true];omega
    have hx:l[i]?=some l[i]:=List.getElem?_eq_getElem hlt
    have hc:=zEa _ o (hsl _ (List.getElem_mem hlt)) ho
    have hL:=zRr o _ ho (hsl _ (List.getElem_mem hlt))
    have hdr:l.drop i=l[i]::l.drop (i+1):=List.drop_eq_getElem_cons hlt
    generalize l[i]=x at hx hc hL hdr
    rw[zSg hx] at hI
    have w1:IntKind.i64.wrap ((i:Int)+1)=((i+1:Nat):Int):=by rw[w64 (by omega) (by omega)];omega
    simp +decide only[go_sem,nT,nA,nS,nM,nB,reduceIte,reduceCtorEq,h0,h3,h5,h6,h7,hlt']
    refine HW.tree 1 (.light 0 (.light 1 (.light 2 (.light 3 (.light 4 (.heavy 5 [] .leaf .stop)))))) follows (by kernel_rfl) (by kernel_rfl) ?_
    simp +decide only[go_sem,nT,nA,nS,nM,nB,reduceIte,reduceCtorEq,h0,h3,h5,h6,h7,hlt',hx]
    refine zD (hc) rfl rfl ?_
    cases d with
    | true =>
      simp only[Bool.toNat_true] at hol
      rw[if_pos rfl,hdr] at hI
      by_cases hxo:x=o
      all_goals
        first
          | (have e:decide (x=o)=true:=decide_eq_true hxo
             simp +decide only[go_sem,nT,nA,nS,nM,nB,reduceIte,reduceCtorEq,h0,h3,h5,h6,h7,e])
          | (have e:decide (x=o)=false:=decide_eq_false hxo
             simp +decide only[go_sem,nT,nA,nS,nM,nB,reduceIte,reduceCtorEq,h0,h3,h5,h6,h7,e])
        refine HW.tree 1 (.light 0 (.light 1 (.light 2 (.light 3 (.light 4 (.light 5 (.light 6 (.light 7 (.heavy 8 [] (.light 9 .leaf) .stop))))))))) follows (by kernel_rfl) (by kernel_rfl) ?_
        simp +decide only[go_sem,nT,nA,nS,nM,nB,reduceIte,reduceCtorEq,h0,h3,h5,h6,h7,hlt',hx]
        repeat (with_reducible refine And.intro ?_ ?_;· (with_reducible and_intros) <;> omega)
        refine ⟨_,_,Ghost.trunc [0,3,5,6,7] 2 (by omega) ?_ ?_,l.length-(i+1),by omega,i+1,out++[x],true,rfl,by omega,by simp;omega,by rw[hI,if_pos rfl,List.append_assoc];rfl,?_,?_,?_,?_,?_,?_⟩
        all_goals first | (simp +decide only[go_sem,nB,reduceIte,h0,h3,h5,h6,w1];done) | (simp +decide only[go_sem,nT,nA,nS,nM,nB,reduceIte,reduceCtorEq,w1,List.length_append];done)
    | false =>
      simp only[Bool.toNat_false] at hol
      rw[if_neg (by simp)] at hI
      by_cases hxo:x=o
      · rw[if_pos hxo] at hI
        have e:decide (x=o)=true:=decide_eq_true hxo
        simp +decide only[go_sem,nT,nA,nS,nM,nB,reduceIte,reduceCtorEq,h0,h3,h5,h6,h7,e]
        refine HW.tree 1 (.light 0 (.light 1 (.light 2 (.light 3 (.light 4 (.light 5 (.light 6 (.light 7 (.heavy 8 [] (.light 9 .leaf) .stop))))))))) follows (by kernel_rfl) (by kernel_rfl) ?_
        simp +decide only[go_sem,nT,nA,nS,nM,nB,reduceIte,reduceCtorEq,h0,h3,h5,h6,h7,hlt',hx]
        repeat (with_reducible refine And.intro ?_ ?_;· (with_reducible and_intros) <;> omega)
        refine ⟨_,_,Ghost.trunc [0,3,5,6,7] 2 (by omega) ?_ ?_,l.length-(i+1),by omega,i+1,out++[x],true,rfl,by omega,by simp;omega,by rw[hI,if_pos rfl,List.append_assoc];rfl,?_,?_,?_,?_,?_,?_⟩
        all_goals first | (simp +decide only[go_sem,nB,reduceIte,h0,h3,h5,h6,w1];done) | (simp +decide only[go_sem,nT,nA,nS,nM,nB,reduceIte,reduceCtorEq,w1,List.length_append];done)
      · rw[if_neg hxo] at hI
        have e:decide (x=o)=false:=decide_eq_false hxo
        simp +decide only[go_sem,nT,nA,nS,nM,nB,reduceIte,reduceCtorEq,h0,h3,h5,h6,h7,e]
        refine HW.tree 1 (.light 0 (.light 1 (.light 2 (.light 3 (.light 4 (.light 5 (.light 6 (.light 7 (.heavy 8 [] (.light 9 .leaf) .stop))))))))) follows (by kernel_rfl) (by kernel_rfl) ?_
        simp +decide only[go_sem,nT,nA,nS,nM,nB,reduceIte,reduceCtorEq,h0,h3,h5,h6,h7,hlt',hx]
        refine zD (hL) rfl rfl ?_
        cases hb:zAv o x with
        | true =>
          rw[if_pos hb] at hI
          simp +decide only[go_sem,nT,nA,nS,nM,nB,reduceIte,reduceCtorEq,h0,h3,h5,h6,h7,hlt',hx]
          repeat (with_reducible refine And.intro ?_ ?_;· (with_reducible and_intros) <;> omega)
          refine ⟨_,_,Ghost.trunc [0,3,5,6,7] 2 (by omega) ?_ ?_,l.length-(i+1),by omega,i+1,out++[o]++[x],true,rfl,by omega,by simp;omega,by rw[hI,if_pos rfl,List.append_assoc,List.append_assoc];rfl,?_,?_,?_,?_,?_,?_⟩
          all_goals first | (simp +decide only[go_sem,nB,reduceIte,h0,h3,h5,h6,w1];done) | (simp +decide only[go_sem,nT,nA,nS,nM,nB,reduceIte,reduceCtorEq,w1,List.length_append];done)
        | false =>
          rw[if_neg (by rw[hb];simp)] at hI
          simp +decide only[go_sem,nT,nA,nS,nM,nB,reduceIte,reduceCtorEq,h0,h3,h5,h6,h7,hlt',hx]
          repeat (with_reducible refine And.intro ?_ ?_;· (with_reducible and_intros) <;> omega)
          refine ⟨_,_,Ghost.trunc [0,3,5,6,7] 2 (by omega) ?_ ?_,l.length-(i+1),by omega,i+1,out++[x],false,rfl,by omega,by simp;omega,by rw[hI,if_neg (by simp),List.append_assoc];rfl,?_,?_,?_,?_,?_,?_⟩
          all_goals first | (simp +decide only[go_sem,nB,reduceIte,h0,h3,h5,h6,w1];done) | (simp +decide only[go_sem,nT,nA,nS,nM,nB,reduceIte,reduceCtorEq,w1,List.length_append];done)
  · have hlt' : ((i:Int)<(l.length:Int))=False:=by simp only[eq_iff_iff,iff_false];omega
    have e:l.drop i=[]:=List.drop_of_length_le (by omega)
    rw[e] at hI
    cases d with
    | true =>
      rw[if_pos rfl,List.append_nil] at hI
      simp +decide only[go_sem,nT,nA,nS,nM,nB,reduceIte,reduceCtorEq,h0,h3,h5,h6,h7,hlt',hI]
    | false =>
      simp only[Bool.toNat_false] at hol
      rw[if_neg (by simp),insO] at hI
      simp +decide only[go_sem,nT,nA,nS,nM,nB,reduceIte,reduceCtorEq,h0,h3,h5,h6,h7,hlt']
      repeat (with_reducible refine And.intro ?_ ?_;· (with_reducible and_intros) <;> omega)
      simp +decide only[go_sem,nT,nA,nS,nM,nB,reduceIte,reduceCtorEq,hI]
set_option maxHeartbeats 4000000 in
theorem zYy (l:List Prf) (hl:l.length≤100000):HFn Tryz.prog 30 [.sl (pfs l)] (.sl (rws (zAC l))):=by
 refine HFn.shut (R:=.ow 22 1 (rws (zAC l))) ?_ (by simp only[fzo,zII])
 refine zB (fn:=Tryz.f30) 20 [2] (by kernel_rfl) rfl (by kernel_rfl) (HW.run 400 (by kernel_rfl) ?_)
 simp +decide only[go_sem,nT,nA,nS,nM,nB,reduceIte,reduceCtorEq]
 refine HW.loopG (fun k T H=>∃i:Nat,k=l.length-i∧i≤l.length∧T 0=.sl (pfs l)∧T 3=.hd 0 0 (zAC (l.take i)).length∧T 4=.v (.int .i64 i)∧H=[some ⟨22,1,rws (zAC (l.take i))⟩]) l.length ⟨_,_,Ghost.nil 3 22 1 rfl,0,rfl,by omega,?_,?_,?_,rfl⟩ ?_
 iterate 3 first | (simp +decide only[go_sem,nB,reduceIte];done) | exact rfl
 rintro k T H ⟨i,rfl,hi,h0,h3,h4,rfl⟩
 refine HW.run 200 (by kernel_rfl) ?_
 by_cases hlt:i<l.length
 ·have hlt' : ((i:Int)<(l.length:Int))=True:=by simp only[eq_iff_iff,iff_true];omega
  have hx:l[i]?=some l[i]:=List.getElem?_eq_getElem hlt
  have htk:zAC (l.take (i+1))=zAC (l.take i)++[(l[i]).slots]:=by
   unfold zAC;rw[List.take_add_one,hx,List.map_append];rfl
  generalize l[i]=x at hx htk
  have hln:(zAC (l.take i)).length≤100000:=by unfold zAC;simp;omega
  simp +decide only[go_sem,nT,nA,nS,nM,nB,reduceIte,reduceCtorEq,h0,h3,h4,hlt',hx]
  repeat (with_reducible refine And.intro ?_ ?_;·(with_reducible and_intros) <;> omega)
  refine ⟨_,_,Ghost.trunc [0,3,4] 1 (by omega) ?_ ?_,l.length-(i+1),by omega,i+1,rfl,by omega,?_,?_,?_,?_⟩
  all_goals first | (simp +decide only[go_sem,nB,reduceIte,h0,h3];done) | (simp +decide only[go_sem,nB,reduceIte];rw[w64 (by omega) (by omega)];rfl) | (simp +decide only[go_sem,nT,nA,nS,nM,nB,reduceIte,reduceCtorEq,htk,List.length_append];done)
 ·have hlt' : ((i:Int)<(l.length:Int))=False:=by simp only[eq_iff_iff,iff_false];omega
  have e:l.take i=l:=List.take_of_length_le (by omega)
  simp +decide only[go_sem,nT,nA,nS,nM,nB,reduceIte,reduceCtorEq,h0,h3,h4,hlt',e]
end Go.Proofs.YtoknohandclcbaaGreat
namespace Go.Proofs.YtoknohandclcbaaGreat
open Go.RowKit
set_option maxRecDepth 8000
end Go.Proofs.YtoknohandclcbaaGreat
namespace Go.Proofs.YtoknohandclcbaaGreat
open Go.RowKit
set_option maxRecDepth 8000
theorem zXo (c:HV) (f:Nat) (b:Bool) (hn:nmL 0 (fnA f .any [] [c])=true) (h:HFn Tryz.prog (fnF f) (fnA f .any [] [c]) (.v (.bool b))):HFn Tryz.prog 66 [.fn f [c]] (.v (.bool (!b))):=by
 refine zB (fn:=Tryz.f66) 6 [2] (by kernel_rfl) rfl (by kernel_rfl) (HW.run 400 (by kernel_rfl) ?_)
 simp +decide only[go_sem,nT,nA,nS,nM,nB,reduceIte,reduceCtorEq]
 refine zD h rfl hn ?_
 simp +decide only[go_sem,nT,nA,nS,nM,nB,reduceIte,reduceCtorEq]
abbrev zXD (c:HV) (f1 f2 f3 f4:Nat):List (List HV):=[[.fn f1 [c]],[.fn f2 [c]],[.fn f3 [c]],[.fn f4 [c]]]
def no4 (b1 b2 b3 b4:Bool):Int:=if b1=false then 0 else if b2=false then 1 else if b3=false then 2 else if b4=false then 3 else -1
set_option maxHeartbeats 4000000 in
theorem zPh (c:HV) (f1 f2 f3 f4:Nat) (b1 b2 b3 b4:Bool) (hc:nm 0 c=true) (htv:tv c=true) (h1:HFn Tryz.prog 66 [.fn f1 [c]] (.v (.bool (!b1)))) (h2:b1=true→HFn Tryz.prog 66 [.fn f2 [c]] (.v (.bool (!b2))))
  (h3:b1=true→b2=true→HFn Tryz.prog 66 [.fn f3 [c]] (.v (.bool (!b3)))) (h4:b1=true→b2=true→b3=true→HFn Tryz.prog 66 [.fn f4 [c]] (.v (.bool (!b4)))) :
  HFn Tryz.prog 102 [.sl (zXD c f1 f2 f3 f4),.fn 66 []] (.v (.int .i64 (no4 b1 b2 b3 b4))):=by
 have hnm:∀f,nmL 0 [.fn f [c]]=true:=fun f=>by simp[nmL,nm,hc]
 refine zB (fn:=Tryz.f102) 19 [4] (by kernel_rfl) rfl (by kernel_rfl) (HW.run 400 (by kernel_rfl) ?_)
 simp +decide only[go_sem,nT,nA,nS,nM,nB,reduceIte,reduceCtorEq]
 refine HW.loopG (fun k T H=>∃i:Nat,k=4-i∧i≤4∧(1≤i→b1=true)∧(2≤i→b2=true)∧(3≤i→b3=true)∧(4≤i→b4=true)∧T 0=.sl (zXD c f1 f2 f3 f4)∧T 1=.fn 66 []∧T 7=.v (.int .i64 4)∧T 8=.v (.int .i64 i)∧H=[]) 4 ⟨_,_,Ghost.refl,0,rfl,by omega,by omega,by omega,by omega,by omega,rfl,rfl,rfl,rfl,rfl⟩ ?_
 rintro k T H ⟨i,rfl,hi,p1,p2,p3,p4,h0,ht1,h7,h8,rfl⟩
 refine HW.run 200 (by kernel_rfl) ?_
 rcases i with _ | _ | _ | _ | _ | i
 ·simp +decide only[go_sem,nT,nA,nS,nM,nB,reduceIte,reduceCtorEq,h0,ht1,h7,h8,htv]
  refine zD h1 rfl (hnm _) ?_
  cases b1 with
  | false =>
   simp +decide only[go_sem,nT,nA,nS,nM,nB,reduceIte,reduceCtorEq,h0,ht1,h7,h8]
   rfl
  | true =>
   simp +decide only[go_sem,nT,nA,nS,nM,nB,reduceIte,reduceCtorEq,h0,ht1,h7,h8]
   refine ⟨_,_,Ghost.refl,3,by omega,1,rfl,by omega,by intro hh;first | trivial | exact p1 (by omega) | omega,by intro hh;first | trivial | exact p2 (by omega) | omega,by intro hh;first | trivial | exact p3 (by omega) | omega,by intro hh;first | trivial | exact p4 (by omega) | omega,?_,?_,?_,?_,rfl⟩
   all_goals first | (simp +decide only[go_sem,nB,reduceIte,h0,ht1,h7];done) | rfl
 ·simp +decide only[go_sem,nT,nA,nS,nM,nB,reduceIte,reduceCtorEq,h0,ht1,h7,h8,htv]
  refine zD (h2 (p1 (by omega))) rfl (hnm _) ?_
  cases b2 with
  | false =>
   simp +decide only[go_sem,nT,nA,nS,nM,nB,reduceIte,reduceCtorEq,h0,ht1,h7,h8]
   try rw[p1 (by omega)]
   rfl
  | true =>
   simp +decide only[go_sem,nT,nA,nS,nM,nB,reduceIte,reduceCtorEq,h0,ht1,h7,h8]
   refine ⟨_,_,Ghost.refl,2,by omega,2,rfl,by omega,by intro hh;first | trivial | exact p1 (by omega) | omega,by intro hh;first | trivial | exact p2 (by omega) | omega,by intro hh;first | trivial | exact p3 (by omega) | omega,by intro hh;first | trivial | exact p4 (by omega) | omega,?_,?_,?_,?_,rfl⟩
   all_goals first | (simp +decide only[go_sem,nB,reduceIte,h0,ht1,h7];done) | rfl
 ·simp +decide only[go_sem,nT,nA,nS,nM,nB,reduceIte,reduceCtorEq,h0,ht1,h7,h8,htv]
  refine zD (h3 (p1 (by omega)) (p2 (by omega))) rfl (hnm _) ?_
  cases b3 with
  | false =>
   simp +decide only[go_sem,nT,nA,nS,nM,nB,reduceIte,reduceCtorEq,h0,ht1,h7,h8]
   try rw[p1 (by omega)]
   try rw[p2 (by omega)]
   rfl
  | true =>
   simp +decide only[go_sem,nT,nA,nS,nM,nB,reduceIte,reduceCtorEq,h0,ht1,h7,h8]
   refine ⟨_,_,Ghost.refl,1,by omega,3,rfl,by omega,by intro hh;first | trivial | exact p1 (by omega) | omega,by intro hh;first | trivial | exact p2 (by omega) | omega,by intro hh;first | trivial | exact p3 (by omega) | omega,by intro hh;first | trivial | exact p4 (by omega) | omega,?_,?_,?_,?_,rfl⟩
   all_goals first | (simp +decide only[go_sem,nB,reduceIte,h0,ht1,h7];done) | rfl
 ·simp +decide only[go_sem,nT,nA,nS,nM,nB,reduceIte,reduceCtorEq,h0,ht1,h7,h8,htv]
  refine zD (h4 (p1 (by omega)) (p2 (by omega)) (p3 (by omega))) rfl (hnm _) ?_
  cases b4 with
  | false =>
   simp +decide only[go_sem,nT,nA,nS,nM,nB,reduceIte,reduceCtorEq,h0,ht1,h7,h8]
   try rw[p1 (by omega)]
   try rw[p2 (by omega)]
   try rw[p3 (by omega)]
   rfl
  | true =>
   simp +decide only[go_sem,nT,nA,nS,nM,nB,reduceIte,reduceCtorEq,h0,ht1,h7,h8]
   refine ⟨_,_,Ghost.refl,0,by omega,4,rfl,by omega,by intro hh;first | trivial | exact p1 (by omega) | omega,by intro hh;first | trivial | exact p2 (by omega) | omega,by intro hh;first | trivial | exact p3 (by omega) | omega,by intro hh;first | trivial | exact p4 (by omega) | omega,?_,?_,?_,?_,rfl⟩
   all_goals first | (simp +decide only[go_sem,nB,reduceIte,h0,ht1,h7];done) | rfl
 ·have q1:=p1 (by omega)
  have q2:=p2 (by omega)
  have q3:=p3 (by omega)
  have q4:=p4 (by omega)
  subst q1 q2 q3 q4
  simp +decide only[go_sem,nT,nA,nS,nM,nB,reduceIte,reduceCtorEq,h0,ht1,h7,h8]
  rfl
 ·omega
theorem z2F (b1 b2 b3 b4:Bool):(!decide (0≤no4 b1 b2 b3 b4))=(b1 && (b2 && (b3 && b4))):=by
 cases b1 <;> cases b2 <;> cases b3 <;> cases b4 <;> rfl
set_option maxHeartbeats 4000000 in
theorem z1U (c:HV) (f1 f2 f3 f4:Nat) (b1 b2 b3 b4:Bool) (hc:nm 0 c=true) (htv:tv c=true) (hfz:fzo c=c) (h1:HFn Tryz.prog 66 [.fn f1 [c]] (.v (.bool (!b1)))) (h2:b1=true→HFn Tryz.prog 66 [.fn f2 [c]] (.v (.bool (!b2))))
  (h3:b1=true→b2=true→HFn Tryz.prog 66 [.fn f3 [c]] (.v (.bool (!b3)))) (h4:b1=true→b2=true→b3=true→HFn Tryz.prog 66 [.fn f4 [c]] (.v (.bool (!b4)))) :
  HFn Tryz.prog 37 [.sl (zXD c f1 f2 f3 f4)] (.v (.bool (b1 && (b2 && (b3 && b4))))):=by
 have hi:=zPh c f1 f2 f3 f4 b1 b2 b3 b4 hc htv h1 h2 h3 h4
 rw[←z2F]
 generalize no4 b1 b2 b3 b4=q at hi
 have hcon:HFn Tryz.prog 65 [.sl (zXD c f1 f2 f3 f4),.fn 66 []] (.v (.bool (decide (0≤q)))):=by
  refine zB (fn:=Tryz.f65) 9 [4] (by kernel_rfl) rfl (by kernel_rfl) (HW.run 400 (by kernel_rfl) ?_)
  simp +decide only[go_sem,nT,nA,nS,nM,nB,reduceIte,reduceCtorEq]
  refine zD (hi) rfl rfl ?_
  simp +decide only[go_sem,nT,nA,nS,nM,nB,reduceIte,reduceCtorEq]
 refine zB (fn:=Tryz.f37) 6 [2] (by kernel_rfl) rfl (by kernel_rfl) (HW.run 400 (by kernel_rfl) ?_)
 simp +decide only[go_sem,nT,nA,nS,nM,nB,reduceIte,reduceCtorEq]
 refine zD (hcon) rfl rfl ?_
 simp +decide only[go_sem,nT,nA,nS,nM,nB,reduceIte,reduceCtorEq]
theorem zRV {a:Ans} (h:zFk a=true):SetO a.ends:=by
 unfold zFk at h
 rw[Bool.and_eq_true] at h
 exact zF2.1 h.1
theorem zOm {a:Ans} (h:zFk a=true):SetO a.loose:=by
 unfold zFk at h
 rw[Bool.and_eq_true,Bool.and_eq_true] at h
 exact zF2.1 h.2.1
set_option maxHeartbeats 8000000 in
theorem zAM (p:Prg) (a:Ans) (hp:RightP p) (ha:SmallA a):HFn Tryz.prog 13 [prgH p,ansH a] (.v (.bool (zAo p a))):=by
 have hA:∀(m:Nat) (b:Bool),m<4294967296→HFn Tryz.prog m [chkC p a] (.v (.bool b))→HFn Tryz.prog 66 [.fn (m+4294967296) [chkC p a]] (.v (.bool (!b))):=fun m b hm h=>by
  have hge:¬m+4294967296<4294967296:=by omega
  refine zXo _ _ b (by rw[zGZ hge];rfl) ?_
  rw[zTK hge,zGZ hge]
  rw[Nat.add_sub_cancel]
  exact h
 have h:=z1U (chkC p a) (38+4294967296) (39+4294967296) (40+4294967296) (41+4294967296) (zFk a) (a.proofs.all (zA3 p a)) (zFH a) (zMF a) rfl rfl (by simp only[fzo,fzoR,fzoL];done)
  (hA _ _ (by decide) (zXl p a ha)) (fun h=>hA _ _ (by decide) (zQ7 p a hp ha (zRV h) (zOm h))) (fun _ _=>hA _ _ (by decide) (zUO p a ha)) (fun _ _ _=>hA _ _ (by decide) (zXn p a ha))
 unfold zAo
 generalize (zFk a && (a.proofs.all (zA3 p a) && (zFH a && zMF a)))=z at h
 refine zB (fn:=Tryz.f13) 20 [4] (by kernel_rfl) rfl (by kernel_rfl) (HW.run 400 (by kernel_rfl) ?_)
 simp +decide only[go_sem,nT,nA,nS,nM,nB,reduceIte,reduceCtorEq]
 refine zO 4 h (by simp only[go_sem];rfl) rfl ?_
 simp +decide only[go_sem,nT,nA,nS,nM,nB,reduceIte,reduceCtorEq]
theorem zQ8 (g:List Int) (x:Prf) (hg:g.length≤1000000) (hx:x.slots.length≤1000000):HFn Tryz.prog 32 [prfH x,.fp [[.sl (ints g)]] 0 0] (.v (.bool (!zBL x.slots g))):=by
 have h:=zZa g [x.slots] hg (by simp) (fun r hr=>by obtain rfl:=List.mem_singleton.1 hr;exact hx)
 have e:zB2 g [x.slots]=zBL x.slots g:=by simp[zB2]
 rw[e] at h
 refine zB (fn:=Tryz.f32) 10 [3] (by kernel_rfl) rfl (by kernel_rfl) (HW.run 400 (by kernel_rfl) ?_)
 simp +decide only[go_sem,nT,nA,nS,nM,nB,reduceIte,reduceCtorEq]
 refine zO 3 h (by simp only[go_sem];rfl) rfl ?_
 simp +decide only[go_sem,nT,nA,nS,nM,nB,reduceIte,reduceCtorEq]
theorem zXu (a:Ans) (g:List Int):(idxF (fun x=>!zBL x.slots g) a.proofs = -1∧zLD a g=none)∨∃(i:Nat) (x:Prf),idxF (fun x=>!zBL x.slots g) a.proofs=(i:Int)∧a.proofs[i]?=some x∧zLD a g=some x:=by
 unfold idxF zLD
 cases h:a.proofs.findIdx? (fun x=>!zBL x.slots g) with
 | none =>
  rw[List.findIdx?_eq_none_iff] at h
  refine .inl ⟨rfl,?_⟩
  rw[List.find?_eq_none]
  intro x hx
  simpa using h x hx
 | some i =>
  have h2:=List.findIdx?_eq_some_iff_getElem.1 h
  obtain ⟨h3,h4,h5⟩:=h2
  refine .inr ⟨i,a.proofs[i],rfl,List.getElem?_eq_getElem h3,?_⟩
  rw[List.find?_eq_some_iff_getElem]
  exact ⟨h4,i,h3,rfl,fun j hj=>by have:=h5 j hj;simpa using this⟩
def zNF (p:Prg) (a:Ans) (g:List Int):HV:=match zLD a g with
 | none=>.tu [.v (.slice none 0 0),.v (.bool false)]
 | some x=>.tu [.sl (pcks ((zAa p g (zK p) [] x.picks).getD [])),.v (.bool (zAa p g (zK p) [] x.picks).isSome)]
set_option maxHeartbeats 4000000 in
theorem zEU (p:Prg) (a:Ans) (g:List Int) (hp:RightP p) (ha:SmallA a) (hg:g.length≤10000):HFn Tryz.prog 11 [prgH p,ansH a,.sl (ints g)] (zNF p a g):=by
 have hi:=idxP a.proofs 32 [.fp [[.sl (ints g)]] 0 0] (fun x=>!zBL x.slots g) (by have:=ha.proofs;omega) (fun x _=>rfl) (fun i x hx _=>zQ8 g x (by omega) (by have:=ha.slots x (List.mem_of_getElem? hx);omega))
 have hcs:=zXu a g
 unfold zNF
 generalize idxF (fun x=>!zBL x.slots g) a.proofs=q at hi hcs
 rcases hcs with ⟨rfl,hb⟩ | ⟨i,x,rfl,hx,hb⟩
 ·rw[hb]
  refine zB (fn:=Tryz.f11) 26 [6,7] (by kernel_rfl) rfl (by kernel_rfl) (HW.run 400 (by kernel_rfl) ?_)
  simp +decide only[go_sem,nT,nA,nS,nM,nB,reduceIte,reduceCtorEq]
  refine zO 3 hi (by simp only[go_sem];rfl) rfl ?_
  simp +decide only[go_sem,nT,nA,nS,nM,nB,reduceIte,reduceCtorEq]
 ·rw[hb]
  simp only
  have hR:HFn Tryz.prog 34 [prgH p,.sl (ints g),.sl (pcks x.picks)] (.tu [.sl (pcks ((zAa p g (zK p) [] x.picks).getD [])),.v (.bool (zAa p g (zK p) [] x.picks).isSome)]):=HFn.shut (zQ2 p g x.picks hp hg (ha.picks x (List.mem_of_getElem? hx))) (by simp only[fzo,fzoL,zDz])
  have hi0:((i:Int)<0)=False:=by simp only[eq_iff_iff,iff_false];omega
  have hil:((i:Int)<(a.proofs.length:Int))=True:=by have:=(List.getElem?_eq_some_iff.1 hx).1;simp only[eq_iff_iff,iff_true];omega
  generalize (zAa p g (zK p) [] x.picks).isSome=b1 at hR
  generalize (zAa p g (zK p) [] x.picks).getD []=l1 at hR
  refine zB (fn:=Tryz.f11) 26 [6,7] (by kernel_rfl) rfl (by kernel_rfl) (HW.run 400 (by kernel_rfl) ?_)
  simp +decide only[go_sem,nT,nA,nS,nM,nB,reduceIte,reduceCtorEq]
  refine zO 3 hi (by simp only[go_sem];rfl) rfl ?_
  simp +decide only[go_sem,nT,nA,nS,nM,nB,reduceIte,reduceCtorEq,hi0]
  refine HW.tree 1 (.light 0 (.light 1 (.light 2 (.light 3 (.light 4 (.light 5 (.light 6 (.light 7 (.heavy 8 [] (.light 9 (.light 10 (.light 11 (.light 12 .leaf)))) .stop))))))))) follows (by kernel_rfl) (by kernel_rfl) ?_
  simp +decide only[go_sem,nT,nA,nS,nM,nB,reduceIte,reduceCtorEq,hi0,hil,hx]
  refine zD (hR) rfl rfl ?_
  simp +decide only[go_sem,nT,nA,nS,nM,nB,reduceIte,reduceCtorEq]
end Go.Proofs.YtoknohandclcbaaGreat
namespace Go.Proofs.YtoknohandclcbaaGreat
open Go.RowKit
set_option maxRecDepth 8000
end Go.Proofs.YtoknohandclcbaaGreat
namespace Go.Proofs.YtoknohandclcbaaGreat
open Go.RowKit
set_option maxRecDepth 8000
def bigO (o:Ot):Bool:=decide (100<o.mem.length) || decide (100<o.regs.length)
def zEV (l:List Ot):Bool:=decide (150<l.length) || l.any bigO
theorem zBx {l:List Ot} (h:zEV l=false):l.length≤150∧∀o∈l,o.mem.length≤100∧o.regs.length≤100:=by
 unfold zEV at h
 rw[Bool.or_eq_false_iff,List.any_eq_false] at h
 refine ⟨by simpa using h.1,fun o ho=>?_⟩
 have:=h.2 o ho
 unfold bigO at this
 simp at this
 exact this
theorem zBk {l:List Ot} (h:zEV l=false):∀o∈l,SmallO o:=fun o ho=>by
 obtain ⟨h1,h2⟩:=(zBx h).2 o ho
 exact ⟨by omega,by omega⟩
set_option maxHeartbeats 4000000 in
theorem zKD (l:List Ot):HFn Tryz.prog 22 [.sl (ots l)] (.v (.bool (zEV l))):=by
 unfold zEV
 refine zB (fn:=Tryz.f22) 29 [2] (by kernel_rfl) rfl (by kernel_rfl) (HW.run 400 (by kernel_rfl) ?_)
 by_cases hn:150<l.length
 ·have hn' : ((150:Int)<(l.length:Int))=True:=by simp only[eq_iff_iff,iff_true];omega
  simp +decide only[go_sem,nT,nA,nS,nM,nB,reduceIte,reduceCtorEq,hn']
  exact vb (by simp[hn])
 ·have hn' : ((150:Int)<(l.length:Int))=False:=by simp only[eq_iff_iff,iff_false];omega
  rw[show decide (150<l.length)=false from decide_eq_false hn,Bool.false_or]
  simp +decide only[go_sem,nT,nA,nS,nM,nB,reduceIte,reduceCtorEq,hn']
  refine HW.loopG (fun k T H=>∃i:Nat,k=l.length-i∧i≤l.length∧(l.take i).any bigO=false∧T 0=.sl (ots l)∧T 3=.v (.int .i64 i)∧H=[]) l.length ⟨_,_,Ghost.refl,0,rfl,by omega,by simp,rfl,rfl,rfl⟩ ?_
  rintro k T H ⟨i,rfl,hi,hno,h0,h3,rfl⟩
  refine HW.run 200 (by kernel_rfl) ?_
  by_cases hlt:i<l.length
  ·have hlt' : ((i:Int)<(l.length:Int))=True:=by simp only[eq_iff_iff,iff_true];omega
   have hx:l[i]?=some l[i]:=List.getElem?_eq_getElem hlt
   have hxm:=List.getElem_mem hlt
   generalize l[i]=x at hx hxm
   have hany:bigO x=true→l.any bigO=true:=fun h=>List.any_eq_true.2 ⟨x,hxm,h⟩
   by_cases c1:100<x.mem.length
   ·have c1' : ((100:Int)<(x.mem.length:Int))=True:=by simp only[eq_iff_iff,iff_true];omega
    rw[hany (by simp[bigO,c1])]
    simp +decide only[go_sem,nT,nA,nS,nM,nB,reduceIte,reduceCtorEq,h0,h3,hlt',hx,c1']
   ·have c1' : ((100:Int)<(x.mem.length:Int))=False:=by simp only[eq_iff_iff,iff_false];omega
    by_cases c2:100<x.regs.length
    ·have c2' : ((100:Int)<(x.regs.length:Int))=True:=by simp only[eq_iff_iff,iff_true];omega
     rw[hany (by simp[bigO,c2])]
     simp +decide only[go_sem,nT,nA,nS,nM,nB,reduceIte,reduceCtorEq,h0,h3,hlt',hx,c1',c2']
    ·have c2' : ((100:Int)<(x.regs.length:Int))=False:=by simp only[eq_iff_iff,iff_false];omega
     simp +decide only[go_sem,nT,nA,nS,nM,nB,reduceIte,reduceCtorEq,h0,h3,hlt',hx,c1',c2']
     refine ⟨_,_,Ghost.refl,l.length-(i+1),by omega,i+1,rfl,by omega,?_,?_,?_,rfl⟩
     ·rw[List.take_add_one,hx,List.any_append,hno]
      simp[bigO];omega
     all_goals first | (simp +decide only[go_sem,nB,reduceIte,h0];done) | (simp +decide only[go_sem,nB,reduceIte];rw[w64 (by omega) (by omega)];rfl)
  ·have hlt' : ((i:Int)<(l.length:Int))=False:=by simp only[eq_iff_iff,iff_false];omega
   rw[List.take_of_length_le (by omega)] at hno
   rw[hno]
   simp +decide only[go_sem,nT,nA,nS,nM,nB,reduceIte,reduceCtorEq,h0,h3,hlt']
def zBz (l:List (List Int)):Nat:=(l.map fun r=>min r.length 100).sum
def zGX (l:List (List Int)):Bool:=decide (8<l.length) || decide (16<zBz l)
theorem zOf {l:List (List Int)} {x:List Int}:zBz (l++[x])=zBz l+min x.length 100:=by simp[zBz]
theorem zVQ {l:List (List Int)}:zBz l≤100*l.length:=by
 induction l with
 | nil=>simp[zBz]
 | cons x l ih=>simp only[zBz,List.map_cons,List.sum_cons,List.length_cons] at ih⊢;omega
theorem zPe {l:List (List Int)} (h:zGX l=false):l.length≤8∧l.flatten.length≤16∧∀r∈l,r.length≤16:=by
 unfold zGX at h
 rw[Bool.or_eq_false_iff] at h
 have h1:l.length≤8:=by simpa using h.1
 have h2:zBz l≤16:=by simpa using h.2
 refine ⟨h1,?_,?_⟩
 ·clear h h1
  have:∀l:List (List Int),zBz l≤16→l.flatten.length=zBz l:=by
   intro l
   induction l with
   | nil=>intro _;rfl
   | cons x l ih =>
    intro h
    simp only[zBz,List.map_cons,List.sum_cons] at h ih⊢
    have:=ih (by omega)
    simp only[List.flatten_cons,List.length_append,this];omega
  rw[this l h2];exact h2
 ·intro r hr
  have:min r.length 100≤zBz l:=by
   clear h h1 h2
   induction l with
   | nil=>cases hr
   | cons x l ih =>
    simp only[zBz,List.map_cons,List.sum_cons] at ih⊢
    rcases List.mem_cons.1 hr with rfl | hr
    ·omega
    ·have:=ih hr;omega
  omega
set_option maxHeartbeats 4000000 in
theorem zP0 (l:List (List Int)):HFn Tryz.prog 29 [.sl (rws l)] (.v (.bool (zGX l))):=by
 unfold zGX
 refine zB (fn:=Tryz.f29) 24 [2] (by kernel_rfl) rfl (by kernel_rfl) (HW.run 400 (by kernel_rfl) ?_)
 by_cases hn:8<l.length
 ·have hn' : ((8:Int)<(l.length:Int))=True:=by simp only[eq_iff_iff,iff_true];omega
  simp +decide only[go_sem,nT,nA,nS,nM,nB,reduceIte,reduceCtorEq,hn']
  exact vb (by simp[hn])
 ·have hn' : ((8:Int)<(l.length:Int))=False:=by simp only[eq_iff_iff,iff_false];omega
  rw[show decide (8<l.length)=false from decide_eq_false hn,Bool.false_or]
  simp +decide only[go_sem,nT,nA,nS,nM,nB,reduceIte,reduceCtorEq,hn']
  refine HW.loopG (fun k T H=>∃i:Nat,k=l.length-i∧i≤l.length∧T 0=.sl (rws l)∧T 3=.v (.int .i64 (zBz (l.take i)))∧T 4=.v (.int .i64 i)∧H=[]) l.length ⟨_,_,Ghost.refl,0,rfl,by omega,rfl,rfl,rfl,rfl⟩ ?_
  rintro k T H ⟨i,rfl,hi,h0,h3,h4,rfl⟩
  refine HW.run 200 (by kernel_rfl) ?_
  by_cases hlt:i<l.length
  ·have hlt' : ((i:Int)<(l.length:Int))=True:=by simp only[eq_iff_iff,iff_true];omega
   have hx:l[i]?=some l[i]:=List.getElem?_eq_getElem hlt
   generalize l[i]=x at hx
   have htk:zBz (l.take (i+1))=zBz (l.take i)+min x.length 100:=by
    rw[List.take_add_one,hx];exact zOf
   have hs:zBz (l.take i)≤800:=by have:=zVQ (l:=l.take i);simp only[List.length_take] at this;omega
   have hmin:(if (100:Int)<(x.length:Int) then (100:Int) else (x.length:Int))=((min x.length 100:Nat):Int):=by split <;> omega
   have w1:IntKind.i64.wrap (((zBz (l.take i):Nat):Int)+((min x.length 100:Nat):Int))=((zBz (l.take (i+1)):Nat):Int):=by rw[htk,w64 (by omega) (by omega)];omega
   by_cases c1:100<x.length
   ·have c1' : ((100:Int)<(x.length:Int))=True:=by simp only[eq_iff_iff,iff_true];omega
    have e1:min x.length 100=100:=by omega
    rw[e1] at w1
    simp +decide only[go_sem,nT,nA,nS,nM,nB,reduceIte,reduceCtorEq,h0,h3,h4,hlt',hx,c1',w1]
    refine ⟨_,_,Ghost.refl,l.length-(i+1),by omega,i+1,rfl,by omega,?_,?_,?_,rfl⟩
    all_goals first | (simp +decide only[go_sem,nB,reduceIte,h0];done) | (simp +decide only[go_sem,nB,reduceIte];rw[w64 (by omega) (by omega)];rfl) | (simp +decide only[go_sem,nB,reduceIte];exact congrArg (fun z=>HV.v (.int .i64 z)) w1)
   ·have c1' : ((100:Int)<(x.length:Int))=False:=by simp only[eq_iff_iff,iff_false];omega
    have e1:min x.length 100=x.length:=by omega
    rw[e1] at w1
    simp +decide only[go_sem,nT,nA,nS,nM,nB,reduceIte,reduceCtorEq,h0,h3,h4,hlt',hx,c1',w1]
    refine ⟨_,_,Ghost.refl,l.length-(i+1),by omega,i+1,rfl,by omega,?_,?_,?_,rfl⟩
    all_goals first | (simp +decide only[go_sem,nB,reduceIte,h0];done) | (simp +decide only[go_sem,nB,reduceIte];rw[w64 (by omega) (by omega)];rfl) | (simp +decide only[go_sem,nB,reduceIte];exact congrArg (fun z=>HV.v (.int .i64 z)) w1)
  ·have hlt' : ((i:Int)<(l.length:Int))=False:=by simp only[eq_iff_iff,iff_false];omega
   rw[List.take_of_length_le (by omega)] at h3
   have e:decide ((16:Int)<((zBz l:Nat):Int))=decide (16<zBz l):=by simp;omega
   simp +decide only[go_sem,nT,nA,nS,nM,nB,reduceIte,reduceCtorEq,h0,h3,h4,hlt',e]
def zDa (p:Prg):Bool:=zEL p || decide (12<z7 p.thr p.thr.length)
theorem zPZ (p:Prg):HFn Tryz.prog 16 [prgH p] (.v (.bool (zDa p))):=by
 refine zB (fn:=Tryz.f16) 10 [2] (by kernel_rfl) rfl (by kernel_rfl) (HW.run 400 (by kernel_rfl) ?_)
 simp +decide only[go_sem,nT,nA,nS,nM,nB,reduceIte,reduceCtorEq]
 refine zD (zS1 p) rfl rfl ?_
 cases hg:zEL p with
 | true =>
  simp +decide only[go_sem,nT,nA,nS,nM,nB,reduceIte,reduceCtorEq]
  exact vb (by unfold zDa;rw[hg];rfl)
 | false =>
  simp +decide only[go_sem,nT,nA,nS,nM,nB,reduceIte,reduceCtorEq]
  refine zD (zZA p (zKM hg).1.small) rfl rfl ?_
  simp +decide only[go_sem,nT,nA,nS,nM,nB,reduceIte,reduceCtorEq]
  exact vb (by unfold zDa;rw[hg,Bool.false_or];simp;omega)
def zHd (x:Prf):Bool:=decide (120<x.picks.length) || decide (60<x.slots.length) || zEV [x.out]
def zCn (p:Prg) (a:Ans):Bool:=(zDa p || zEV a.ends || zEV a.loose || decide (20<a.proofs.length) || decide (60<a.fences.length)) || (a.proofs.any zHd || zGX (zAC a.proofs))
theorem zDF {p:Prg} {a:Ans} (h:zCn p a=false):RightP p∧z4Z p∧SmallA a∧a.ends.length≤150∧a.loose.length≤150∧a.fences.length≤60∧a.proofs.length≤20∧zDa p=false∧∀x∈a.proofs,x.picks.length≤120∧x.slots.length≤60∧x.out.regs.length≤100:=by
 unfold zCn at h
 simp only[Bool.or_eq_false_iff] at h
 obtain ⟨⟨⟨⟨⟨h1,h2⟩,h3⟩,h4⟩,h5⟩,h6,h7⟩:=h
 have h1':=h1
 unfold zDa at h1
 rw[Bool.or_eq_false_iff] at h1
 obtain ⟨g1,g2⟩:=zKM h1.1
 have e4:a.proofs.length≤20:=by simpa using h4
 have e5:a.fences.length≤60:=by simpa using h5
 rw[List.any_eq_false] at h6
 have hX:∀x∈a.proofs,x.picks.length≤120∧x.slots.length≤60∧SmallO x.out∧x.out.regs.length≤100:=fun x hx=>by
  have:=h6 x hx
  unfold zHd at this
  simp only[Bool.or_eq_true,not_or,Bool.not_eq_true,decide_eq_true_eq,Nat.not_lt] at this
  exact ⟨this.1.1,this.1.2,zBk this.2 x.out (by simp),((zBx this.2).2 x.out (by simp)).2⟩
 obtain ⟨k1,k2,k3⟩:=zPe h7
 refine ⟨g1,g2,⟨by have:=(zBx h2).1;omega,zBk h2,by have:=(zBx h3).1;omega,zBk h3,by omega,fun x hx=>by have:=(hX x hx).1;omega,fun x hx=>by have:=(hX x hx).2.1;omega,fun x hx=>(hX x hx).2.2.1,by omega,by omega⟩,(zBx h2).1,(zBx h3).1,e5,e4,h1',fun x hx=>⟨(hX x hx).1,(hX x hx).2.1,(hX x hx).2.2.2⟩⟩
end Go.Proofs.YtoknohandclcbaaGreat
