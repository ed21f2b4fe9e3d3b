/- Parts of the proof: Ih, HiDm, Ii, Ij, Ik, Yr, Yg, Yo, Yh, Yq, Im, Il. -/
import Derived.Test.YtoknohandclcbaaGreatZc15
import Derived.Test.YtoknohandclcbaaGreatZc13
import Derived.Test.YtoknohandclcbaaGreatZc14
import Derived.Test.YtoknohandclcbaaGreatZc08
import Derived.Test.YtoknohandclcbaaGreatProg
import Derived.Test.YtoknohandclcbaaGreatChecked
import Derived.Shelf.Vars
import Derived.KernelRfl
import Derived.ProofKit
import Derived.OpenShut
import Derived.ChangeArms
import Derived.ChangeSlices
import Derived.Test.YtoknohandclcbaaGreatZc06
import Derived.Test.YtoknohandclcbaaGreatZc11
open Nat renaming reduceAdd → nA, reduceSub → nS, reduceMul → nM, reduceBEq → nB
open Int renaming reduceToNat → nT
set_option linter.unusedSectionVars false
set_option linter.unusedVariables false
set_option linter.unusedSimpArgs false
namespace Go.Proofs.YtoknohandclcbaaGreat
open Go.RowKit
set_option maxRecDepth 8000
set_option maxHeartbeats 8000000 in
theorem zEj (p:Prg) (a:Ans):HFn Tryz.prog 10 [prgH p,ansH a] (.v (.bool (zCn p a))):=by
 have h1:=zPZ p
 have h2:=zKD a.ends
 have h3:=zKD a.loose
 have e4:decide ((20:Int)<(a.proofs.length:Int))=decide (20<a.proofs.length):=by simp;omega
 have e5:decide ((60:Int)<(a.fences.length:Int))=decide (60<a.fences.length):=by simp;omega
 unfold zCn
 generalize zDa p=b1 at h1
 generalize zEV a.ends=b2 at h2
 generalize zEV a.loose=b3 at h3
 generalize h4:decide (20<a.proofs.length)=b4 at e4
 generalize decide (60<a.fences.length)=b5 at e5
 refine zB (fn:=Tryz.f10) 63 [4] (by kernel_rfl) rfl (by kernel_rfl) (HW.run 400 (by kernel_rfl) ?_)
 simp +decide only[go_sem,nT,nA,nS,nM,nB,reduceIte,reduceCtorEq]
 refine zD (h1) rfl rfl ?_
 cases b1 with
 | true =>
  simp +decide only[go_sem,nT,nA,nS,nM,nB,reduceIte,reduceCtorEq]
  try rfl
 | false =>
 simp +decide only[go_sem,nT,nA,nS,nM,nB,reduceIte,reduceCtorEq]
 refine zD (h2) rfl rfl ?_
 cases b2 with
 | true =>
  simp +decide only[go_sem,nT,nA,nS,nM,nB,reduceIte,reduceCtorEq]
  try rfl
 | false =>
 simp +decide only[go_sem,nT,nA,nS,nM,nB,reduceIte,reduceCtorEq]
 refine zD (h3) rfl rfl ?_
 cases b3 with
 | true =>
  simp +decide only[go_sem,nT,nA,nS,nM,nB,reduceIte,reduceCtorEq]
  try rfl
 | false =>
 cases b4 with
 | true =>
  simp +decide only[go_sem,nT,nA,nS,nM,nB,reduceIte,reduceCtorEq,e4]
  try rfl
 | false =>
 cases b5 with
 | true =>
  simp +decide only[go_sem,nT,nA,nS,nM,nB,reduceIte,reduceCtorEq,e4,e5]
  try rfl
 | false =>
 have hpl:a.proofs.length≤20:=by simpa using h4
 simp +decide only[go_sem,nT,nA,nS,nM,nB,reduceIte,reduceCtorEq,e4,e5]
 refine HW.loopG (fun k T H=>∃i:Nat,k=a.proofs.length-i∧i≤a.proofs.length∧(a.proofs.take i).any zHd=false∧T 3=.pt 1 1 0 0∧T 5=.v (.int .i64 i)∧H=[some ⟨25,2,[[.sl (ints p.init),.sl (thrs p.thr)]]⟩,some ⟨29,5,[[.sl (ints a.fences),.sl (pfs a.proofs),.sl (ots a.ends),.sl (ots a.loose),.v (.int .i64 a.states)]]⟩]) a.proofs.length ⟨_,_,Ghost.refl,0,rfl,by omega,by simp,rfl,rfl,rfl⟩ ?_
 rintro k T H ⟨i,rfl,hi,hno,h3,h5,rfl⟩
 refine HW.run 200 (by kernel_rfl) ?_
 by_cases hlt:i<a.proofs.length
 ·have hlt' : ((i:Int)<(a.proofs.length:Int))=True:=by simp only[eq_iff_iff,iff_true];omega
  have hx:a.proofs[i]?=some a.proofs[i]:=List.getElem?_eq_getElem hlt
  have hxm:=List.getElem_mem hlt
  generalize a.proofs[i]=x at hx hxm
  have hany:zHd x=true→a.proofs.any zHd=true:=fun h=>List.any_eq_true.2 ⟨x,hxm,h⟩
  have hB:=zKD [x.out]
  have e6:decide ((120:Int)<(x.picks.length:Int))=decide (120<x.picks.length):=by simp;omega
  have e7:decide ((60:Int)<(x.slots.length:Int))=decide (60<x.slots.length):=by simp;omega
  have hgx:zHd x=(decide (120<x.picks.length) || decide (60<x.slots.length) || zEV [x.out]):=rfl
  generalize decide (120<x.picks.length)=c1 at e6 hgx
  generalize decide (60<x.slots.length)=c2 at e7 hgx
  generalize zEV [x.out]=c3 at hB hgx
  cases c1 with
  | true =>
   rw[hany hgx]
   simp +decide only[go_sem,nT,nA,nS,nM,nB,reduceIte,reduceCtorEq,h3,h5,hlt',hx,e6]
   try rfl
  | false =>
  cases c2 with
  | true =>
   rw[hany hgx]
   simp +decide only[go_sem,nT,nA,nS,nM,nB,reduceIte,reduceCtorEq,h3,h5,hlt',hx,e6,e7]
   try rfl
  | false =>
  simp +decide only[go_sem,nT,nA,nS,nM,nB,reduceIte,reduceCtorEq,h3,h5,hlt',hx,e6,e7]
  refine zO 3 hB (by simp only[go_sem];rfl) rfl ?_
  cases c3 with
  | true =>
   rw[hany hgx]
   simp +decide only[go_sem,nT,nA,nS,nM,nB,reduceIte,reduceCtorEq,h3,h5]
   try rfl
  | false =>
   simp +decide only[go_sem,nT,nA,nS,nM,nB,reduceIte,reduceCtorEq,h3,h5]
   refine ⟨_,_,Ghost.trunc [3,5] 2 (by omega) ?_ ?_,a.proofs.length-(i+1),by omega,i+1,rfl,by omega,?_,?_,?_,?_⟩
   ·simp +decide only[go_sem,nB,reduceIte,h3]
   ·simp +decide only[go_sem,nB,reduceIte]
   ·rw[List.take_add_one,hx,List.any_append,hno]
    simp[hgx]
   ·simp +decide only[go_sem,nB,reduceIte,h3]
   ·simp +decide only[go_sem,nB,reduceIte];rw[w64 (by omega) (by omega)];rfl
   ·simp +decide only[go_sem,nT,nA,nS,nM,nB,reduceIte,reduceCtorEq]
 ·have hlt' : ((i:Int)<(a.proofs.length:Int))=False:=by simp only[eq_iff_iff,iff_false];omega
  rw[List.take_of_length_le (by omega)] at hno
  rw[hno]
  simp +decide only[go_sem,nT,nA,nS,nM,nB,reduceIte,reduceCtorEq,h3,h5,hlt']
  refine zD (zYy a.proofs (by omega)) rfl rfl ?_
  simp +decide only[go_sem,nT,nA,nS,nM,nB,reduceIte,reduceCtorEq,h3,h5]
  refine zD (zP0 (zAC a.proofs)) rfl rfl ?_
  simp +decide only[go_sem,nT,nA,nS,nM,nB,reduceIte,reduceCtorEq,h3,h5]
  try rfl
end Go.Proofs.YtoknohandclcbaaGreat
namespace Go.Proofs.YtoknohandclcbaaGreat
open Go.RowKit
theorem Ghost.shutOw {N L:Nat} {T:Nat→HV} {H:Heap} (id i c:Nat) {e:TypeId} {sz:Nat} {rows:List (List HV)} {ob:HObj} {row:List HV} (ho:H[id]?=some (some ob)) (hr:ob.rows[i]?=some row) (hc:row[c]?=some (.ow e sz rows)) :
  Ghost N L T H T (H.set id (some { ob with rows:=ob.rows.set i (row.set c (.sl (fzoR rows))) })):=fun B Z G FP ds a w hL hs=>by
 obtain ⟨g,hg,hob⟩:=hs.inv.live id ob ho
 obtain ⟨y,fx,fa,hv,hperm,hsw⟩:=hob.swap hr hc (fun u hu=>by cases hu)
 have hnd:=(hperm.nodup_iff.1 (hs.inv.nodup id))
 rw[List.nodup_append] at hnd
 obtain ⟨fp1,hob1,hp1⟩:=hsw G (.v y) [] (GLe.refl _) (by simp[RV])
 simp only[List.nil_append] at hp1
 have hin:∀b,b∈fp1→b∈FP id:=fun b hb=>hperm.mem_iff.2 (List.mem_append.2 (.inr (hp1.mem_iff.1 hb)))
 have hfx:∀b,b∈fx→b∈FP id:=fun b hb=>hperm.mem_iff.2 (List.mem_append.2 (.inl hb))
 have hi1:=hs.inv.say ho hg hob1 (hp1.nodup_iff.2 hnd.2.1) (fun b hb=>⟨hs.inv.zfp id b (hin b hb),hs.inv.flt id b (hin b hb),fun j hj hc=>hj (hs.inv.disj j id b hc (hin b hb))⟩)
 have hi2:=hi1.zmore (Z':=fun b=>Z b∨b∈fx) (fun b hb=>.inl hb) (fun b hb=>by
  rcases hb with hb | hb
  ·exact hs.inv.zlt b hb
  ·exact hs.inv.flt id b (hfx b hb)) (fun j b hj hz=>by
  by_cases ej:j=id
  ·simp only[if_pos ej] at hj
   rcases hz with hz | hz
   ·exact hs.inv.zfp id b (hin b hj) hz
   ·exact hnd.2.2 b hz b (hp1.mem_iff.1 hj) rfl
  ·simp only[if_neg ej] at hj
   rcases hz with hz | hz
   ·exact hs.inv.zfp j b hj hz
   ·exact ej (hs.inv.disj j id b hj (hfx b hz)))
 have hlt:id<H.length:=(List.getElem?_eq_some_iff.1 ho).1
 have ho1:(H.set id (some { ob with rows:=ob.rows.set i (row.set c (.v y)) }))[id]?=some (some { ob with rows:=ob.rows.set i (row.set c (.v y)) }):=by simp[hlt]
 have hil:i<ob.rows.length:=(List.getElem?_eq_some_iff.1 hr).1
 have hcl:c<row.length:=(List.getElem?_eq_some_iff.1 hc).1
 have hr1:(ob.rows.set i (row.set c (.v y)))[i]?=some (row.set c (.v y)):=by simp[hil]
 have hc1:(row.set c (HV.v y))[c]?=some (.v y):=by simp[hcl]
 obtain ⟨g2,hg2,hob2⟩:=hi2.live id _ ho1
 obtain ⟨y2,fx2,fa2,hv2,hperm2,hsw2⟩:=hob2.swap hr1 hc1 (fun u hu=>by cases hu)
 simp only[RV] at hv2
 obtain ⟨e1,e2⟩:=hv2
 subst e1 e2
 have hfz:RV (fun b=>Z b∨b∈fx) [] w (.sl (fzoR rows)) y2 []:=zBQ (Z':=fun b=>Z b∨b∈fx) (.ow e sz rows) G y2 fx ⟨fun b hb=>.inl hb,fun b hb=>.inr hb⟩ hv
 have hfz' : RV (fun b=>Z b∨b∈fx) G w (.sl (fzoR rows)) y2 []:=RV.nil_keep (fun _ _=>rfl) (fun _ h=>h) (zBD G) hfz
 obtain ⟨fp2,hob3,hp2⟩:=hsw2 G _ [] (GLe.refl _) hfz'
 simp only[List.nil_append] at hp2 hperm2
 have hp3:=hp2.trans hperm2.symm
 simp only[if_pos] at hp3
 have hi3:=hi2.say ho1 hg2 hob3 (hp3.nodup_iff.2 (hp1.nodup_iff.2 hnd.2.1)) (fun b hb=>by
  have hb1:=hp3.mem_iff.1 hb
  refine ⟨fun hz=>?_,hs.inv.flt id b (hin b hb1),fun j hj hcj=>?_⟩
  ·rcases hz with hz | hz
   ·exact hs.inv.zfp id b (hin b hb1) hz
   ·exact hnd.2.2 b hz b (hp1.mem_iff.1 hb1) rfl
  ·simp only[if_neg hj] at hcj
   exact hj (hs.inv.disj j id b hcj (hin b hb1)))
 simp only[List.set_set] at hi3
 have hE:Evo Z FP w (fun b=>Z b∨b∈fx) (fun j=>if j=id then fp2 else if j=id then fp1 else FP j) w:=⟨rfl,rfl,rfl,Nat.le_refl _,fun _ _ _=>rfl,fun _ h=>.inl h,fun b hb=>by
  rcases hb with hb | hb
  ·exact .inl hb
  ·exact .inr (.inr ⟨id,hfx b hb⟩),fun j b hb=>by
  by_cases ej:j=id
  ·simp only[if_pos ej] at hb;exact .inr ⟨id,hin b (hp3.mem_iff.1 hb)⟩
  ·simp only[if_neg ej] at hb;exact .inr ⟨j,hb⟩⟩
 exact ⟨_,G,_,hs.evo hi3 (GLe.refl _) hE,GLt.refl hL,hE⟩
theorem Ghost.shutHd {N L:Nat} {T:Nat→HV} {H:Heap} (id i c:Nat) {j len:Nat} {ob oj:HObj} {row:List HV} (ho:H[id]?=some (some ob)) (hr:ob.rows[i]?=some row) (hc:row[c]?=some (.hd j 0 len)) (hj:H[j]?=some (some oj)) (h1:j≠id) (h2:len=oj.rows.length) (h3:nmR 0 oj.rows=true) :
  Ghost N L T H T ((H.set j none).set id (some { ob with rows:=ob.rows.set i (row.set c (.sl (fzoR oj.rows))) })):=by
 have hlt:id<(H.set j none).length:=by rw[List.length_set];exact (List.getElem?_eq_some_iff.1 ho).1
 have hil:i<ob.rows.length:=(List.getElem?_eq_some_iff.1 hr).1
 have hcl:c<row.length:=(List.getElem?_eq_some_iff.1 hc).1
 have g1:=Ghost.absorbHd (N:=N) (L:=L) (T:=T) id i c ho hr hc hj h1 h2 h3
 have g2:=g1.trans (Ghost.shutOw id i c (e:=oj.e) (sz:=oj.sz) (rows:=oj.rows) (ob:={ ob with rows:=ob.rows.set i (row.set c (.ow oj.e oj.sz oj.rows)) }) (row:=row.set c (.ow oj.e oj.sz oj.rows)) (by simp only[List.getElem?_set,hlt,if_true]) (by simp[hil]) (by simp[hcl]))
 simpa only[List.set_set] using g2
end Go.Proofs.YtoknohandclcbaaGreat
namespace Go.Proofs.YtoknohandclcbaaGreat
open Go.RowKit
set_option maxRecDepth 8000
abbrev zer8:List Int:=List.replicate 8 0
def endA:Ot:=⟨[1,1],zer8⟩
def oneA:Ans:=⟨[1],[⟨loose,endA,[1,3]⟩],[],[endA],0⟩
abbrev oneR:HV:=.ag [zBs [1],.ow 50 4 [[.sl (pcks loose),.sl (ints [1,1]),.sl (ints zer8),.sl (ints [1,3])]],.v (.slice none 0 0),.ow 44 2 [[.sl (ints [1,1]),.sl (ints zer8)]],.v (.int .i64 0)]
set_option maxHeartbeats 8000000 in
theorem zYW:HFn Tryz.prog 28 [] oneR:=by
 refine zU (fn:=Tryz.f28) 14 [.cell 0 29] (by kernel_rfl) rfl rfl (by kernel_rfl) (HW.weaken (Q':=fun e=>GQ _ _ (endC _ _ _ _ e)) (HW.run 400 (by kernel_rfl) ?_) (fun _ _ _ h=>h))
 simp +decide only[go_sem,nT,nA,nS,nM,nB,reduceIte,reduceCtorEq]
 refine HW.ghost ((Ghost.shutHd 3 0 0 (j:=1) (len:=2) rfl rfl rfl rfl (by decide) rfl rfl).trans (Ghost.shutHd 3 0 1 (j:=2) (len:=8) rfl rfl rfl rfl (by decide) rfl rfl)) ?_
 refine HW.tree 1 (.light 2 (.light 6 (.heavy 0 [2,6] (.heavy 1 [2,6] (.heavy 3 [2,6] (.light 4 (.heavy 5 [6] (.heavy 7 [2,4] (.light 8 (.heavy 9 [] .leaf .stop)) .stop) (.heavy 7 [2,4] (.heavy 5 [6] (.light 8 (.heavy 9 [] .leaf .stop)) .stop) .stop))) (.heavy 7 [2] (.heavy 3 [2,6] (.light 4 (.heavy 5 [6] (.light 8 (.heavy 9 [] .leaf .stop)) .stop)) .stop) .stop)) (.heavy 3 [2,6] (.heavy 1 [2,6] (.light 4 (.heavy 5 [6] (.heavy 7 [2,4] (.light 8 (.heavy 9 [] .leaf .stop)) .stop) (.heavy 7 [2,4] (.heavy 5 [6] (.light 8 (.heavy 9 [] .leaf .stop)) .stop) .stop))) (.heavy 7 [2] (.heavy 1 [2,6] (.light 4 (.heavy 5 [6] (.light 8 (.heavy 9 [] .leaf .stop)) .stop)) .stop) .stop)) (.heavy 7 [2] (.heavy 1 [2,6] (.heavy 3 [2,6] (.light 4 (.heavy 5 [6] (.light 8 (.heavy 9 [] .leaf .stop)) .stop)) .stop) (.heavy 3 [2,6] (.heavy 1 [2,6] (.light 4 (.heavy 5 [6] (.light 8 (.heavy 9 [] .leaf .stop)) .stop)) .stop) .stop)) .stop))) (.heavy 1 [2,6] (.heavy 0 [2,6] (.heavy 3 [2,6] (.light 4 (.heavy 5 [6] (.heavy 7 [2,4] (.light 8 (.heavy 9 [] .leaf .stop)) .stop) (.heavy 7 [2,4] (.heavy 5 [6] (.light 8 (.heavy 9 [] .leaf .stop)) .stop) .stop))) (.heavy 7 [2] (.heavy 3 [2,6] (.light 4 (.heavy 5 [6] (.light 8 (.heavy 9 [] .leaf .stop)) .stop)) .stop) .stop)) (.heavy 3 [2,6] (.light 4 (.heavy 0 [2,4,6] (.heavy 5 [6] (.heavy 7 [2,4] (.light 8 (.heavy 9 [] .leaf .stop)) .stop) (.heavy 7 [2,4] (.heavy 5 [6] (.light 8 (.heavy 9 [] .leaf .stop)) .stop) .stop)) (.heavy 5 [6] (.heavy 0 [2,4,6] (.heavy 7 [2,4] (.light 8 (.heavy 9 [] .leaf .stop)) .stop) (.heavy 7 [2,4] (.heavy 0 [2,4,6] (.light 8 (.heavy 9 [] .leaf .stop)) .stop) .stop)) (.heavy 7 [2,4] (.heavy 0 [2,4,6] (.heavy 5 [6] (.light 8 (.heavy 9 [] .leaf .stop)) .stop) (.heavy 5 [6] (.heavy 0 [2,4,6] (.light 8 (.heavy 9 [] .leaf .stop)) .stop) .stop)) .stop)))) (.heavy 7 [2] (.heavy 0 [2,6] (.heavy 3 [2,6] (.light 4 (.heavy 5 [6] (.light 8 (.heavy 9 [] .leaf .stop)) .stop)) .stop) (.heavy 3 [2,6] (.light 4 (.heavy 0 [2,4,6] (.heavy 5 [6] (.light 8 (.heavy 9 [] .leaf .stop)) .stop) (.heavy 5 [6] (.heavy 0 [2,4,6] (.light 8 (.heavy 9 [] .leaf .stop)) .stop) .stop))) .stop)) .stop))) (.heavy 3 [2,6] (.heavy 0 [2,6] (.heavy 1 [2,6] (.light 4 (.heavy 5 [6] (.heavy 7 [2,4] (.light 8 (.heavy 9 [] .leaf .stop)) .stop) (.heavy 7 [2,4] (.heavy 5 [6] (.light 8 (.heavy 9 [] .leaf .stop)) .stop) .stop))) (.heavy 7 [2] (.heavy 1 [2,6] (.light 4 (.heavy 5 [6] (.light 8 (.heavy 9 [] .leaf .stop)) .stop)) .stop) .stop)) (.heavy 1 [2,6] (.light 4 (.heavy 0 [2,4,6] (.heavy 5 [6] (.heavy 7 [2,4] (.light 8 (.heavy 9 [] .leaf .stop)) .stop) (.heavy 7 [2,4] (.heavy 5 [6] (.light 8 (.heavy 9 [] .leaf .stop)) .stop) .stop)) (.heavy 5 [6] (.heavy 0 [2,4,6] (.heavy 7 [2,4] (.light 8 (.heavy 9 [] .leaf .stop)) .stop) (.heavy 7 [2,4] (.heavy 0 [2,4,6] (.light 8 (.heavy 9 [] .leaf .stop)) .stop) .stop)) (.heavy 7 [2,4] (.heavy 0 [2,4,6] (.heavy 5 [6] (.light 8 (.heavy 9 [] .leaf .stop)) .stop) (.heavy 5 [6] (.heavy 0 [2,4,6] (.light 8 (.heavy 9 [] .leaf .stop)) .stop) .stop)) .stop)))) (.heavy 7 [2] (.heavy 0 [2,6] (.heavy 1 [2,6] (.light 4 (.heavy 5 [6] (.light 8 (.heavy 9 [] .leaf .stop)) .stop)) .stop) (.heavy 1 [2,6] (.light 4 (.heavy 0 [2,4,6] (.heavy 5 [6] (.light 8 (.heavy 9 [] .leaf .stop)) .stop) (.heavy 5 [6] (.heavy 0 [2,4,6] (.light 8 (.heavy 9 [] .leaf .stop)) .stop) .stop))) .stop)) .stop))) (.heavy 7 [2] (.heavy 0 [2,6] (.heavy 1 [2,6] (.heavy 3 [2,6] (.light 4 (.heavy 5 [6] (.light 8 (.heavy 9 [] .leaf .stop)) .stop)) .stop) (.heavy 3 [2,6] (.heavy 1 [2,6] (.light 4 (.heavy 5 [6] (.light 8 (.heavy 9 [] .leaf .stop)) .stop)) .stop) .stop)) (.heavy 1 [2,6] (.heavy 0 [2,6] (.heavy 3 [2,6] (.light 4 (.heavy 5 [6] (.light 8 (.heavy 9 [] .leaf .stop)) .stop)) .stop) (.heavy 3 [2,6] (.light 4 (.heavy 0 [2,4,6] (.heavy 5 [6] (.light 8 (.heavy 9 [] .leaf .stop)) .stop) (.heavy 5 [6] (.heavy 0 [2,4,6] (.light 8 (.heavy 9 [] .leaf .stop)) .stop) .stop))) .stop)) (.heavy 3 [2,6] (.heavy 0 [2,6] (.heavy 1 [2,6] (.light 4 (.heavy 5 [6] (.light 8 (.heavy 9 [] .leaf .stop)) .stop)) .stop) (.heavy 1 [2,6] (.light 4 (.heavy 0 [2,4,6] (.heavy 5 [6] (.light 8 (.heavy 9 [] .leaf .stop)) .stop) (.heavy 5 [6] (.heavy 0 [2,4,6] (.light 8 (.heavy 9 [] .leaf .stop)) .stop) .stop))) .stop)) .stop))) .stop)))))) follows (by kernel_rfl) (by kernel_rfl) ?_
 simp +decide only[go_sem,nT,nA,nS,nM,nB,reduceIte,reduceCtorEq]
 (with_reducible and_intros)
 all_goals
  refine zD (zW0) rfl rfl ?_
  simp +decide only[go_sem,nT,nA,nS,nM,nB,reduceIte,reduceCtorEq]
  (with_reducible and_intros)
 all_goals
  first
   | refine GQ.step (Ghost.shutHd 5 0 3 (j:=4) (len:=2) rfl rfl rfl rfl (by decide) rfl rfl) (GQ.done ?_)
   | refine GQ.step (Ghost.shutHd 6 0 3 (j:=4) (len:=2) rfl rfl rfl rfl (by decide) rfl rfl) (GQ.done ?_)
   | refine GQ.step (Ghost.shutHd 7 0 3 (j:=4) (len:=2) rfl rfl rfl rfl (by decide) rfl rfl) (GQ.done ?_)
   | refine GQ.step (Ghost.shutHd 6 0 3 (j:=5) (len:=2) rfl rfl rfl rfl (by decide) rfl rfl) (GQ.done ?_)
   | refine GQ.step (Ghost.shutHd 7 0 3 (j:=5) (len:=2) rfl rfl rfl rfl (by decide) rfl rfl) (GQ.done ?_)
   | refine GQ.step (Ghost.shutHd 7 0 3 (j:=6) (len:=2) rfl rfl rfl rfl (by decide) rfl rfl) (GQ.done ?_)
  simp +decide only[go_sem,nT,nA,nS,nM,nB,reduceIte,reduceCtorEq]
  rfl
theorem zS0:HFn Tryz.prog 28 [] (ansH oneA):=by
 refine HCalls.conv (HFn.shut (R':=.ag [.sl (ints [1]),.sl (pfs [⟨loose,endA,[1,3]⟩]),.v (.slice none 0 0),.sl (ots [endA]),.v (.int .i64 0)]) zYW (by simp only[fzo,fzoL,fzoR,zAU,zDz];rfl)) ?_
 rintro x H' rfl
 exact ⟨_,rfl,.inr ⟨rfl,Conv.ag ⟨Conv.refl _,Conv.refl _,Conv.nilSl,Conv.refl _,Conv.refl _,trivial⟩⟩⟩
def oneB:Ans:=⟨[1],[⟨loose,endA,[1]⟩],[],[endA],0⟩
def oneC:Ans:=⟨[1],[⟨loose,endA,[1,3]⟩],[endA],[endA],0⟩
def noA:Ans:=⟨[],[],[],[],0⟩
theorem zDq {a:Ans} (h:zCn bufP a=false):SmallA a:=(zDF h).2.2.1
theorem z3u:zAo bufP oneA=true:=by kernel_rfl
theorem z3t:zAo bufP oneB=false:=by kernel_rfl
theorem z3s:zAo bufP oneC=false:=by kernel_rfl
theorem z1T:zAo bufP noA=true:=by kernel_rfl
end Go.Proofs.YtoknohandclcbaaGreat
namespace Go.Proofs.YtoknohandclcbaaGreat
open Go.RowKit
set_option maxRecDepth 8000
theorem z4C:∃l:List Pck,l.length=7∧zNF bufP oneA [0]=.tu [.sl (pcks l),.v (.bool true)]:=by
 refine ⟨(zAa bufP [0] (zK bufP) [] loose).getD [],by kernel_rfl,?_⟩
 have h1:zLD oneA [0]=some ⟨loose,endA,[1,3]⟩:=by kernel_rfl
 have h2:(zAa bufP [0] (zK bufP) [] loose).isSome=true:=by kernel_rfl
 unfold zNF
 rw[h1]
 simp only
 rw[h2]
theorem z4B:zNF bufP oneA [3]=.tu [.v (.slice none 0 0),.v (.bool false)]:=by
 have h1:zLD oneA [3]=none:=by kernel_rfl
 unfold zNF
 rw[h1]
set_option maxHeartbeats 8000000 in
theorem zGN:HFn Tryz.prog 9 [] (.v (.bool true)):=by
 have sA:SmallA oneA:=zDq (by kernel_rfl)
 have sB:SmallA oneB:=zDq (by kernel_rfl)
 have sC:SmallA oneC:=zDq (by kernel_rfl)
 have sN:SmallA noA:=zDq (by kernel_rfl)
 have cA:=zAM bufP oneA zB9 sA
 have cB:=zAM bufP oneB zB9 sB
 have cC:=zAM bufP oneC zB9 sC
 have cN:=zAM bufP noA zB9 sN
 rw[z3u] at cA
 rw[z3t] at cB
 rw[z3s] at cC
 rw[z1T] at cN
 have cB' : HFn Tryz.prog 13 [prgH bufP,.ag [.sl (ints [1]),.sl (pfs [⟨loose,endA,[1]⟩]),.v (.slice none 0 0),.sl (ots [endA]),.v (.int .i64 0)]] (.v (.bool false)) :=
  HCalls.convB cB ⟨Conv.refl _,Conv.ag ⟨Conv.refl _,Conv.refl _,Conv.nilSl,Conv.refl _,Conv.refl _,trivial⟩,trivial⟩
 have cN' : HFn Tryz.prog 13 [prgH bufP,.ag [.v (.slice none 0 0),.v (.slice none 0 0),.v (.slice none 0 0),.v (.slice none 0 0),.v (.int .i64 0)]] (.v (.bool true)) :=
  HCalls.convB cN ⟨Conv.refl _,Conv.ag ⟨Conv.nilSl,Conv.nilSl,Conv.nilSl,Conv.nilSl,Conv.refl _,trivial⟩,trivial⟩
 obtain ⟨L,hL,hb0⟩:=z4C
 have b0:=zEU bufP oneA [0] zB9 sA (by simp)
 have b3:=zEU bufP oneA [3] zB9 sA (by simp)
 rw[hb0] at b0
 rw[z4B] at b3
 have hL' : ((L.length:Int)=7)=True:=by simp only[eq_iff_iff,iff_true];omega
 refine zB (fn:=Tryz.f9) 67 [0] (by kernel_rfl) rfl (by kernel_rfl) (HW.run 400 (by kernel_rfl) ?_)
 simp +decide only[go_sem,nT,nA,nS,nM,nB,reduceIte,reduceCtorEq]
 refine zD (zKC) rfl rfl ?_
 simp +decide only[go_sem,nT,nA,nS,nM,nB,reduceIte,reduceCtorEq]
 refine zD (zS0) rfl rfl ?_
 simp +decide only[go_sem,nT,nA,nS,nM,nB,reduceIte,reduceCtorEq]
 refine zD (zYW) rfl rfl ?_
 simp +decide only[go_sem,nT,nA,nS,nM,nB,reduceIte,reduceCtorEq]
 refine zD (zS0) rfl rfl ?_
 simp +decide only[go_sem,nT,nA,nS,nM,nB,reduceIte,reduceCtorEq]
 refine ⟨_,HCalls.hdGive (pre:=[prgH bufP,ansH oneA]) (post:=[]) (k:=8) (ob:=⟨3,1,ints [0]⟩) b0 rfl rfl rfl,fun y H' hq _=>?_⟩
 obtain ⟨rfl,rfl⟩:=hq
 simp +decide only[go_sem,nT,nA,nS,nM,nB,reduceIte,reduceCtorEq]
 refine ⟨_,HCalls.hdGive (pre:=[prgH bufP,ansH oneA]) (post:=[]) (k:=9) (ob:=⟨3,1,ints [3]⟩) b3 rfl rfl rfl,fun y H' hq _=>?_⟩
 obtain ⟨rfl,rfl⟩:=hq
 simp +decide only[go_sem,nT,nA,nS,nM,nB,reduceIte,reduceCtorEq]
 refine zD (cA) rfl rfl ?_
 simp +decide only[go_sem,nT,nA,nS,nM,nB,reduceIte,reduceCtorEq]
 refine zO 4 cB' (by simp only[go_sem];rfl) rfl ?_
 simp +decide only[go_sem,nT,nA,nS,nM,nB,reduceIte,reduceCtorEq]
 refine zD (cC) rfl rfl ?_
 simp +decide only[go_sem,nT,nA,nS,nM,nB,reduceIte,reduceCtorEq,hL']
 refine zD (cN') rfl rfl ?_
 simp +decide only[go_sem,nT,nA,nS,nM,nB,reduceIte,reduceCtorEq]
end Go.Proofs.YtoknohandclcbaaGreat
namespace Go.Proofs.YtoknohandclcbaaGreat
open Go.RowKit
set_option maxRecDepth 8000
set_option maxHeartbeats 16000000 in
theorem zUP (p:Prg) (a:Ans) (g:List Int):HFn Tryz.prog 6 [prgH p,ansH a,.sl (ints g)] (.v (.bool true)):=by
 refine zB (fn:=Tryz.f6) 57 [6] (by kernel_rfl) rfl (by kernel_rfl) (HW.run 400 (by kernel_rfl) ?_)
 simp +decide only[go_sem,nT,nA,nS,nM,nB,reduceIte,reduceCtorEq]
 refine zD (zGN) rfl rfl ?_
 simp +decide only[go_sem,nT,nA,nS,nM,nB,reduceIte,reduceCtorEq]
 refine zD (zEj p a) rfl rfl ?_
 cases hG:zCn p a with
 | true=>simp +decide only[go_sem,nT,nA,nS,nM,nB,reduceIte,reduceCtorEq]
 | false =>
 obtain ⟨hp,h4,sA,_,_,hf,_,_,hx⟩:=zDF hG
 by_cases hg:60<g.length
 ·have hg' : ((60:Int)<(g.length:Int))=True:=by simp only[eq_iff_iff,iff_true];omega
  simp +decide only[go_sem,nT,nA,nS,nM,nB,reduceIte,reduceCtorEq,hg']
 have hg' : ((60:Int)<(g.length:Int))=False:=by simp only[eq_iff_iff,iff_false];omega
 have hC:=zAM p a hp sA
 simp +decide only[go_sem,nT,nA,nS,nM,nB,reduceIte,reduceCtorEq,hg']
 refine zD (hC) rfl rfl ?_
 cases hc:zAo p a with
 | false=>simp +decide only[go_sem,nT,nA,nS,nM,nB,reduceIte,reduceCtorEq]
 | true =>
 have hB1:=zEU p a a.fences hp sA (by omega)
 have hB2:=zEU p a (a.fences++g) hp sA (by simp;omega)
 unfold zNF at hB1 hB2
 rw[zHq hc (g:=a.fences) (fun _ h=>h)] at hB1
 rw[zHq hc (g:=a.fences++g) (fun _ h=>by simp[h])] at hB2
 simp only at hB1 hB2
 have hln:(a.fences++g).length=a.fences.length+g.length:=by simp
 simp +decide only[go_sem,nT,nA,nS,nM,nB,reduceIte,reduceCtorEq]
 refine zD (hB1) rfl rfl ?_
 simp +decide only[go_sem,nT,nA,nS,nM,nB,reduceIte,reduceCtorEq]
 refine HW.tree 1 (.light 0 (.light 1 (.light 3 (.light 4 (.light 6 (.heavy 2 [0,1,3,4,6] (.heavy 5 [0,1,6] (.heavy 7 [0,1] (.heavy 8 [] (.light 9 (.light 10 (.light 11 (.light 12 (.light 13 .leaf))))) .stop) .stop) .stop) .stop)))))) follows (by kernel_rfl) (by kernel_rfl) ?_
 simp +decide only[go_sem,nT,nA,nS,nM,nB,reduceIte,reduceCtorEq]
 repeat (with_reducible refine And.intro ?_ ?_;·(with_reducible and_intros) <;> omega)
 refine ⟨_,HCalls.hdGive (pre:=[prgH p,ansH a]) (post:=[]) (k:=2) (ob:=⟨3,1,ints (a.fences++g)⟩) (by show HCalls Tryz.prog 11 [] [prgH p,ansH a,.sl (fzoR (ints (a.fences++g)))] _;rw[zAU];exact hB2) rfl rfl (by simp only[zAB,hln]),fun y H' hq _=>?_⟩
 obtain ⟨rfl,rfl⟩:=hq
 simp +decide only[go_sem,nT,nA,nS,nM,nB,reduceIte,reduceCtorEq]
end Go.Proofs.YtoknohandclcbaaGreat
namespace Go.Proofs.YtoknohandclcbaaGreat
open Go.RowKit
set_option maxRecDepth 8000
theorem zR6:ownKnob Tryz.prog.godebug=none:=by kernel_rfl
theorem zEh {W:World} {b:Nat} {v:Value} (hm:W.cell? ⟨b,0,none⟩=some v):b<W.heap.size:=by
 unfold World.cell? at hm
 simp only at hm
 cases hh:W.heap[b]? with
 | none=>rw[hh] at hm;simp at hm
 | some o=>exact (Array.getElem?_eq_some_iff.1 hh).1
structure Ifcs (W:World):Prop where
 ifc:∀b,zZg b=true→∃v,W.cell? ⟨b,0,none⟩=some v∧(v=.nilIface∨∃t p,v=.iface t p)
 err:∀b,zHD b=true→∃a c t,W.cell? ⟨b,0,none⟩=some (.iface zKP (.pointer (some a)))∧W.heap[a.block]?=some (.cells c t (0,0))
 apart:∀b b' a,zHD b=true→zHD b'=true→W.cell? ⟨b,0,none⟩=some (.iface zKP (.pointer (some a)))→W.cell? ⟨b',0,none⟩=some (.iface zKP (.pointer (some a)))→b=b'
 han:∀b,zZh b=true→W.cell? ⟨b,0,none⟩=some z21
theorem zZR (W:World):Ifcs W:=⟨fun b hb=>by simp[zZg] at hb,fun b hb=>by simp[zHD] at hb,fun b b' a hb=>by simp[zHD] at hb,fun b hb=>by simp[zZh] at hb⟩
theorem zWr {W:World} (h:W.ShapedOpen Tryz.prog) (hI:Ifcs W):Globs (fun b=>b<W.heap.size) W:=by
 refine ⟨fun b hb=>?_,fun b hb=>?_,fun b hb=>?_,hI.apart,fun b hb=>⟨zEh (hI.han b hb),hI.han b hb⟩⟩
 ·simp[z2a] at hb
 ·obtain ⟨v,hv,hv'⟩:=hI.ifc b hb
  exact ⟨zEh hv,v,hv,hv'⟩
 ·obtain ⟨a,c,t,h1,h2⟩:=hI.err b hb
  exact ⟨zEh h1,a,c,t,h1,(Array.getElem?_eq_some_iff.1 h2).1,h2⟩
theorem HFn.below {f:FuncId} {args:List HV} {x:Value} {W:World} (h:HFn Tryz.prog f args (.v x)) (hsh:W.ShapedOpen Tryz.prog) (hI:Ifcs W) (vals:List Value) (ha:RL (fun b=>b<W.heap.size) [] W args vals []) :
  Calls Tryz.prog f vals.toArray W fun e W'=>e=.returned x∧Below W.heap.size W W':=by
 refine Calls.mono (h.2 _ [] _ W vals (HInv.empty (fun _ h=>h) (zWr hsh hI)) ha) ?_
 rintro e w' ⟨v,r,H',Z',G',FP',fr,rfl,rfl,hlen,hi',hr,hnd,hfr1,hfr2,hG,hE⟩
 simp only[RV] at hr
 obtain ⟨_,rfl⟩:=hr
 exact ⟨rfl,⟨hE.os,hE.tape,hE.output,hE.size,fun b hb=>hE.keep b hb (by simp)⟩⟩
end Go.Proofs.YtoknohandclcbaaGreat
namespace Go.Proofs.YtoknohandclcbaaGreat
open Go.ChangeShapes Go.WideShapes Go.RowKit
set_option maxRecDepth 8000
def zHN (ok:TypeId→Bool) (cell:TypeId→Nat):List Field→Nat→Nat→Bool
 | [],o,tot=>o == tot
 | f::fs,o,tot=>f.offset == o && ok f.type && zHN ok cell fs (o+cell f.type) tot
def zFG (P:Program):Nat→TypeId→Bool
 | 0,_=>false
 | n+1,t=>match P.underlying t with
  | some .bool=>true
  | some (.int _)=>true
  | some .string=>true
  | some (.slice e)=>decide (0<P.cellsOf e) && zFG P n e
  | some (.struct fs)=>zHN (zFG P n) P.cellsOf fs.toList 0 (P.cellsOf t)
  | some (.array m e)=>decide (P.cellsOf t=m*P.cellsOf e) && zFG P n e
  | _=>false
def ShpF (S:TypeId→List HV→Prop):List Field→List HV→Prop
 | [],hs=>hs=[]
 | f::fs,hs=>∃a b,hs=a++b∧S f.type a∧ShpF S fs b
def Shp (P:Program):Nat→TypeId→List HV→Prop
 | 0,_,_=>False
 | n+1,t,hs=>match P.underlying t with
  | some .bool=>∃b,hs=[.v (.bool b)]
  | some (.int k)=>∃x,(Lit.int k x).wf=true∧hs=[.v (.int k x)]
  | some .string=>∃s:List UInt8,s.length≤maxLen∧hs=[.v (str s)]
  | some (.slice e)=>∃rows:List (List HV),rows.length≤maxLen∧hs=[.sl rows]∧∀r∈rows,Shp P n e r
  | some (.struct fs)=>ShpF (Shp P n) fs.toList hs
  | some (.array m e)=>∃rows:List (List HV),rows.length=m∧hs=rows.flatten∧∀r∈rows,Shp P n e r
  | _=>False
section
variable {H:Type} {enc:TypeId×Value→H} {P:Program} {w:World} {base:Nat} {sp:Nat→Bool} {held:Bool} {Z:Nat→Prop}
def Ones (cs:List Value):Prop:=∀c∈cs,c.oneCell'=true
theorem z4Q:∀(hs:List HV) (cs:List Value) (b k:Nat),RL Z [] w hs cs []→Ones cs→(∀i c,cs[i]?=some c→w.cell? ⟨b,k+i,none⟩=some c)→RC Z [] w hs b k []
 | [],cs,b,k,h,_,_=>by simp[RC]
 | x::hs,cs,b,k,h,h1,hc=>by
  simp only[RL] at h
  obtain ⟨y,ys,f1,f2,rfl,hf,hv,ht⟩:=h
  obtain ⟨rfl,rfl⟩:=List.append_eq_nil_iff.1 hf.symm
  simp only[RC]
  refine ⟨y,[],[],rfl,by simpa using hc 0 y rfl,h1 y (by simp),hv,z4Q hs ys b (k+1) ht (fun c hc=>h1 c (by simp[hc])) fun i c hi=>?_⟩
  have:=hc (i+1) c (by simpa using hi)
  rw[show k+1+i=k+(i+1) by omega];exact this
theorem z4K {m:Nat}:∀(rows:List (List HV)) (b k:Nat),(∀r∈rows,r.length=m)→(∀i r,rows[i]?=some r→RC Z [] w r b (k+i*m) [])→RR Z [] w rows b k []
 | [],b,k,_,_=>by simp[RR]
 | r::rows,b,k,hm,h=>by
  simp only[RR]
  refine ⟨[],[],rfl,by simpa using h 0 r rfl,?_⟩
  rw[hm r (by simp)]
  refine z4K rows b (k+m) (fun r hr=>hm r (by simp[hr])) fun i r hi=>?_
  have:=h (i+1) r (by simpa using hi)
  rw[show k+m+i*m=k+(i+1)*m by rw[Nat.add_mul];omega];exact this
theorem zLN {h:HV} {y:Value} (hv:RV Z [] w h y []):RL Z [] w [h] [y] []:=by
 simp only[RL];exact ⟨y,[],[],[],rfl,rfl,hv,rfl,rfl⟩
theorem cells?_at {a:Addr} {k:Nat} {cs:List Value} (h:w.cells? base a k=some cs):cs.length=k∧∀i c,cs[i]?=some c→w.cell? (a.add i)=some c:=by
 obtain ⟨_,h2,h3⟩:=World.cells?_some h
 refine ⟨h2,fun i c hi=>?_⟩
 have hlt:=(List.getElem?_eq_some_iff.1 hi).1
 have:=h3 i (by omega)
 rw[←hi];exact this
theorem zGf {p:Nat→List HV→Prop}:∀(n:Nat),(∀i,i<n→∃r,p i r)→∃rows:List (List HV),rows.length=n∧∀i r,rows[i]?=some r→p i r
 | 0,_=>⟨[],rfl,by simp⟩
 | n+1,h=>by
  obtain ⟨rows,h1,h2⟩:=zGf n fun i hi=>h i (by omega)
  obtain ⟨r,hr⟩:=h n (by omega)
  refine ⟨rows++[r],by simp[h1],fun i x hx=>?_⟩
  rcases Nat.lt_or_ge i rows.length with hi | hi
  ·rw[List.getElem?_append_left hi] at hx;exact h2 i x hx
  ·rw[List.getElem?_append_right hi] at hx
   have:i-rows.length=0:=by
    have:=(List.getElem?_eq_some_iff.1 hx).1
    simp at this;omega
   rw[this] at hx
   obtain rfl:r=x:=by simpa using hx
   rw[show i=n by omega];exact hr
theorem zKp {ok:TypeId→Bool} {cell:TypeId→Nat}:∀(fs:List Field) (o tot:Nat),zHN ok cell fs o tot=true→o≤tot
 | [],_,_,hc=>by simp only[zHN,beq_iff_eq] at hc;omega
 | f::fs,o,tot,hc=>by
  simp only[zHN,Bool.and_eq_true,beq_iff_eq] at hc
  have:=zKp fs _ tot hc.2
  omega
theorem zOC {ok:TypeId→Bool} {cell:TypeId→Nat}:∀(fs:List Field) (o tot:Nat),zHN ok cell fs o tot=true→∀(i:Nat) (g:Field),fs[i]?=some g→o≤g.offset
 | [],_,_,_,i,g,hg=>by simp at hg
 | f::fs,o,tot,hc,i,g,hg=>by
  simp only[zHN,Bool.and_eq_true,beq_iff_eq] at hc
  obtain ⟨⟨h1,h2⟩,h3⟩:=hc
  cases i with
  | zero=>simp at hg;subst hg;omega
  | succ i =>
   have:=zOC fs _ tot h3 i g (by simpa using hg)
   omega
theorem zFD {S:TypeId→List HV→Prop} {ok:TypeId→Bool} {cell:TypeId→Nat}:∀(fs:List Field) (o:Nat) (cs:List Value),zHN ok cell fs o (o+cs.length)=true→
  (∀(i:Nat) (f:Field),fs[i]?=some f→ok f.type=true→∃hs,S f.type hs∧RL Z [] w hs ((cs.drop (f.offset-o)).take (cell f.type)) []∧Ones ((cs.drop (f.offset-o)).take (cell f.type)))→
  ∃hs,ShpF S fs hs∧RL Z [] w hs cs []∧Ones cs
 | [],o,cs,hc,_=>by
  simp only[zHN,beq_iff_eq] at hc
  obtain rfl:cs=[]:=List.length_eq_zero_iff.1 (by omega)
  exact ⟨[],rfl,by simp[RL],by simp[Ones]⟩
 | f::fs,o,cs,hc,h=>by
  simp only[zHN,Bool.and_eq_true,beq_iff_eq] at hc
  obtain ⟨⟨h1,h2⟩,h3⟩:=hc
  obtain ⟨a,sa,ra,oa⟩:=h 0 f rfl h2
  rw[h1,Nat.sub_self,List.drop_zero] at ra oa
  have hle:cell f.type≤cs.length:=by
   have:=zKp fs _ _ h3
   omega
  have hlen:o+cs.length=o+cell f.type+(cs.drop (cell f.type)).length:=by rw[List.length_drop];omega
  rw[hlen] at h3
  obtain ⟨b,sb,rb,ob⟩:=zFD fs (o+cell f.type) (cs.drop (cell f.type)) h3 fun i g hg hok=>by
   have hi:=zOC fs _ _ h3 i g hg
   obtain ⟨hs,k1,k2,k3⟩:=h (i+1) g (by simpa using hg) hok
   have e:(cs.drop (cell f.type)).drop (g.offset-(o+cell f.type))=cs.drop (g.offset-o):=by
    rw[List.drop_drop];congr 1;omega
   rw[e]
   exact ⟨hs,k1,k2,k3⟩
  refine ⟨a++b,⟨a,b,rfl,sa,sb⟩,?_,?_⟩
  ·have:=(zZ (Z:=Z) (G:=[]) (w:=w) a b cs []).2 ⟨cs.take (cell f.type),cs.drop (cell f.type),[],[],by simp,rfl,ra,rb⟩
   exact this
  ·intro c hc
   rw[←List.take_append_drop (cell f.type) cs] at hc
   rcases List.mem_append.1 hc with h | h
   ·exact oa c h
   ·exact ob c h
theorem zGj {S:List HV→Prop} {k:Nat}:∀(m:Nat) (cs:List Value),cs.length=m*k→(∀i,i<m→∃hs,S hs∧RL Z [] w hs ((cs.drop (i*k)).take k) []∧Ones ((cs.drop (i*k)).take k))→
  ∃rows:List (List HV),rows.length=m∧(∀r∈rows,S r)∧RL Z [] w rows.flatten cs []∧Ones cs
 | 0,cs,hl,_=>by
  obtain rfl:cs=[]:=List.length_eq_zero_iff.1 (by omega)
  exact ⟨[],rfl,by simp,by simp[RL],by simp[Ones]⟩
 | m+1,cs,hl,h=>by
  obtain ⟨a,sa,ra,oa⟩:=h 0 (by omega)
  simp only[Nat.zero_mul,List.drop_zero] at ra oa
  have hk:k≤cs.length:=by rw[hl,Nat.add_mul];omega
  obtain ⟨rows,h1,h2,h3,h4⟩:=zGj (k:=k) m (cs.drop k) (by rw[List.length_drop,hl,Nat.add_mul];omega) fun i hi=>by
   obtain ⟨hs,k1,k2,k3⟩:=h (i+1) (by omega)
   have e:(cs.drop k).drop (i*k)=cs.drop ((i+1)*k):=by
    rw[List.drop_drop];congr 1;rw[Nat.add_mul];omega
   rw[e];exact ⟨hs,k1,k2,k3⟩
  refine ⟨a::rows,by simp[h1],?_,?_,?_⟩
  ·intro r hr
   rcases List.mem_cons.1 hr with rfl | hr
   ·exact sa
   ·exact h2 r hr
  ·have:=(zZ (Z:=Z) (G:=[]) (w:=w) a rows.flatten cs []).2 ⟨cs.take k,cs.drop k,[],[],by simp,rfl,ra,h3⟩
   simpa using this
  ·intro c hc
   rw[←List.take_append_drop k cs] at hc
   rcases List.mem_append.1 hc with h | h
   ·exact oa c h
   ·exact h4 c h
theorem zH8 (hZ:∀b,b<w.heap.size→Z b):∀(n:Nat) (t:TypeId) (cs:List Value) (x:DataW H×List MemPlace) (fuel:Nat),zFG P n t=true→DataW.trod enc P w base sp held fuel t cs=some x→
  ∃hs,Shp P n t hs∧RL Z [] w hs cs []∧Ones cs:=by
 intro n
 induction n with
 | zero=>intro t cs x fuel h;simp[zFG] at h
 | succ n ih =>
  intro t cs x fuel hp hx
  unfold zFG at hp
  unfold Shp
  cases ht:P.underlying t with
  | none=>rw[ht] at hp;simp at hp
  | some T =>
   rw[ht] at hp
   cases T with
   | bool =>
    obtain ⟨b,rfl,_⟩:=DataW.trod_bool ht hx
    exact ⟨_,⟨b,rfl⟩,zLN (by simp[RV]),by simp[Ones,Value.oneCell']⟩
   | int k =>
    obtain ⟨m,rfl,_,hw⟩:=DataW.trod_int ht hx
    exact ⟨_,⟨m,hw,rfl⟩,zLN (by simp[RV]),by simp[Ones,Value.oneCell']⟩
   | string =>
    obtain ⟨s,rfl,_,hw⟩:=DataW.trod_string ht hx
    refine ⟨_,⟨s.data.toList,by rw[Array.length_toList];exact hw,rfl⟩,zLN (by simp[RV,str]),by simp[Ones,Value.oneCell']⟩
   | slice e =>
    simp only[Bool.and_eq_true,decide_eq_true_eq] at hp
    rcases DataW.trod_slice ht hx with ⟨rfl,_⟩ | ⟨a,len,cap,elems,rest,m,_,rfl,_,hb,hl,hm,hlen,hel,_,_⟩
    ·refine ⟨_,⟨[],Nat.zero_le _,rfl,by simp⟩,zLN ?_,by simp[Ones,Value.oneCell']⟩
     simp only[RV]
     exact ⟨trivial,none,0,rfl,Nat.zero_le _,Nat.zero_le _,.inl trivial⟩
    ·have each:∀i,i<len→∃r,Shp P n e r∧r.length=P.cellsOf e∧RC Z [] w r a.block (a.off+i*P.cellsOf e) []∧(i=0→a.spot=none)∧a.block<w.heap.size:=by
      intro i hi
      have h1:=hel i hi
      have hel' : i<elems.length:=by omega
      rw[List.getElem?_eq_getElem hel',Option.bind_eq_some_iff] at h1
      obtain ⟨ci,hci,hti⟩:=h1
      obtain ⟨r,sr,rr,o1⟩:=ih e ci _ m hp.2 hti
      obtain ⟨lc,hcell⟩:=cells?_at hci
      have cb:∀j c,ci[j]?=some c→w.cell? ((a.add (i*P.cellsOf e)).add j)=some c:=hcell
      have h0:∃c,w.cell? (a.add (i*P.cellsOf e))=some c:=by
       have:0<ci.length:=by omega
       refine ⟨ci[0],?_⟩
       have:=hcell 0 ci[0] (List.getElem?_eq_getElem this)
       simpa [Addr.add] using this
      obtain ⟨c0,h0⟩:=h0
      have hsp:(a.add (i*P.cellsOf e)).spot=none∧a.block<w.heap.size:=by
       unfold World.cell? at h0
       have hblk0:(a.add (i*P.cellsOf e)).block=a.block:=by simp only[Addr.add];split <;> rfl
       rw[hblk0] at h0
       cases hh:w.heap[a.block]? with
       | none=>rw[hh] at h0;simp at h0
       | some ob =>
        rw[hh] at h0
        refine ⟨?_,(Array.getElem?_eq_some_iff.1 hh).1⟩
        cases ob <;> simp at h0
        exact h0.1
      have hadd:∀j,(a.add (i*P.cellsOf e)).add j=⟨a.block,a.off+i*P.cellsOf e+j,none⟩:=by
       intro j
       have e1:a.add (i*P.cellsOf e)=⟨a.block,a.off+i*P.cellsOf e,none⟩:=by
        have h2:=hsp.1
        unfold Addr.add at h2⊢
        split
        ·rename_i h3
         rw[if_pos h3] at h2
         rw[h3]
         cases a;simp at h2⊢;exact h2
        ·rfl
       rw[e1]
       unfold Addr.add
       split
       ·rename_i h3;rw[h3];rfl
       ·rfl
      refine ⟨r,sr,by have:=zS (Z:=Z) (G:=[]) (w:=w) r ci [] rr;omega,z4Q r ci _ _ rr o1 (fun j c hj=>by rw[←hadd];exact cb j c hj),?_,hsp.2⟩
      rintro rfl
      have:=hsp.1
      rw[Nat.zero_mul] at this
      simpa [Addr.add] using this
     obtain ⟨rows,r1,r2⟩:=zGf len each
     refine ⟨_,⟨rows,by omega,rfl,?_⟩,zLN ?_,by simp[Ones,Value.oneCell']⟩
     ·intro r hr
      obtain ⟨i,hi⟩:=List.getElem?_of_mem hr
      exact (r2 i r hi).1
     ·simp only[RV]
      refine ⟨trivial,some a,cap,by rw[r1],by omega,hm,?_⟩
      by_cases h0:rows=[]
      ·exact .inl h0
      ·right
       obtain ⟨r,hi⟩:∃r,rows[0]?=some r:=by
        cases rows with
        | nil=>exact absurd rfl h0
        | cons r _=>exact ⟨r,rfl⟩
       obtain ⟨_,_,_,q1,q2⟩:=r2 0 r hi
       replace q1:=q1 rfl
       have hlen' : ∀r∈rows,r.length=P.cellsOf e:=by
        intro r hr
        obtain ⟨i,hi⟩:=List.getElem?_of_mem hr
        exact (r2 i r hi).2.1
       refine ⟨a.block,a.off,by cases a;simp at q1⊢;exact q1,hZ _ q2,?_,z4K rows _ _ hlen' fun i r hi=>(r2 i r hi).2.2.1⟩
       intro r hr
       rw[hlen' r hr]
       unfold zFv
       cases rows with
       | nil=>simp at hr
       | cons r0 _=>exact (hlen' r0 (by simp)).symm
   | struct fs =>
    obtain ⟨xs,m,_,_,hl,hlen,hf⟩:=DataW.trod_struct ht hx
    simp only at hp
    refine zFD (Z:=Z) (w:=w) fs.toList 0 cs (by rw[hl,Nat.zero_add];exact hp) fun i f hi hok=>?_
    have h1:=hf i f (by simpa using hi)
    have hlt:i<xs.length:=by
     have:=(List.getElem?_eq_some_iff.1 hi).1
     simp at this;omega
    rw[List.getElem?_eq_getElem hlt] at h1
    obtain ⟨hs,k1,k2,k3⟩:=ih f.type _ _ m hok h1
    rw[Nat.sub_zero]
    exact ⟨hs,k1,k2,k3⟩
   | array m e =>
    simp only[Bool.and_eq_true,decide_eq_true_eq] at hp
    obtain ⟨xs,k,_,_,hl,hlen,hf⟩:=DataW.trod_array ht hx
    obtain ⟨rows,h1,h2,h3,h4⟩:=zGj (Z:=Z) (w:=w) (S:=Shp P n e) m cs (by rw[hl];exact hp.1) fun i hi=>by
     have:=hf i hi
     rw[List.getElem?_eq_getElem (show i<xs.length by omega)] at this
     exact ih e _ _ k hp.2 this
    exact ⟨_,⟨rows,h1,rfl,h2⟩,h3,h4⟩
   | _=>simp at hp
theorem zAG {α:Type} {p:α→List HV}:∀(rows:List (List HV)),(∀r∈rows,∃a,r=p a)→∃l:List α,rows=l.map p
 | [],_=>⟨[],rfl⟩
 | r::rows,h=>by
  obtain ⟨a,rfl⟩:=h r (by simp)
  obtain ⟨l,rfl⟩:=zAG rows fun r hr=>h r (by simp[hr])
  exact ⟨a::l,rfl⟩
theorem zSN (hZ:∀b,b<w.heap.size→Z b) {n:Nat} {r:Reach} {b0:Nat} {t e:TypeId} {v:Value} {d:DataW H} {ps:List MemPlace} (ht:P.underlying t=some (.slice e)) (hp:zFG P (n+1) t=true) (hval:Value.okWide P w r b0 t v) (hd:DataW.Trod enc P w base sp held t v d ps) :
  ∃rows:List (List HV),rows.length≤maxLen∧RV Z [] w (.sl rows) v []∧∀r∈rows,Shp P n e r:=by
 obtain ⟨a,len,cap,rfl⟩:=okWide_slice ht hval
 obtain ⟨fuel,hf⟩:=hd
 obtain ⟨hs,h1,h2,_⟩:=zH8 (Z:=Z) hZ (n+1) t _ _ fuel hp hf
 unfold Shp at h1
 rw[ht] at h1
 obtain ⟨rows,k1,rfl,k2⟩:=h1
 refine ⟨rows,k1,?_,k2⟩
 have h3:RL Z [] w [.sl rows] [.slice a len cap] []:=h2
 simp only[RL] at h3
 obtain ⟨y,ys,f1,f2,e1,e2,hv,_⟩:=h3
 obtain ⟨rfl,_⟩:=List.append_eq_nil_iff.1 e2.symm
 cases e1;exact hv
theorem zSP (hZ:∀b,b<w.heap.size→Z b) {n:Nat} {r:Reach} {b0:Nat} {t:TypeId} {fs:Array Field} {v:Value} {d:DataW H} {ps:List MemPlace} (ht:P.underlying t=some (.struct fs)) (hp:zFG P (n+1) t=true) (hval:Value.okWide P w r b0 t v) (hd:DataW.Trod enc P w base sp held t v d ps) :
  ∃hs:List HV,RV Z [] w (.ag hs) v []∧ShpF (Shp P n) fs.toList hs:=by
 obtain ⟨cs,rfl,_⟩:=okWide_struct ht hval
 obtain ⟨fuel,hf⟩:=hd
 obtain ⟨hs,h1,h2,_⟩:=zH8 (Z:=Z) hZ (n+1) t _ _ fuel hp hf
 unfold Shp at h1
 rw[ht] at h1
 refine ⟨hs,?_,h1⟩
 simp only[RV]
 exact ⟨cs,rfl,h2⟩
theorem zA7 {n:Nat} {t:TypeId} {k:IntKind} {hs:List HV} (ht:P.underlying t=some (.int k)) (h:Shp P (n+1) t hs):∃x,(Lit.int k x).wf=true∧hs=[.v (.int k x)]:=by
 unfold Shp at h;rw[ht] at h;exact h
theorem zV5 {n:Nat} {t:TypeId} {hs:List HV} (ht:P.underlying t=some .bool) (h:Shp P (n+1) t hs):∃b,hs=[.v (.bool b)]:=by
 unfold Shp at h;rw[ht] at h;exact h
theorem zBS {n:Nat} {t e:TypeId} {hs:List HV} (ht:P.underlying t=some (.slice e)) (h:Shp P (n+1) t hs):∃rows:List (List HV),rows.length≤maxLen∧hs=[.sl rows]∧∀r∈rows,Shp P n e r:=by
 unfold Shp at h;rw[ht] at h;exact h
theorem zFj {n:Nat} {t:TypeId} {fs:Array Field} {hs:List HV} (ht:P.underlying t=some (.struct fs)) (h:Shp P (n+1) t hs):ShpF (Shp P n) fs.toList hs:=by
 unfold Shp at h;rw[ht] at h;exact h
end
end Go.Proofs.YtoknohandclcbaaGreat
namespace Go.Proofs.YtoknohandclcbaaGreat
open Go.ChangeShapes Go.WideShapes Go.RowKit
set_option maxRecDepth 8000
section
variable {H:Type} {enc:TypeId×Value→H} {w:World} {base:Nat} {sp:Nat→Bool} {held:Bool} {Z:Nat→Prop}
theorem zSO (hZ:∀b,b<w.heap.size→Z b) {r:Reach} {b0:Nat} {v:Value} {d:DataW H} {ps:List MemPlace} (hval:Value.okWide Tryz.prog w r b0 22 v) (hd:DataW.Trod enc Tryz.prog w base sp held 22 v d ps) :
  ∃l:List Int,RV Z [] w (.sl (ints l)) v []:=by
 obtain ⟨rows,_,h1,h2⟩:=zSN (Z:=Z) (n:=1) hZ Tryz.underlying22 (by kernel_rfl) hval hd
 obtain ⟨l,rfl⟩:=zAG (p:=irow) rows fun r hr=>by
  obtain ⟨x,_,rfl⟩:=zA7 Tryz.underlying3 (h2 r hr)
  exact ⟨x,rfl⟩
 exact ⟨l,h1⟩
theorem zIX (hZ:∀b,b<w.heap.size→Z b) {r:Reach} {b0:Nat} {v:Value} {d:DataW H} {ps:List MemPlace} (hval:Value.okWide Tryz.prog w r b0 25 v) (hd:DataW.Trod enc Tryz.prog w base sp held 25 v d ps) :
  ∃p:Prg,RV Z [] w (prgH p) v []:=by
 obtain ⟨hs,h1,a,b,rfl,ha,c,d,rfl,hc,rfl⟩:=zSP (Z:=Z) (n:=4) hZ Tryz.underlying25 (by kernel_rfl) hval hd
 obtain ⟨rows,_,rfl,hr⟩:=zBS Tryz.underlying22 ha
 obtain ⟨l,rfl⟩:=zAG (p:=irow) rows fun r h=>by
  obtain ⟨x,_,rfl⟩:=zA7 Tryz.underlying3 (hr r h)
  exact ⟨x,rfl⟩
 obtain ⟨rows,_,rfl,hq⟩:=zBS Tryz.underlying23 hc
 obtain ⟨m,rfl⟩:=zAG (p:=trow) rows fun r h=>by
  obtain ⟨rs,_,rfl,hs⟩:=zBS Tryz.underlying84 (hq r h)
  obtain ⟨m,rfl⟩:=zAG (p:=zOg) rs fun r h=>by
   obtain ⟨a1,_,rfl,h1,a2,_,rfl,h2,a3,_,rfl,h3,a4,_,rfl,h4,a5,_,rfl,h5,rfl⟩:=zFj Tryz.underlying87 (hs r h)
   obtain ⟨x1,_,rfl⟩:=zA7 Tryz.underlying3 h1
   obtain ⟨x2,_,rfl⟩:=zA7 Tryz.underlying3 h2
   obtain ⟨x3,_,rfl⟩:=zA7 Tryz.underlying3 h3
   obtain ⟨x4,_,rfl⟩:=zA7 Tryz.underlying3 h4
   obtain ⟨x5,_,rfl⟩:=zA7 Tryz.underlying3 h5
   exact ⟨⟨x1,x2,x3,x4,x5⟩,rfl⟩
  exact ⟨m,rfl⟩
 exact ⟨⟨l,m⟩,h1⟩
end
end Go.Proofs.YtoknohandclcbaaGreat
namespace Go.Proofs.YtoknohandclcbaaGreat
open Go.ChangeShapes Go.WideShapes Go.RowKit
set_option maxRecDepth 8000
theorem zBf:laidOutB Tryz.prog=true:=by kernel_rfl
theorem zBF {Z:Nat→Prop} {G:List (Option OG)} {w:World} {a:HV} {y:Value} {bs:List HV} {ys:List Value} (h:RV Z G w a y []) (t:RL Z G w bs ys []):RL Z G w (a::bs) (y::ys) []:=by
 simp only[RL];exact ⟨y,ys,[],[],rfl,rfl,h,t⟩
theorem zNM {Z:Nat→Prop} {G:List (Option OG)} {w:World}:RL Z G w [] [] []:=by simp[RL]
theorem z4H {Z:Nat→Prop} {G:List (Option OG)} {w:World} (x:Value):RV Z G w (.v x) x []:=by simp[RV]
end Go.Proofs.YtoknohandclcbaaGreat
namespace Go.Proofs.YtoknohandclcbaaGreat
open Go.ChangeShapes Go.WideShapes Go.RowKit
set_option maxRecDepth 8000
section
variable {H:Type} {enc:TypeId×Value→H} {w:World} {base:Nat} {sp:Nat→Bool} {held:Bool} {Z:Nat→Prop}
theorem zNc (hZ:∀b,b<w.heap.size→Z b) {r:Reach} {b0:Nat} {v:Value} {d:DataW H} {ps:List MemPlace} (hval:Value.okWide Tryz.prog w r b0 27 v) (hd:DataW.Trod enc Tryz.prog w base sp held 27 v d ps) :
  ∃l:List Ot,RV Z [] w (.sl (ots l)) v []:=by
 obtain ⟨rows,_,h1,h2⟩:=zSN (Z:=Z) (n:=4) hZ Tryz.underlying27 (by kernel_rfl) hval hd
 obtain ⟨l,rfl⟩:=zAG (p:=orow) rows fun r hr=>by
  obtain ⟨a,b,rfl,ha,c,d,rfl,hc,rfl⟩:=zFj Tryz.underlying44 (h2 r hr)
  obtain ⟨rs,_,rfl,hs⟩:=zBS Tryz.underlying22 ha
  obtain ⟨x,rfl⟩:=zAG (p:=irow) rs fun r h=>by
   obtain ⟨x,_,rfl⟩:=zA7 Tryz.underlying3 (hs r h)
   exact ⟨x,rfl⟩
  obtain ⟨rs,_,rfl,hs⟩:=zBS Tryz.underlying22 hc
  obtain ⟨y,rfl⟩:=zAG (p:=irow) rs fun r h=>by
   obtain ⟨x,_,rfl⟩:=zA7 Tryz.underlying3 (hs r h)
   exact ⟨x,rfl⟩
  exact ⟨⟨x,y⟩,rfl⟩
 exact ⟨l,h1⟩
theorem zIY (hZ:∀b,b<w.heap.size→Z b) {r:Reach} {b0:Nat} {v:Value} {d:DataW H} {ps:List MemPlace} (hval:Value.okWide Tryz.prog w r b0 29 v) (hd:DataW.Trod enc Tryz.prog w base sp held 29 v d ps) :
  ∃a:Ans,RV Z [] w (ansH a) v []:=by
 obtain ⟨hs,h1,a1,_,rfl,g1,a2,_,rfl,g2,a3,_,rfl,g3,a4,_,rfl,g4,a5,_,rfl,g5,rfl⟩:=zSP (Z:=Z) (n:=6) hZ Tryz.underlying29 (by kernel_rfl) hval hd
 obtain ⟨rs,_,rfl,hs⟩:=zBS Tryz.underlying22 g1
 obtain ⟨f,rfl⟩:=zAG (p:=irow) rs fun r h=>by
  obtain ⟨x,_,rfl⟩:=zA7 Tryz.underlying3 (hs r h)
  exact ⟨x,rfl⟩
 obtain ⟨rows,_,rfl,hp⟩:=zBS Tryz.underlying26 g2
 obtain ⟨ps,rfl⟩:=zAG (p:=zLz) rows fun r hr=>by
  obtain ⟨b1,_,rfl,k1,b2,_,rfl,k2,b3,_,rfl,k3,rfl⟩:=zFj Tryz.underlying50 (hp r hr)
  obtain ⟨rs,_,rfl,hq⟩:=zBS Tryz.underlying32 k1
  obtain ⟨l,rfl⟩:=zAG (p:=prow) rs fun r hr=>by
   obtain ⟨a,b,rfl,ha,c,d,rfl,hc,rfl⟩:=zFj Tryz.underlying74 (hq r hr)
   obtain ⟨x,_,rfl⟩:=zA7 Tryz.underlying3 ha
   obtain ⟨y,rfl⟩:=zV5 Tryz.underlying4 hc
   exact ⟨⟨x,y⟩,rfl⟩
  obtain ⟨a,b,rfl,ha,c,d,rfl,hc,rfl⟩:=zFj Tryz.underlying44 k2
  obtain ⟨rs,_,rfl,hs⟩:=zBS Tryz.underlying22 ha
  obtain ⟨x1,rfl⟩:=zAG (p:=irow) rs fun r h=>by
   obtain ⟨x,_,rfl⟩:=zA7 Tryz.underlying3 (hs r h)
   exact ⟨x,rfl⟩
  obtain ⟨rs,_,rfl,hs⟩:=zBS Tryz.underlying22 hc
  obtain ⟨x2,rfl⟩:=zAG (p:=irow) rs fun r h=>by
   obtain ⟨x,_,rfl⟩:=zA7 Tryz.underlying3 (hs r h)
   exact ⟨x,rfl⟩
  obtain ⟨rs,_,rfl,hs⟩:=zBS Tryz.underlying22 k3
  obtain ⟨x3,rfl⟩:=zAG (p:=irow) rs fun r h=>by
   obtain ⟨x,_,rfl⟩:=zA7 Tryz.underlying3 (hs r h)
   exact ⟨x,rfl⟩
  exact ⟨⟨l,⟨x1,x2⟩,x3⟩,rfl⟩
 obtain ⟨rows,_,rfl,hp⟩:=zBS Tryz.underlying27 g3
 obtain ⟨e1,rfl⟩:=zAG (p:=orow) rows fun r hr=>by
  obtain ⟨a,b,rfl,ha,c,d,rfl,hc,rfl⟩:=zFj Tryz.underlying44 (hp r hr)
  obtain ⟨rs,_,rfl,hs⟩:=zBS Tryz.underlying22 ha
  obtain ⟨x1,rfl⟩:=zAG (p:=irow) rs fun r h=>by
   obtain ⟨x,_,rfl⟩:=zA7 Tryz.underlying3 (hs r h)
   exact ⟨x,rfl⟩
  obtain ⟨rs,_,rfl,hs⟩:=zBS Tryz.underlying22 hc
  obtain ⟨x2,rfl⟩:=zAG (p:=irow) rs fun r h=>by
   obtain ⟨x,_,rfl⟩:=zA7 Tryz.underlying3 (hs r h)
   exact ⟨x,rfl⟩
  exact ⟨⟨x1,x2⟩,rfl⟩
 obtain ⟨rows,_,rfl,hp⟩:=zBS Tryz.underlying27 g4
 obtain ⟨e2,rfl⟩:=zAG (p:=orow) rows fun r hr=>by
  obtain ⟨a,b,rfl,ha,c,d,rfl,hc,rfl⟩:=zFj Tryz.underlying44 (hp r hr)
  obtain ⟨rs,_,rfl,hs⟩:=zBS Tryz.underlying22 ha
  obtain ⟨x1,rfl⟩:=zAG (p:=irow) rs fun r h=>by
   obtain ⟨x,_,rfl⟩:=zA7 Tryz.underlying3 (hs r h)
   exact ⟨x,rfl⟩
  obtain ⟨rs,_,rfl,hs⟩:=zBS Tryz.underlying22 hc
  obtain ⟨x2,rfl⟩:=zAG (p:=irow) rs fun r h=>by
   obtain ⟨x,_,rfl⟩:=zA7 Tryz.underlying3 (hs r h)
   exact ⟨x,rfl⟩
  exact ⟨⟨x1,x2⟩,rfl⟩
 obtain ⟨n,_,rfl⟩:=zA7 Tryz.underlying3 g5
 exact ⟨⟨f,ps,e1,e2,n⟩,h1⟩
theorem zYH {n:Int} (h:(Lit.int .u8 n).wf=true):0≤n∧n≤255:=by
 have h2:IntKind.u8.min≤n∧n≤IntKind.u8.max:=by simpa [Lit.wf] using h
 have e1:IntKind.u8.min=0:=by decide
 have e2:IntKind.u8.max=255:=by decide
 rw[e1,e2] at h2
 exact h2
end
end Go.Proofs.YtoknohandclcbaaGreat
namespace Go.Proofs.YtoknohandclcbaaGreat
open Go.RowKit
set_option maxRecDepth 8000
theorem zDy {l:List Prf} {k:Nat} {a:List Pck} {b c d:List Int}:(pfs l).set k [.sl (pcks a),.sl (ints b),.sl (ints c),.sl (ints d)]=pfs (l.set k ⟨a,⟨b,c⟩,d⟩):=zZH (x:=⟨a,⟨b,c⟩,d⟩)
theorem zWu {l:List Prf} (h1:l.length≤20) (h2:∀x∈l,x.slots.length≤61):(zAC l).flatten.length≤10000:=by
 have:∀l:List Prf,(∀x∈l,x.slots.length≤61)→(zAC l).flatten.length≤61*l.length:=by
  intro l
  induction l with
  | nil=>intro _;simp[zAC]
  | cons x l ih =>
   intro h
   have h1:=ih fun y hy=>h y (by simp[hy])
   have h2:=h x (by simp)
   simp only[zAC,List.map_cons,List.flatten_cons,List.length_append,List.length_cons] at h1⊢
   omega
 have:=this l h2
 omega
theorem zCg {a:Ans} (sA:SmallA a) (h1:a.proofs.length≤20) (h2:∀x∈a.proofs,x.slots.length≤60) {k:Nat} {x' : Prf} {f:List Int} (hf:f.length≤1000) (hp:x'.picks.length≤10000) (hs:x'.slots.length≤61) (ho:SmallO x'.out) :
  SmallA { a with proofs:=a.proofs.set k x',fences:=f }:=by
 have hm:∀y∈a.proofs.set k x',y∈a.proofs∨y=x':=fun y hy=>by
  have:=List.mem_or_eq_of_mem_set hy
  exact this
 refine ⟨sA.ends,sA.endO,sA.loose,sA.looseO,by show (a.proofs.set k x').length≤_;rw[List.length_set];exact sA.proofs,fun y hy=>?_,fun y hy=>?_,fun y hy=>?_,hf,?_⟩
 ·rcases hm y hy with h | rfl
  ·exact sA.picks y h
  ·exact hp
 ·rcases hm y hy with h | rfl
  ·exact sA.slots y h
  ·omega
 ·rcases hm y hy with h | rfl
  ·exact sA.outs y h
  ·exact ho
 ·refine zWu (by rw[List.length_set];exact h1) fun y hy=>?_
  rcases hm y hy with h | rfl
  ·have:=h2 y h;omega
  ·exact hs
set_option maxHeartbeats 16000000 in
theorem zMt (p:Prg) (a:Ans) (n m:Nat) (hn:n≤255) (hm:m≤255):HFn Tryz.prog 7 [prgH p,ansH a,.v (.int .u8 n),.v (.int .u8 m)] (.v (.bool true)):=by
 refine zB (fn:=Tryz.f7) 127 [8] (by kernel_rfl) rfl (by kernel_rfl) (HW.run 400 (by kernel_rfl) ?_)
 simp +decide only[go_sem,nT,nA,nS,nM,nB,reduceIte,reduceCtorEq]
 refine zD (zGN) rfl rfl ?_
 simp +decide only[go_sem,nT,nA,nS,nM,nB,reduceIte,reduceCtorEq]
 refine zD (zEj p a) rfl rfl ?_
 cases hG:zCn p a with
 | true=>simp +decide only[go_sem,nT,nA,nS,nM,nB,reduceIte,reduceCtorEq]
 | false =>
 obtain ⟨hp,h4,sA,ke,kl,hf,hpl,_,hx⟩:=zDF hG
 have hC:=zAM p a hp sA
 simp +decide only[go_sem,nT,nA,nS,nM,nB,reduceIte,reduceCtorEq]
 refine zD (hC) rfl rfl ?_
 cases hc:zAo p a with
 | false=>simp +decide only[go_sem,nT,nA,nS,nM,nB,reduceIte,reduceCtorEq]
 | true =>
 by_cases hpe:a.proofs=[]
 ·have e0:((a.proofs.length:Int)=0)=True:=by rw[hpe];simp
  simp +decide only[go_sem,nT,nA,nS,nM,nB,reduceIte,reduceCtorEq,e0]
 have hpos:=List.length_pos_iff.2 hpe
 have e0:((a.proofs.length:Int)=0)=False:=by simp only[eq_iff_iff,iff_false];omega
 have hkl:n % a.proofs.length<a.proofs.length:=Nat.mod_lt _ hpos
 have w0:IntKind.i64.wrap (n:Int)=(n:Int):=w64 (by omega) (by omega)
 have w1:((n:Int).tmod (a.proofs.length:Int))=((n % a.proofs.length:Nat):Int):=by
  rw[Int.tmod_eq_emod_of_nonneg (by omega)];omega
 obtain ⟨x,hxk⟩:∃x,a.proofs[n % a.proofs.length]?=some x:=⟨_,List.getElem?_eq_getElem hkl⟩
 generalize n % a.proofs.length=k at *
 have w2:IntKind.i64.wrap (k:Int)=(k:Int):=w64 (by omega) (by omega)
 have hkl' : ((k:Int)<(a.proofs.length:Int))=True:=by simp only[eq_iff_iff,iff_true];omega
 have hxm:=List.mem_of_getElem? hxk
 obtain ⟨s0,p0⟩:=zMq hc hxm
 have s1:=List.length_pos_iff.2 s0
 have p1:=List.length_pos_iff.2 p0
 have c1:((x.picks.length:Int)=0)=False:=by simp only[eq_iff_iff,iff_false];omega
 have c2:((x.slots.length:Int)=0)=False:=by simp only[eq_iff_iff,iff_false];omega
 have w3:((m:Int).tmod 5)=((m % 5:Nat):Int):=by
  rw[Int.tmod_eq_emod_of_nonneg (by omega)];omega
 have hr:m % 5<5:=Nat.mod_lt _ (by omega)
 generalize m % 5=r at *
 have hPx:=(zCS.1 hc).2.1 x hxm
 have hX:=hx x hxm
 have sO:=sA.outs x hxm
 have hmem:∀x' : Prf,x'∈a.proofs.set k x':=fun x'=>List.mem_of_getElem? (i:=k) (by rw[List.getElem?_set_self hkl])
 rcases r with _ | _ | _ | _ | _ | r
 ·have w3' : ((m:Int).tmod 5)=0:=w3
  have cB:=zAM p _ hp (zCg sA hpl (fun x h=>(hx x h).2.1) (k:=k) (x':={ x with slots:=List.take (x.slots.length-1) (List.drop 1 x.slots) }) (f:=a.fences) (by omega) (by show x.picks.length≤_;omega) (by simp;omega) sO)
  rw[zCR (hmem _) (zFf hPx (fun e=>by have:=congrArg List.length e;simp at this;omega))] at cB
  simp +decide only[go_sem,nT,nA,nS,nM,nB,reduceIte,reduceCtorEq,e0,w0,w1,w2,hkl',hxk,c1,c2,w3']
  repeat (with_reducible refine And.intro ?_ ?_;·(with_reducible and_intros) <;> omega)
  refine zO 5 cB (by simp only[go_sem,List.map_set,List.length_set,zDy];done) rfl ?_
  simp +decide only[go_sem,nT,nA,nS,nM,nB,reduceIte,reduceCtorEq]
 ·have w3' : ((m:Int).tmod 5)=1:=w3
  obtain ⟨y,hy⟩:∃y,x.slots[x.slots.length-1]?=some y:=⟨_,List.getElem?_eq_getElem (by omega)⟩
  have cB:=zAM p _ hp (zCg sA hpl (fun x h=>(hx x h).2.1) (k:=k) (x':={ x with slots:=x.slots++[y] }) (f:=a.fences) (by omega) (by show x.picks.length≤_;omega) (by simp;omega) sO)
  rw[zCR (hmem _) (zFf hPx (fun e=>by have:=congrArg List.length e;simp at this))] at cB
  have w5:IntKind.i64.wrap ((x.slots.length:Int)-1)=((x.slots.length-1:Nat):Int):=by rw[w64 (by omega) (by omega)];omega
  have w6:(((x.slots.length-1:Nat):Int)<(x.slots.length:Int))=True:=by simp only[eq_iff_iff,iff_true];omega
  have hln:(x.slots++[y]).length=x.slots.length+1:=by simp
  simp +decide only[go_sem,nT,nA,nS,nM,nB,reduceIte,reduceCtorEq,e0,w0,w1,w2,hkl',hxk,c1,c2,w3']
  repeat (with_reducible refine And.intro ?_ ?_;·(with_reducible and_intros) <;> omega)
  refine HW.tree 1 (.light 1 (.light 2 (.light 4 (.light 5 (.light 6 (.light 7 (.light 8 (.light 9 (.light 10 (.light 11 (.heavy 0 [1,2,4,5,6,7,8,9,10,11] (.heavy 3 [4,5,6,7,8,9,10,11] (.heavy 12 [1,2] (.heavy 13 [] (.light 14 (.heavy 15 [] .leaf .stop)) .stop) .stop) (.heavy 12 [1,2] (.heavy 3 [4,5,6,7,8,9,10,11] (.heavy 13 [] (.light 14 (.heavy 15 [] .leaf .stop)) .stop) .stop) .stop)) (.heavy 12 [1,2] (.heavy 0 [1,2,4,5,6,7,8,9,10,11] (.heavy 3 [4,5,6,7,8,9,10,11] (.heavy 13 [] (.light 14 (.heavy 15 [] .leaf .stop)) .stop) .stop) .stop) .stop)))))))))))) follows (by kernel_rfl) (by kernel_rfl) ?_
  simp +decide only[go_sem,nT,nA,nS,nM,nB,reduceIte,reduceCtorEq,w5,w6,hy,w2,hkl',hxk]
  (with_reducible and_intros)
  all_goals first | omega | skip
  all_goals
   refine zO 5 cB (by simp only[go_sem,List.map_set,List.length_set,zDy];done) rfl ?_
   simp +decide only[go_sem,nT,nA,nS,nM,nB,reduceIte,reduceCtorEq]
 ·have w3' : ((m:Int).tmod 5)=2:=w3
  have cB:=zAM p _ hp (zCg sA hpl (fun x h=>(hx x h).2.1) (k:=k) (x':={ x with picks:=x.picks.take (x.picks.length-1) }) (f:=a.fences) (by omega) (by simp;omega) (by show x.slots.length≤_;omega) sO)
  rw[zCR (hmem _) (zLf hp hPx p0)] at cB
  have w5:IntKind.i64.wrap ((x.picks.length:Int)-1)=((x.picks.length-1:Nat):Int):=by rw[w64 (by omega) (by omega)];omega
  simp +decide only[go_sem,nT,nA,nS,nM,nB,reduceIte,reduceCtorEq,e0,w0,w1,w2,hkl',hxk,c1,c2,w3',w5]
  repeat (with_reducible refine And.intro ?_ ?_;·(with_reducible and_intros) <;> omega)
  refine zO 5 cB (by simp only[go_sem,List.map_set,List.length_set,zDy];rfl) rfl ?_
  simp +decide only[go_sem,nT,nA,nS,nM,nB,reduceIte,reduceCtorEq]
 ·have w3' : ((m:Int).tmod 5)=3:=w3
  have cB:=zAM p _ hp (zCg sA hpl (fun x h=>(hx x h).2.1) (k:=k) (x':={ x with out:=⟨x.out.regs,x.out.regs++[1]⟩ }) (f:=a.fences) (by omega) (by show x.picks.length≤_;omega) (by show x.slots.length≤_;omega) ⟨sO.regs,by have:=hX.2.2;simp;omega⟩)
  rw[zCR (hmem _) (zRO hPx (fun e=>by have:=congrArg (fun o=>o.regs.length) e;simp at this))] at cB
  simp +decide only[go_sem,nT,nA,nS,nM,nB,reduceIte,reduceCtorEq,e0,w0,w1,w2,hkl',hxk,c1,c2,w3']
  repeat (with_reducible refine And.intro ?_ ?_;·(with_reducible and_intros) <;> omega)
  refine HW.tree 1 (.light 0 (.light 1 (.light 2 (.light 4 (.light 5 (.light 6 (.heavy 3 [0,1,2,4,5,6] (.heavy 7 [0,1,2] (.heavy 8 [0,1,2,4,5,6] (.heavy 9 [0,1,2] (.light 10 (.light 11 (.heavy 12 [] .leaf .stop))) .stop) .stop) (.heavy 8 [0,1,2,4,5,6] (.heavy 7 [0,1,2] (.heavy 9 [0,1,2] (.light 10 (.light 11 (.heavy 12 [] .leaf .stop))) .stop) .stop) .stop)) (.heavy 8 [0,1,2,4,5,6] (.heavy 3 [0,1,2,4,5,6] (.heavy 7 [0,1,2] (.heavy 9 [0,1,2] (.light 10 (.light 11 (.heavy 12 [] .leaf .stop))) .stop) .stop) .stop) .stop)))))))) follows (by kernel_rfl) (by kernel_rfl) ?_
  simp +decide only[go_sem,nT,nA,nS,nM,nB,reduceIte,reduceCtorEq,w2,hkl',hxk]
  (with_reducible and_intros)
  all_goals first | omega | skip
  all_goals
   refine zO 5 cB (by simp only[go_sem,List.map_set,List.length_set,zDy];done) rfl ?_
   simp +decide only[go_sem,nT,nA,nS,nM,nB,reduceIte,reduceCtorEq]
 ·have w3' : ((m:Int).tmod 5)=4:=w3
  have cB:=zAM p _ hp (zCg sA hpl (fun x h=>(hx x h).2.1) (k:=k) (x':=x) (f:=a.fences++[99]) (by simp;omega) (by omega) (by omega) sO)
  rw[zJY hc (by
   show zAC (a.proofs.set k x)=zAC a.proofs
   have:a.proofs.set k x=a.proofs:=by
    obtain ⟨h1,h2⟩:=List.getElem?_eq_some_iff.1 hxk
    rw[←h2];exact List.set_getElem_self h1
   rw[this]) (fun e=>by have:=congrArg List.length e;simp at this)] at cB
  have hln:(a.fences++[(99:Int)]).length=a.fences.length+1:=by simp
  simp +decide only[go_sem,nT,nA,nS,nM,nB,reduceIte,reduceCtorEq,e0,w0,w1,w2,hkl',hxk,c1,c2,w3']
  repeat (with_reducible refine And.intro ?_ ?_;·(with_reducible and_intros) <;> omega)
  refine zO 5 cB (by simp only[go_sem,List.map_set,List.length_set,zDy];done) rfl ?_
  simp +decide only[go_sem,nT,nA,nS,nM,nB,reduceIte,reduceCtorEq]
 ·omega
theorem zMs (p:Prg) (a:Ans) (n m:Int) (hn:0≤n∧n≤255) (hm:0≤m∧m≤255):HFn Tryz.prog 7 [prgH p,ansH a,.v (.int .u8 n),.v (.int .u8 m)] (.v (.bool true)):=by
 have h:=zMt p a n.toNat m.toNat (by omega) (by omega)
 rw[Int.toNat_of_nonneg hn.1,Int.toNat_of_nonneg hm.1] at h
 exact h
end Go.Proofs.YtoknohandclcbaaGreat
namespace Go.Proofs.YtoknohandclcbaaGreat
open Go.RowKit
set_option maxRecDepth 8000
theorem zGR {o:Ot}:∀{l:List Ot},(insO o l).length≤l.length+1
 | []=>by simp[insO]
 | x::l=>by
  have:=zGR (o:=o) (l:=l)
  unfold insO
  split
  ·simp
  ·split
   ·simp
   ·simp only[List.length_cons];omega
theorem zPV {a b:List Ot}:∀x∈zAm a b,x∈a:=fun x hx=>(List.mem_filter.1 hx).1
theorem zPW {a b:List Ot}:(zAm a b).length≤a.length:=List.length_filter_le _ _
set_option maxHeartbeats 16000000 in
theorem zUQ (p:Prg) (a:Ans) (l m:List Ot):HFn Tryz.prog 8 [prgH p,ansH a,.sl (ots l),.sl (ots m)] (.v (.bool true)):=by
 refine zB (fn:=Tryz.f8) 85 [8] (by kernel_rfl) rfl (by kernel_rfl) (HW.run 400 (by kernel_rfl) ?_)
 simp +decide only[go_sem,nT,nA,nS,nM,nB,reduceIte,reduceCtorEq]
 refine zD (zGN) rfl rfl ?_
 simp +decide only[go_sem,nT,nA,nS,nM,nB,reduceIte,reduceCtorEq]
 refine zD (zEj p a) rfl rfl ?_
 cases hG:zCn p a with
 | true=>simp +decide only[go_sem,nT,nA,nS,nM,nB,reduceIte,reduceCtorEq]
 | false =>
 obtain ⟨hp,h4,sA,ke,kl,hf,hpl,_,hx⟩:=zDF hG
 simp +decide only[go_sem,nT,nA,nS,nM,nB,reduceIte,reduceCtorEq]
 refine zD (zKD l) rfl rfl ?_
 cases hL:zEV l with
 | true=>simp +decide only[go_sem,nT,nA,nS,nM,nB,reduceIte,reduceCtorEq]
 | false =>
 simp +decide only[go_sem,nT,nA,nS,nM,nB,reduceIte,reduceCtorEq]
 refine zD (zKD m) rfl rfl ?_
 cases hM:zEV m with
 | true=>simp +decide only[go_sem,nT,nA,nS,nM,nB,reduceIte,reduceCtorEq]
 | false =>
 obtain ⟨l1,l2⟩:=zBx hL
 obtain ⟨m1,m2⟩:=zBx hM
 have l3:=zBk hL
 have m3:=zBk hM
 have sP:SmallA ⟨[],[],l,m,0⟩:=⟨by show l.length≤_;omega,l3,by show m.length≤_;omega,m3,by simp,by simp,by simp,by simp,by simp,by simp[zAC]⟩
 have cP:=zAM p ⟨[],[],l,m,0⟩ hp sP
 rw[zMr] at cP
 have cP' : HFn Tryz.prog 13 [prgH p,.ag [.v (.slice none 0 0),.v (.slice none 0 0),.sl (ots l),.sl (ots m),.v (.int .i64 0)]] (.v (.bool (setO l && decide (l=m)))) :=
  HCalls.convB cP ⟨Conv.refl _,Conv.ag ⟨Conv.nilSl,Conv.nilSl,Conv.refl _,Conv.refl _,Conv.refl _,trivial⟩,trivial⟩
 have cS:=zYx l (by omega) l3
 have cE:=zVr l m (by omega) (by omega) l3 m3
 generalize decide (l=m)=e1 at cP' cE
 simp +decide only[go_sem,nT,nA,nS,nM,nB,reduceIte,reduceCtorEq]
 refine zD (cP') rfl rfl ?_
 simp +decide only[go_sem,nT,nA,nS,nM,nB,reduceIte,reduceCtorEq]
 refine zD (cS) rfl rfl ?_
 have hC:=zAM p a hp sA
 have rest:∀z:Bool,decide (z=z)=true:=fun z=>by simp
 generalize setO l=e2 at cS
 cases e2
 rotate_left
 simp +decide only[go_sem,nT,nA,nS,nM,nB,reduceIte,reduceCtorEq]
 refine zD (cE) rfl rfl ?_
 simp +decide only[go_sem,nT,nA,nS,nM,nB,reduceIte,reduceCtorEq,rest]
 rotate_left
 simp +decide only[go_sem,nT,nA,nS,nM,nB,reduceIte,reduceCtorEq,Bool.false_and]
 all_goals
  refine zD (hC) rfl rfl ?_
  cases hc:zAo p a with
  | false=>simp +decide only[go_sem,nT,nA,nS,nM,nB,reduceIte,reduceCtorEq]
  | true =>
  by_cases hpe:a.proofs=[]
  ·have e0:((a.proofs.length:Int)=0)=True:=by rw[hpe];simp
   simp +decide only[go_sem,nT,nA,nS,nM,nB,reduceIte,reduceCtorEq,e0]
  have hpos:=List.length_pos_iff.2 hpe
  have e0:((a.proofs.length:Int)=0)=False:=by simp only[eq_iff_iff,iff_false];omega
  have hz0:((0:Int)<(a.proofs.length:Int))=True:=by simp only[eq_iff_iff,iff_true];omega
  obtain ⟨x,hx0⟩:∃x,a.proofs[0]?=some x:=⟨_,List.getElem?_eq_getElem hpos⟩
  have hxm:=List.mem_of_getElem? hx0
  have sO:=sA.outs x hxm
  have hPx:=(zCS.1 hc).2.1 x hxm
  have sB:SmallA { a with ends:=insO x.out a.ends }:=⟨by have:=zGR (o:=x.out) (l:=a.ends);show (insO x.out a.ends).length≤_;omega,fun o ho=>by
   rcases zI8.1 ho with h | rfl
   ·exact sA.endO o h
   ·exact sO,sA.loose,sA.looseO,sA.proofs,sA.picks,sA.slots,sA.outs,sA.fences,sA.all⟩
  have sC:SmallA { a with loose:=zAm a.loose [x.out] }:=⟨sA.ends,sA.endO,by have:=zPW (a:=a.loose) (b:=[x.out]);show (zAm a.loose [x.out]).length≤_;omega,fun o ho=>sA.looseO o (zPV o ho),sA.proofs,sA.picks,sA.slots,sA.outs,sA.fences,sA.all⟩
  have cB:=zAM p _ hp sB
  have cC:=zAM p _ hp sC
  rw[zCR (b:={ a with ends:=insO x.out a.ends }) hxm (zHU hPx (.inl (decide_eq_true (zI8.2 (.inr rfl)))))] at cB
  rw[zCR (b:={ a with loose:=zAm a.loose [x.out] }) hxm (zHU hPx (.inr (decide_eq_false fun h=>by
   have:=(List.mem_filter.1 h).2
   simp[hasO] at this)))] at cC
  have hPut:=zYz a.ends x.out (by omega) sA.endO sO
  have hMi:=zVs a.loose [x.out] (by omega) (by simp) sA.looseO (fun o h=>by obtain rfl:=List.mem_singleton.1 h;exact sO)
  simp +decide only[go_sem,nT,nA,nS,nM,nB,reduceIte,reduceCtorEq,e0]
  refine HW.tree 1 (.light 0 (.light 1 (.light 2 (.light 3 (.light 4 (.light 5 (.light 6 (.heavy 7 [] (.light 8 (.heavy 9 [] .leaf .stop)) .stop)))))))) follows (by kernel_rfl) (by kernel_rfl) ?_
  simp +decide only[go_sem,nT,nA,nS,nM,nB,reduceIte,reduceCtorEq,hz0,hx0]
  refine zD (hPut) rfl rfl ?_
  simp +decide only[go_sem,nT,nA,nS,nM,nB,reduceIte,reduceCtorEq]
  refine HW.tree 1 (.light 0 (.light 1 (.light 2 (.light 3 (.light 4 (.light 5 (.light 6 (.heavy 7 [0,1] (.heavy 8 [] (.light 9 (.heavy 10 [] .leaf .stop)) .stop) .stop)))))))) follows (by kernel_rfl) (by kernel_rfl) ?_
  simp +decide only[go_sem,nT,nA,nS,nM,nB,reduceIte,reduceCtorEq,hz0,hx0]
  refine ⟨_,HCalls.hdGive (pre:=[.sl (ots a.loose)]) (post:=[]) (k:=6) (ob:=⟨44,2,ots [x.out]⟩) hMi rfl rfl rfl,fun y H' hq _=>?_⟩
  obtain ⟨rfl,rfl⟩:=hq
  simp +decide only[go_sem,nT,nA,nS,nM,nB,reduceIte,reduceCtorEq]
  refine zO 4 cB (by simp only[go_sem]) rfl ?_
  simp +decide only[go_sem,nT,nA,nS,nM,nB,reduceIte,reduceCtorEq]
  refine zO 4 cC (by simp only[go_sem]) rfl ?_
  simp +decide only[go_sem,nT,nA,nS,nM,nB,reduceIte,reduceCtorEq]
end Go.Proofs.YtoknohandclcbaaGreat
