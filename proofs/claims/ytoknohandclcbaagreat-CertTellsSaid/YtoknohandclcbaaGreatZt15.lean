/- Parts of the proof: Gi, Gj, Lk, Cm, HiMq, Cp, Cu, Gu, Gv, Gw. -/
import Derived.Test.YtoknohandclcbaaGreatZt14
import Derived.Tactics
import Derived.Tactics2
import Derived.Defers
import Derived.Recover
import Derived.Shelf.SlIterI.Nil
import Derived.Shelf.SortM.Plain
import Derived.Shelf.SortM.SortNone
import Derived.Shelf.Spec.SlicesGrow
import Derived.Test.YtoknohandclcbaaGreatProg
import Derived.KernelRfl
import Derived.Test.YtoknohandclcbaaGreatZt08
import Derived.Test.YtoknohandclcbaaGreatZt09
import Derived.Test.YtoknohandclcbaaGreatZt12
import Derived.Sort.OwnSortedInts
open Nat renaming reduceAdd → nA, reduceSub → nS, reduceMul → nM, reduceBEq → nB
open Int renaming reduceToNat → nT
set_option linter.unusedSectionVars false
set_option linter.unusedVariables false
set_option linter.unusedSimpArgs false
namespace Go.Proofs.YtoknohandclcbaaGreat
open Go.RowKit
set_option maxRecDepth 8000
theorem zZY {I:KS}:zGL I .normal=I:=rfl
attribute [go_sem] zZY
abbrev tryB (l:List (List Int)) (m:Nat) (all row:List Int) (T:Nat→HV) (H:Heap):Prop:=T 0=.sl (ints all)∧T 1=.v (.int .i64 m)∧T 3=.sl (rws l)∧T 6=.pt 0 1 0 0∧H=[some (zYS row)]
set_option maxHeartbeats 8000000 in
theorem zVF (l:List (List Int)) (all row r:List Int) (ok:TryOk l 0 all row) (h:tryF l 0 all row=some r):zQq Tryz.prog 145 (tryA l 0 all row) (.ic 179 (.sl (ints r))):=by
 have hi:=zNU row l (by have:=ok.row;omega) (by have:=ok.len;omega) (fun r hr=>by have:=ok.each r hr;omega)
 have hg:=zH1 row l
 have hrl:=ok.row
 have hh:zB3 row l=true∧row=r:=by
  unfold tryF at h
  cases hb:zB3 row l with
  | false=>rw[if_neg (by simp[hb])] at h;cases h
  | true=>rw[if_pos hb] at h;cases h;exact ⟨rfl,rfl⟩
 obtain ⟨hh,rfl⟩:=hh
 rw[hh] at hg
 generalize idxF (fun row'=>!zAe row' row) l=q at hi hg
 have c0:(q<0)=True:=by simpa using hg
 refine zID (fn:=Tryz.f145) 48 rfl rfl (by kernel_rfl) rfl ?_
 refine HD.seq2 (I:=tryB l 0 all row) (HW.run 60 (by kernel_rfl) ?_) ?_
 ·simp +decide only[go_sem,nT,nA,nS,nM,nB,reduceIte,reduceCtorEq]
  exact ⟨rfl,rfl,rfl,rfl,rfl⟩
 rintro T H ⟨h0,h1,h3,h6,rfl⟩
 refine HD.seq2 (I:=fun T H=>tryB l 0 all row T H∧T 8=.v (.int .i64 q)) (HW.run 60 (by kernel_rfl) ?_) ?_
 ·simp +decide only[go_sem,nT,nA,nS,nM,nB,reduceIte,reduceCtorEq,h0,h1,h3,h6]
  refine zJ 3 hi (by simp only[go_sem];rfl) rfl ?_
  simp +decide only[go_sem,nT,nA,nS,nM,nB,reduceIte,reduceCtorEq,h0,h1,h3,h6]
  refine ⟨?_,?_,?_,?_,rfl⟩
  all_goals simp +decide only[go_sem,nB,reduceIte,h0,h1,h3,h6]
 rintro T H ⟨⟨h0,h1,h3,h6,rfl⟩,h8⟩
 refine HD.seq1 (HD.block ?_)
 refine HD.seq2 (I:=fun T H=>tryB l 0 all row T H∧T 14=.v (.bool true)) (HW.run 60 (by kernel_rfl) ?_) ?_
 ·simp +decide only[go_sem,nT,nA,nS,nM,nB,reduceIte,reduceCtorEq,h0,h1,h3,h6,h8,c0]
  refine ⟨?_,?_,?_,?_,rfl⟩
  all_goals simp +decide only[go_sem,nB,reduceIte,h0,h1,h3,h6]
 rintro T H ⟨⟨h0,h1,h3,h6,rfl⟩,h14⟩
 refine HD.cond (t:=true) (by decide) h14 (fun _=>?_) (fun h=>by cases h)
 refine HD.regionA (I:=fun T H=>T 23=.ic 179 (.sl (ints row))) 60 (by simp) ?_
 intro pre o hs
 simp only[zE9,zC0,Option.map_some,Option.some.injEq,Prod.mk.injEq] at hs
 obtain ⟨rfl,rfl⟩:=hs
 refine ⟨by kernel_rfl,rfl,?_,?_⟩
 ·simp +decide only[go_sem,nT,nA,nS,nM,nB,reduceIte,reduceCtorEq,h0,h1,h3,h6]
  have hc:HFn Tryz.prog 154 [.sl (ints row)] (.sl (ints row)):=HFn.shut (R':=.sl (ints row)) (zAj row (by omega)) (by simp only[fzo,zAO])
  refine zC (hc) rfl rfl ?_
  simp +decide only[go_sem,nT,nA,nS,nM,nB,reduceIte,reduceCtorEq,h0,h1,h3,h6]
 ·intro T H h23
  exact HDo.panic rfl (by kernel_rfl) h23
abbrev tryL (l:List (List Int)) (m:Nat) (all row r:List Int) (k:Nat) (T:Nat→HV) (H:Heap):Prop:=∃i:Nat,k=all.length-i∧i≤all.length∧tryG (tryF l m) row (all.drop i)=some r∧tryB l (m+1) all row T H∧T 27=.sl (ints all)∧T 28=.v (.int .i64 all.length)∧T 29=.v (.int .i64 i)
set_option maxHeartbeats 8000000 in
theorem zVE (l:List (List Int)) (m:Nat) (all row r:List Int) (ok:TryOk l (m+1) all row) (h:tryF l (m+1) all row=some r)
  (ih0:∀all row,TryOk l m all row→tryF l m all row=none→HFn Tryz.prog 145 (tryA l m all row) (.tu []))
  (ih:∀all row r,TryOk l m all row→tryF l m all row=some r→zQq Tryz.prog 145 (tryA l m all row) (.ic 179 (.sl (ints r)))) :
  zQq Tryz.prog 145 (tryA l ((m+1:Nat)) all row) (.ic 179 (.sl (ints r))):=by
 have hal:=ok.all
 have hrl:=ok.row
 have hi:=zNU row l (by omega) (by have:=ok.len;omega) (fun r hr=>by have:=ok.each r hr;omega)
 generalize idxF (fun row'=>!zAe row' row) l=q at hi
 have c1:(((m+1:Nat):Int)=0)=False:=by simp only[eq_iff_iff,iff_false];omega
 have h' : tryG (tryF l m) row all=some r:=h
 refine zID (fn:=Tryz.f145) 48 rfl rfl (by kernel_rfl) rfl ?_
 refine HD.seq2 (I:=tryB l (m+1) all row) (HW.run 60 (by kernel_rfl) ?_) ?_
 ·simp +decide only[go_sem,nT,nA,nS,nM,nB,reduceIte,reduceCtorEq]
  exact ⟨rfl,rfl,rfl,rfl,rfl⟩
 rintro T H ⟨h0,h1,h3,h6,rfl⟩
 refine HD.seq2 (I:=fun T H=>tryB l (m+1) all row T H∧T 8=.v (.int .i64 q)) (HW.run 60 (by kernel_rfl) ?_) ?_
 ·simp +decide only[go_sem,nT,nA,nS,nM,nB,reduceIte,reduceCtorEq,h0,h1,h3,h6]
  refine zJ 3 hi (by simp only[go_sem];rfl) rfl ?_
  simp +decide only[go_sem,nT,nA,nS,nM,nB,reduceIte,reduceCtorEq,h0,h1,h3,h6]
  and_intros
  all_goals first | rfl | (simp +decide only[go_sem,nB,reduceIte,h0,h1,h3,h6];done)
 rintro T H ⟨⟨h0,h1,h3,h6,rfl⟩,h8⟩
 refine HD.seq2 (I:=tryB l (m+1) all row) (HW.run 60 (by kernel_rfl) ?_) ?_
 ·rcases tfE' (q<0) with ⟨d0,c0⟩ | ⟨d0,c0⟩
  all_goals
   simp +decide only[go_sem,nT,nA,nS,nM,nB,reduceIte,reduceCtorEq,h0,h1,h3,h6,h8,c0,c1]
   and_intros
   all_goals first | rfl | (simp +decide only[go_sem,nB,reduceIte,h0,h1,h3,h6];done)
 rintro T H ⟨h0,h1,h3,h6,rfl⟩
 refine HD.seq2 (I:=fun T H=>tryB l (m+1) all row T H∧T 27=.sl (ints all)∧T 28=.v (.int .i64 all.length)∧T 29=.v (.int .i64 (0:Nat))) (HW.run 60 (by kernel_rfl) ?_) ?_
 ·simp +decide only[go_sem,nT,nA,nS,nM,nB,reduceIte,reduceCtorEq,h0,h1,h3,h6]
  and_intros
  all_goals first | rfl | (simp +decide only[go_sem,nB,reduceIte,h0,h1,h3,h6];done)
 rintro T H ⟨⟨h0,h1,h3,h6,rfl⟩,h27,h28,h29⟩
 refine HD.block (HD.loop (tryL l m all row r) all.length ⟨0,rfl,by omega,h',⟨h0,h1,h3,h6,rfl⟩,h27,h28,h29⟩ ?_)
 rintro k T H ⟨i,rfl,hil,hp,⟨h0,h1,h3,h6,rfl⟩,h27,h28,h29⟩
 by_cases hlt:i<all.length
 ·have hlt' : ((i:Int)<(all.length:Int))=True:=by simp only[eq_iff_iff,iff_true];omega
  have hx:all[i]?=some all[i]:=List.getElem?_eq_getElem hlt
  have hdr:all.drop i=all[i]::all.drop (i+1):=List.drop_eq_getElem_cons hlt
  generalize all[i]=n at hx hdr
  rw[hdr,tryG] at hp
  have w1:IntKind.i64.wrap ((i:Int)+1)=((i+1:Nat):Int):=w64 (by omega) (by omega)
  have w2:IntKind.i64.wrap (((m+1:Nat):Int)-1)=(m:Int):=by rw[w64 (by omega) (by omega)];omega
  have tk:List.take (all.length-(i+1)) (List.drop (i+1) all)=List.drop (i+1) all:=List.take_of_length_le (by simp)
  have hln:(row++[n]).length=row.length+1:=by simp
  have hok:TryOk l m (all.drop (i+1)) (row++[n]):=⟨by simp;omega,by simp;omega,ok.len,ok.each⟩
  cases ht:tryF l m (all.drop (i+1)) (row++[n]) with
  | none =>
   rw[ht] at hp
   have hih:=ih0 (all.drop (i+1)) (row++[n]) hok ht
   refine .inr (HW.weaken (Q':=zGL (GQ 48 0 fun T' H'=>∃k',k' < all.length-i∧tryL l m all row r k' T' H')) (HW.run 200 (by kernel_rfl) ?_) ?_)
   ·simp +decide only[go_sem,nT,nA,nS,nM,nB,reduceIte,reduceCtorEq,h0,h1,h3,h6,h27,h28,h29,hlt',hx]
    refine HW.tree 1 (.light 0 (.light 1 (.light 2 (.light 3 (.light 4 (.light 5 (.light 6 (.light 8 (.light 11 (.heavy 7 [0,1,2,3,4,5,8,11] (.heavy 9 [0,1,2,3,4,5,6,11] (.heavy 10 [0,1,2,3,4,5,11] (.heavy 12 [] .leaf .stop) .stop) .stop) (.heavy 9 [0,1,2,3,4,5,6,11] (.heavy 7 [0,1,2,3,4,5,8,11] (.heavy 10 [0,1,2,3,4,5,11] (.heavy 12 [] .leaf .stop) .stop) .stop) .stop))))))))))) follows (by kernel_rfl) (by kernel_rfl) ?_
    simp +decide only[go_sem,nT,nA,nS,nM,nB,reduceIte,reduceCtorEq,h0,h1,h3,h6,h27,h28,h29,hlt',hx,w1,w2]
    repeat (with_reducible refine And.intro ?_ ?_;·(with_reducible and_intros) <;> omega)
    refine ⟨?_,?_⟩
    all_goals
     refine zC (zAj row (by omega)) rfl rfl ?_
     simp +decide only[go_sem,nT,nA,nS,nM,nB,reduceIte,reduceCtorEq,h0,h1,h3,h6,h27,h28,h29,hlt',hx,w1,w2]
     repeat (with_reducible refine And.intro ?_ ?_;·(with_reducible and_intros) <;> omega)
     refine zJ 3 hih ?_ rfl ?_
     ·simp only[go_sem,tk,hln,Nat.zero_add,if_true]
     simp +decide only[go_sem,nT,nA,nS,nM,nB,reduceIte,reduceCtorEq,h0,h1,h3,h6,h27,h28,h29,hlt',hx,w1,w2]
     refine ⟨_,_,Ghost.trunc [0,1,3,6,27,28,29] 1 (by omega) ?_ ?_,all.length-(i+1),by omega,i+1,rfl,by omega,hp,⟨?_,?_,?_,?_,?_⟩,?_,?_,?_⟩
     all_goals first | (simp +decide only[go_sem,nB,reduceIte,h0,h1,h3,h6,h27,h28];done) | rfl
   ·intro e T' H' hq
    cases e with
    | normal =>
     obtain ⟨T2,H2,g,hi⟩:=hq
     exact ⟨T2,H2,g,hi⟩
    | _=>exact hq.elim
  | some r' =>
   rw[ht] at hp
   cases hp
   have hih:=ih (all.drop (i+1)) (row++[n]) r hok ht
   refine .inl ?_
   refine HD.seq2 (I:=fun T H=>tryB l (m+1) all row T H∧T 27=.sl (ints all)∧T 29=.v (.int .i64 i)∧T 30=.v (.bool true)) (HW.run 60 (by kernel_rfl) ?_) ?_
   ·simp +decide only[go_sem,nT,nA,nS,nM,nB,reduceIte,reduceCtorEq,h0,h1,h3,h6,h27,h28,h29,hlt']
    and_intros
    all_goals first | rfl | (simp +decide only[go_sem,nB,reduceIte,h0,h1,h3,h6,h27,h29];done)
   rintro T H ⟨⟨h0,h1,h3,h6,rfl⟩,h27,h29,h30⟩
   refine HD.seq2 (I:=fun T H=>tryB l (m+1) all row T H∧T 27=.sl (ints all)∧T 29=.v (.int .i64 i)) (HW.run 60 (by kernel_rfl) ?_) ?_
   ·simp +decide only[go_sem,nT,nA,nS,nM,nB,reduceIte,reduceCtorEq,h0,h1,h3,h6,h27,h29,h30]
    and_intros
    all_goals first | rfl | assumption
   rintro T H ⟨⟨h0,h1,h3,h6,rfl⟩,h27,h29⟩
   refine HD.seq1 (HD.block ?_)
   refine HD.seq2 (I:=fun T H=>tryB l (m+1) all row T H∧T 9=.v (.int .i64 i)∧T 10=.v (.int .i64 n)) (HW.run 60 (by kernel_rfl) ?_) ?_
   ·simp +decide only[go_sem,nT,nA,nS,nM,nB,reduceIte,reduceCtorEq,h0,h1,h3,h6,h27,h29,hx]
    and_intros
    all_goals first | rfl | assumption | (simp +decide only[go_sem,nB,reduceIte,h0,h1,h3,h6,h27,h29];done) | omega
   rintro T H ⟨⟨h0,h1,h3,h6,rfl⟩,h9,h10⟩
   refine HD.treeA (fun T H=>T 37=.sl (ints (all.drop (i+1)))∧T 39=.v (.int .i64 m)∧T 44=.sl (ints (row++[n]))∧T 45=.sl (rws l)) (.light 0 (.light 1 (.light 2 (.light 3 (.light 4 (.light 5 (.light 6 (.light 8 (.light 11 (.heavy 7 [0,1,2,3,4,5,8,11] (.heavy 9 [0,1,2,3,4,5,6,11] (.heavy 10 [0,1,2,3,4,5,11] .leaf .stop) .stop) (.heavy 9 [0,1,2,3,4,5,6,11] (.heavy 7 [0,1,2,3,4,5,8,11] (.heavy 10 [0,1,2,3,4,5,11] .leaf .stop) .stop) .stop))))))))))) follows (by simp) ?_;intro pre o hs;simp only[zE9,zC0,Option.map_some,Option.some.injEq,Prod.mk.injEq] at hs;obtain ⟨rfl,rfl⟩:=hs;refine ⟨⟨by kernel_rfl,by kernel_rfl,by kernel_rfl,by kernel_rfl⟩,?_,?_⟩
   ·simp +decide only[go_sem,nT,nA,nS,nM,nB,reduceIte,reduceCtorEq,h0,h1,h3,h6,h9,h10,w1,w2]
    repeat (with_reducible refine And.intro ?_ ?_;·(with_reducible and_intros) <;> omega)
    refine ⟨?_,?_⟩
    all_goals
     refine zC (zAj row (by omega)) rfl rfl ?_
     simp +decide only[go_sem,nT,nA,nS,nM,nB,reduceIte,reduceCtorEq,h0,h1,h3,h6,h9,h10,w1,w2]
     repeat (with_reducible refine And.intro ?_ ?_;·(with_reducible and_intros) <;> omega)
     first
      | refine ⟨_,_,Ghost.freezeHd 44 1 (row.length+1) rfl rfl (by simp only[zAD,hln]),?_,?_,?_,?_⟩
      | refine ⟨_,_,Ghost.freezeHd 44 2 (row.length+1) rfl rfl (by simp only[zAD,hln]),?_,?_,?_,?_⟩
     all_goals first | (simp +decide only[go_sem,nB,reduceIte,tk];done) | rfl
   ·rintro T H ⟨h37,h39,h44,h45⟩
    refine HDo.call rfl (by kernel_rfl) rfl (by decide) ?_ ?_ rfl hih
    ·show [T 37,T 39,T 44,T 45]=_
     rw[h37,h39,h44,h45]
    ·rfl
 ·rw[List.drop_of_length_le (by omega)] at hp
  cases hp
theorem zH2 (l:List (List Int)):∀(m:Nat) (all row:List Int),TryOk l m all row→(tryF l m all row=none→HFn Tryz.prog 145 (tryA l m all row) (.tu []))∧(∀r,tryF l m all row=some r→zQq Tryz.prog 145 (tryA l m all row) (.ic 179 (.sl (ints r))))
 | 0,all,row,ok=>⟨zVD l all row ok,fun r=>zVF l all row r ok⟩
 | m+1,all,row,ok=>⟨fun h=>zVC l m all row ok h fun all row ok=>(zH2 l m all row ok).1,fun r h=>zVE l m all row r ok h (fun all row ok=>(zH2 l m all row ok).1) fun all row r ok=>(zH2 l m all row ok).2 r⟩
end Go.Proofs.YtoknohandclcbaaGreat
namespace Go.Proofs.YtoknohandclcbaaGreat
open Go.RowKit
set_option maxRecDepth 8000
abbrev zC5 (x:HV):HObj:=⟨22,1,[[x]]⟩
theorem zUX (p:Addr) (w:World):CallsD Tryz.prog 144 #[.pointer (some p)] .returning w fun e u' w'=>e=.returned (.tuple #[])∧u'=.returning∧w'=w:=by
 refine callsD_of_wpS Tryz.func144 rfl fun c₀ cs hu=>?_
 apply wpS_seq
 apply wpS_region
 simp[wpOpsS,go_sem,recoverD,hu,Tryz.ntmps144,Exit.thenS]
 refine wpS_of_wp ?_
 go_wp2
 cases c₀
 simp_all [bodyPostS,results,Tryz.results144,go_sem]
 done
section
variable {P:Program} {N L:Nat} {Q:Exit→KS} {T:Nat→HV} {H:Heap}
theorem zUp {o:Oper} {x:Operand} {xT t:TypeId} {y:HV} {K:KT} (ho:o.op=.typeAssert x xT t true) (hok:zI N o=true) (hx:hev T x=.ic t y)
  (hrun:∀z w,(Instr.typeAssert (.iface t z) xT t true).run P w=.ok (.tuple #[z,.bool true]) w) (h:K (.tu [y,.v (.bool true)]) H):HQ P N o T H K:=fun B Z G FP ds a w hs=>by
 have h1:=hs.hev x (zE hok (by simp[ho,Op.operands]))
 rw[hx] at h1
 simp only[RV] at h1
 obtain ⟨_,z,hz,hy⟩:=h1
 refine ⟨.tuple #[z,.bool true],.tu [y,.v (.bool true)],?_,h,?_⟩
 ·unfold execOp
  rw[ho]
  show (Sem.run P (Next.value <$> Instr.typeAssert (a.eval x) xT t true) w)=_
  rw[hz]
  have:=hrun z w
  simp only[map_eq_pure_bind,Sem.run_bind,this,Result.andThen_ok,Sem.run_pure]
 ·simp only[RV,RL]
  exact ⟨_,rfl,z,[.bool true],[],[],rfl,rfl,hy,_,[],[],[],rfl,rfl,⟨rfl,rfl⟩,rfl,rfl⟩
theorem HW.regionF {id:Nat} {ops:Array Oper} {o:Oper} {rest:List Oper} {K:KS} (n:Nat) (he:ops.toList=o::rest) (hok:((o::rest).all fun o=>zI N o && zAC o)=true) (hg:o.guard=none) (ho:HO P N L o T H K)
  (k:∀T' H',K T' H'→ex P N L Q n [.ops (o::rest) rest] T' H'):HW P N L (.region id ops false) Q T H:=by
 intro ro m B Z G FP ds a w hB hL hs
 have e:ops=(o::rest).toArray:=by rw[←he]
 subst e
 refine wpIn_region_list ?_
 refine wpListIn_plain hg fun K' hK'=>?_
 refine ho ro m B Z G FP ds a w hB hL hs K' _ ?_
 rintro a' w' ⟨T',H',Z',G',FP',hK,hs',hG',hE'⟩
 refine hK' _ _ ?_
 have hrest:(rest.all fun o=>zI N o && zAC o)=true:=by
  rw[List.all_eq_true] at hok⊢
  exact fun x hx=>hok x (by simp[hx])
 have:=zCU n [.ops (o::rest) rest] T' H' (k T' H' hK) (by simp only[List.all_cons,List.all_nil,zAp,hrest,Bool.and_true] at hok⊢;simp[hok]) ro m B Z G FP w Z' G' FP' ds a' w' (hB.evo hE') hs' hG' hE'
 simp only[M] at this
 exact this
theorem zE8 {F:Fence} {n:Nat} {ops:Array Oper} {Q Φ:Exit→Act→World→Prop} {rest:List Oper} (hq:∀e a w,e≠.normal→Φ e a w→Q e a w) (hn:∀a w,Φ .normal a w→wpListIn F n P ops Q rest a w):∀(pre:List Oper) (a:Act) (w:World),wpListIn F n P ops Φ pre a w→wpListIn F n P ops Q (pre++rest) a w
 | [],a,w,h=>hn a w h
 | p::pre,a,w,h=>by
  simp only[List.cons_append]
  unfold wpListIn at h⊢
  split
  ·rename_i hw
   rw[if_pos hw] at h
   exact Oper.wpIn_mono2 (fun a w h=>zE8 hq hn pre a w h) hq h
  ·rename_i hw
   rw[if_neg hw] at h
   exact ⟨h.1,zE8 hq hn pre _ w h.2⟩
def cutL:Nat→List Oper→Option (List Oper×Oper×List Oper)
 | _,[]=>none
 | 0,x::l=>some ([],x,l)
 | k+1,x::l=>(cutL k l).map fun p=>(x::p.1,p.2.1,p.2.2)
theorem zKt {x:Oper} {l:List Oper}:cutL 0 (x::l)=some ([],x,l):=rfl
theorem zGi {k:Nat} {x:Oper} {l:List Oper}:cutL (k+1) (x::l)=(cutL k l).map fun p=>(x::p.1,p.2.1,p.2.2):=rfl
theorem zKu:∀(k:Nat) {l pre rest:List Oper} {o:Oper},cutL k l=some (pre,o,rest)→l=pre++o::rest
 | 0,[],_,_,_,h=>by cases h
 | k+1,[],_,_,_,h=>by cases h
 | 0,x::l,pre,rest,o,h=>by
  rw[zKt] at h
  cases h;rfl
 | k+1,x::l,pre,rest,o,h=>by
  rw[zGi] at h
  obtain ⟨⟨p,z,q⟩,h1,h2⟩:=Option.map_eq_some_iff.1 h
  cases h2
  rw[zKu k h1];rfl
theorem zKv:∀{k:Nat} {l:List Oper},k<l.length→∃pre o rest,cutL k l=some (pre,o,rest)
 | k,[],h=>by simp at h
 | 0,x::l,_=>⟨_,_,_,rfl⟩
 | k+1,x::l,h=>by
  obtain ⟨p,o,q,h⟩:=zKv (k:=k) (l:=l) (by simpa using h)
  exact ⟨x::p,o,q,by rw[zGi,h];rfl⟩
theorem HW.regionM {id:Nat} {ops:Array Oper} {I K:KS} (k n:Nat) (hk:k<ops.toList.length) (hok:(ops.toList.all fun o=>zI N o && zAC o)=true)
  (h:∀pre o rest,cutL k ops.toList=some (pre,o,rest)→o.guard=none∧ex P N L (zGL I) n [.ops (pre++o::rest) pre] T H∧(∀T H,I T H→HO P N L o T H K)∧∀T' H',K T' H'→ex P N L Q n [.ops (pre++o::rest) rest] T' H'):HW P N L (.region id ops false) Q T H:=by
 obtain ⟨pre,o,rest,hs⟩:=zKv hk
 obtain ⟨hg,hp,ho,hr⟩:=h pre o rest hs
 have he:=zKu k hs
 intro ro m B Z G FP ds a w hB hL hst
 have e:ops=(pre++o::rest).toArray:=by rw[←he]
 subst e
 have hok' : ((pre++o::rest).all fun o=>zI N o && zAC o)=true:=hok
 have hsub:∀l:List Oper,(∀x∈l,x∈pre++o::rest)→(l.all fun o=>zI N o && zAC o)=true:=fun l hl=>by
  rw[List.all_eq_true] at hok'⊢
  exact fun x hx=>hok' x (hl x hx)
 refine wpIn_region_list ?_
 have h1:=zCU n [.ops (pre++o::rest) pre] T H hp (by simp only[List.all_cons,List.all_nil,zAp,hok',hsub pre (fun x hx=>by simp[hx]),Bool.and_self]) ro m B Z G FP w Z G FP ds a w hB hst (GLt.refl hL) (Evo.refl _ _ _)
 simp only[M] at h1
 refine zE8 (Φ:=Fin (zGL I) N L B Z G FP w) ?_ ?_ pre a w (by simpa using h1)
 ·intro e a' w' he hq
  cases e with
  | normal=>exact absurd rfl he
  | _ =>
   obtain ⟨T',H',Z',G',FP',ds',h1,_⟩:=hq
   exact False.elim h1
 ·intro a' w' hq
  obtain ⟨T',H',Z',G',FP',ds',h1,h2,h3,h4⟩:=hq
  refine wpListIn_plain hg fun K' hK'=>?_
  refine ho T' H' h1 ro m B Z' G' FP' ds' a' w' (hB.evo h4) h3.len h2 K' _ ?_
  rintro a2 w2 ⟨T2,H2,Z2,G2,FP2,hK2,hs2,hG2,hE2⟩
  refine hK' _ _ ?_
  have h5:=zCU n [.ops (pre++o::rest) rest] T2 H2 (hr T2 H2 hK2) (by simp only[List.all_cons,List.all_nil,zAp,hok',hsub rest (fun x hx=>by simp[hx]),Bool.and_self]) ro m B Z G FP w Z2 G2 FP2 ds' a2 w2 (hB.evo (h4.trans hE2)) hs2 (h3.trans hG2) (h4.trans hE2)
  simp only[M] at h5
  exact h5
theorem zQp {o:Oper} {t u:TypeId} {e e' : TypeId} {s x:Operand} {K:KT} (ho:o.op=.call { callee:=.builtin .append,args:=#[s,x],argTypes:=#[t,u] }) (ht:P.underlying t=some (.slice e)) (hu:P.underlying u=some (.slice e')) (hok:zI N o=true) (h:zG1 P H t (hev T s) (hev T x) K):HR P N o T H K:=by
 have hoo:zI N { o with op:=.call { callee:=.builtin .append,args:=#[s,x],argTypes:=#[t,t] } }=true:=by
  have:=hok
  simp only[zI,ho,Op.operands,Call.operands] at this⊢
  exact this
 have hR:=zL1 (o:={ o with op:=.call { callee:=.builtin .append,args:=#[s,x],argTypes:=#[t,t] } }) rfl hoo h
 intro B Z G FP ds a w hs
 obtain ⟨r,v,w',x',H',Z',G',FP',h1,rest⟩:=hR B Z G FP ds a w hs
 refine ⟨r,v,w',x',H',Z',G',FP',?_,rest⟩
 rw[←h1]
 simp only[execOp,ho,resolve,invoke,builtin,Sem.run_bind,Sem.run_pure,Result.andThen_ok,List.map_toArray,List.map_cons,List.map_nil]
 have:(Builtin.append_ #[t,u] o.type #[a.eval s,a.eval x]).run P w=(Builtin.append_ #[t,t] o.type #[a.eval s,a.eval x]).run P w:=by
  unfold Builtin.append_
  generalize a.eval s=y
  cases y with
  | slice base n c=>simp[Sem.run_bind,run_underlying ht,run_underlying hu]
  | _=>simp[Sem.run_bind,run_underlying ht]
 rw[this]
end
theorem zGO {P:Program}:∀(ds:List Nat) (w:World) (fr:Frame) (cs:List Frame),fr.mode=.returning→fr.defers=zF1 ds→ds.Nodup→(∀d∈ds,w.heap[d]?=some (.deferred (some [])))→
  ∃w',Steps P (lone fr cs w) (lone { fr with defers:=[] } cs w')∧w'.os=w.os∧w'.tape=w.tape∧w'.output=w.output∧w'.heap.size=w.heap.size∧∀b,b∉ds→w'.heap[b]?=w.heap[b]?
 | [],w,fr,cs,hm,hd,_,_=>by
  have:({ fr with defers:=[] }:Frame)=fr:=by
   have:fr.defers=[]:=hd
   rw[←this]
  rw[this]
  exact ⟨w,Steps.refl P _,rfl,rfl,rfl,rfl,fun _ _=>rfl⟩
 | d::ds,w,fr,cs,hm,hd,hnd,hat=>by
  have hdd:=hat d (by simp)
  obtain ⟨hn1,hn2⟩:=List.nodup_cons.1 hnd
  have hd' : fr.defers=⟨.collected d,#[]⟩::zF1 ds:=hd
  have h1:=step_collected (P:=P) (cs:=cs) (w:=w) (w':={ w with heap:=w.heap.setIfInBounds d (.deferred none) }) (calls:=[]) (by rw[hm];simp) hd' rfl (by
   have:=run_takeDeferred (P:=P) hdd
   rw[this]
   rfl)
  obtain ⟨w',h2,h3,h4,h5,h6,h7⟩:=zGO ds { w with heap:=w.heap.setIfInBounds d (.deferred none) } { fr with defers:=[]++zF1 ds } cs hm rfl hn2 (fun e he=>by
   have:d≠e:=fun e'=>hn1 (e'▸he)
   simp[Array.getElem?_setIfInBounds_ne this,hat e (by simp[he])])
  refine ⟨w',.head h1 h2,h3,h4,h5,by rw[h6];simp,fun b hb=>?_⟩
  rw[h7 b (fun hc=>hb (by simp[hc]))]
  have:d≠b:=fun e=>hb (by simp[e])
  simp[Array.getElem?_setIfInBounds_ne this]
theorem zGp {P:Program} {f:FuncId} {fn:Func} {c:Code} {args:Array Value} {u:FrameMode} {w:World} {R:Ending→FrameMode→World→Prop}
  (hf:P.funcs[f]?=some fn) (hb:fn.body=some c) (hres:fn.results = #[])
  (h:∀(c₀:Frame) (cs:List Frame),c₀.mode=u→
   c.wpS P (fun e a' cs' w'=>e=.normal∧∃ds,a'.defers=zF1 ds∧ds.Nodup∧(∀d∈ds,w'.heap[d]?=some (.deferred (some [])))∧∃u',cs' = { c₀ with mode:=u' }::cs∧
    ∀w2,w2.os=w'.os→w2.tape=w'.tape→w2.output=w'.output→w2.heap.size=w'.heap.size→(∀b,b∉ds→w2.heap[b]?=w'.heap[b]?)→R (.returned (.tuple #[])) u' w2) { tmps:=args++Array.replicate (fn.ntmps-args.size) undef,defers:=[] } (c₀::cs) w) :
  CallsD P f args u w R:=by
 intro c₀ cs hu
 let b:Frame:={ (default:Frame) with fn:=f,kind:=.deferred }
 have henter:Frame.enter P f args .deferred =
   b.at { tmps:=args++Array.replicate (fn.ntmps-args.size) undef,defers:=[] } [.code c]:=by
  simp[Frame.enter,Frame.at,hf,hb,b]
 obtain ⟨e,a',cs',w',hq,harr⟩:=h c₀ cs hu b [] rfl rfl
 rw[←henter] at harr
 obtain ⟨rfl,ds,hd,hnd,hat,u',rfl,hR⟩:=hq
 obtain ⟨w2,h2,h3,h4,h5,h6,h7⟩:=zGO (P:=P) ds w' { b.at a' [] with mode:=.returning } ({ c₀ with mode:=u' }::cs) rfl hd hnd hat
 exact ⟨.returned (.tuple #[]),u',w2,_,hR w2 h3 h4 h5 h6 h7,Steps.trans harr (.head step_end h2),rfl,rfl,rfl,fn,hf,by simp[results,hres]⟩
theorem zTP (z:Value) (w:World):(Instr.typeAssert (.iface 179 z) 20 179 true).run Tryz.prog w=.ok (.tuple #[z,.bool true]) w:=by kernel_rfl
abbrev zLB (r:List Int):Heap:=[some (zC5 (.hd 1 0 r.length)),some ⟨3,1,ints r⟩]
theorem zXw {x v:Value}:(#[x]++(Array.replicate 12 undef).setIfInBounds 3 v).getD 4 undef=v:=by
 rw[Array.getD_eq_getD_getElem?,Array.getElem?_append_right (by simp)]
 simp
theorem zUW {x v:Value} {i:Nat} (h4:¬i=4):(#[x]++(Array.replicate 12 undef).setIfInBounds 3 v).getD i undef=([x].toArray++Array.replicate (13 - [x].toArray.size) undef).getD i undef:=by
 simp only[Array.getD_eq_getD_getElem?,Array.getElem?_append,List.size_toArray,List.length_singleton]
 by_cases h0:i<1
 ·rw[if_pos (by simpa using h0),if_pos h0]
 ·rw[if_neg (by simpa using h0),if_neg h0]
  rw[Array.getElem?_setIfInBounds_ne (by simp;omega)]
set_option maxHeartbeats 1000000 in
theorem zXx (p:Addr) (r:List Int) (v:Value) (w:World) {Z:Nat→Prop} {g:OG} {FP:Nat→List Nat} (hr:r.length≤200000)
  (hi:HInv Z [some g] FP [some (zC5 (.v (.slice none 0 0)))] w) (hp:RV Z [some g] w (.pt 0 1 0 0) (.pointer (some p)) []) (hv:RV Z [some g] w (.ic 179 (.sl (ints r))) v []) :
  CallsD Tryz.prog 144 #[.pointer (some p)] (.panicking [{ v:=v,recovered:=false }]) w fun e u' w' =>
   e=.returned (.tuple #[])∧u'=.panicking [{ v:=v,recovered:=true }]∧∃Z' G' FP',HInv Z' G' FP' (zLB r) w'∧GLt 1 [some g] G'∧Evo Z FP w Z' FP' w':=by
 refine zGp Tryz.func144 rfl Tryz.results144 fun c₀ cs hu=>?_
 apply wpS_seq
 apply wpS_region
 simp[wpOpsS,go_sem,recoverD,hu,Tryz.ntmps144,Exit.thenS]
 refine wpS_of_wp ((wpIn_wide (n:=0)).1 ?_)
 refine wpIn_mono ((?hw:HW Tryz.prog 13 1 _ (zGL fun T' H'=>H'=zLB r) (upd (T0 [.pt 0 1 0 0]) 4 (.ic 179 (.sl (ints r)))) [some (zC5 (.v (.slice none 0 0)))]) none 0 w.heap.size Z [some g] FP [] _ w ⟨Nat.le_refl _,by simp⟩ (by simp) ?_) ?_
 case hw =>
  refine HW.block (HW.seq (HW.run 60 (by kernel_rfl) ?_))
  simp +decide only[go_sem,nT,nA,nS,nM,nB,reduceIte,reduceCtorEq]
  refine HW.cond (t:=false) (by kernel_rfl) rfl (fun h=>by cases h) (fun _=>?_)
  refine HW.seq ?_
  refine HW.regionF 60 rfl (by kernel_rfl) rfl (zDO (K:=fun T' H'=>T'=upd (upd (upd (T0 [.pt 0 1 0 0]) 4 (.ic 179 (.sl (ints r)))) 6 (.v (.bool false))) 7 (.tu [.sl (ints r),.v (.bool true)])∧H'=[some (zC5 (.v (.slice none 0 0)))]) (by simp) (by simp) (zAF (zUp rfl (by kernel_rfl) rfl zTP ⟨rfl,rfl⟩))) ?_
  rintro T' H' ⟨rfl,rfl⟩
  simp +decide only[go_sem,nT,nA,nS,nM,nB,reduceIte,reduceCtorEq]
  refine HW.cond (t:=true) (by kernel_rfl) rfl (fun _=>?_) (fun h=>by cases h)
  refine HW.seq (HW.run 60 (by kernel_rfl) ?_)
  simp +decide only[go_sem,nT,nA,nS,nM,nB,reduceIte,reduceCtorEq]
  refine HW.regionM (I:=fun T H=>T 0=.pt 0 1 0 0∧T 10=.hd 1 0 0∧T 11=.sl (ints r)∧H=[some (zC5 (.v (.slice none 0 0))),some ⟨3,1,[]⟩]) (K:=fun T H=>T 0=.pt 0 1 0 0∧T 12=.hd 1 0 r.length∧H=[some (zC5 (.v (.slice none 0 0))),some ⟨3,1,ints r⟩]) 2 60 (by decide) (by kernel_rfl) ?_
  intro pre o rest hs
  simp only[zKt,zGi,Option.map_some,Option.some.injEq,Prod.mk.injEq] at hs
  obtain ⟨rfl,rfl,rfl⟩:=hs
  refine ⟨rfl,?_,?_,?_⟩
  ·simp +decide only[go_sem,nT,nA,nS,nM,nB,reduceIte,reduceCtorEq]
   and_intros
   all_goals rfl
  ·rintro T H ⟨h0,h10,h11,rfl⟩
   refine zDO (by simp) (by simp) (zQp rfl Tryz.underlying22 Tryz.underlying179 (by kernel_rfl) ?_)
   unfold zG1
   simp +decide only[go_sem,nT,nA,nS,nM,nB,reduceIte,reduceCtorEq,h0,h10,h11]
   exact ⟨(of_eq_true zFO:zZ (ints r) 1),by omega,by omega⟩
  ·rintro T H ⟨h0,h12,rfl⟩
   simp +decide only[go_sem,nT,nA,nS,nM,nB,reduceIte,reduceCtorEq,h0,h12]
   exact rfl
 ·refine ⟨hi,by simp,fun i h13=>?_,rfl,by simp,by simp⟩
  have h0:=zGz (args:=[.pt 0 1 0 0]) (vals:=[.pointer (some p)]) (Z:=Z) (G:=[some g]) (w:=w) 13 ⟨_,_,[],[],rfl,rfl,hp,rfl,rfl⟩ i h13
  by_cases h4:i=4
  ·subst h4
   dsimp only
   rw[zXw]
   exact hv
  ·dsimp only
   rw[zUW h4]
   unfold upd
   rw[if_neg h4]
   exact h0
 ·rintro e a' w' ⟨T',H',Z',G',FP',ds',hq,hs',hG',hE'⟩
  cases e with
  | normal =>
   obtain rfl:H'=_:=hq
   refine ⟨rfl,ds',hs'.defers,hs'.dsn,fun d hd=>(hs'.dsat d hd).2.1,_,rfl,fun w2 ho ht hout hsz hk=>⟨rfl,Z',G',FP',?_,hG',?_⟩⟩
   ·refine hs'.inv.keep (by omega) fun b hb=>hk b fun hc=>?_
    obtain ⟨_,_,h3,h4⟩:=hs'.dsat b hc
    rcases hb with hb | ⟨id,hb⟩
    ·exact h3 hb
    ·exact h4 id hb
   ·refine ⟨ho.trans hE'.os,ht.trans hE'.tape,hout.trans hE'.output,by rw[hsz];exact hE'.size,fun b hb hf=>?_,hE'.zle,hE'.znew,hE'.fnew⟩
    rw[hk b (fun hc=>by have:=(hs'.dsat b hc).1;omega)]
    exact hE'.keep b hb hf
  | _=>exact hq.elim
end Go.Proofs.YtoknohandclcbaaGreat
namespace Go.Proofs.YtoknohandclcbaaGreat
open Go.Shelf
set_option maxRecDepth 100000
def zKO:Go.Shelf.Ren:=⟨fun | 7=>140 | 10=>168 | n=>n,fun | 23=>93 | 26=>3 | 3=>3 | 28=>174 | 0=>0 | 27=>173 | 33=>128 | 4=>4 | n=>n,fun | n=>n⟩
theorem z2X:Go.Proofs.SlLaysZI.n7 Tryz.prog zKO where
 mixed:=by kernel_rfl
 f7:=⟨"maps.Keys[map[int]int,int,int]",by decide,Tryz.func140.trans (congrArg some (by kernel_rfl))⟩
 f10:=⟨"maps.Keys[map[int]int,int,int]$1",by decide,Tryz.func168.trans (congrArg some (by kernel_rfl))⟩
 t0:=Tryz.underlying0
 a0:=Tryz.isAgg0
 z0:=Tryz.sizeOf0
 v0:=Tryz.zeroValue0
 t4:=Tryz.underlying4
 a4:=Tryz.isAgg4
 z4:=Tryz.sizeOf4
 v4:=Tryz.zeroValue4
 t23:=Tryz.underlying93
 a23:=Tryz.isAgg93
 z23:=Tryz.sizeOf93
 v23:=Tryz.zeroValue93
 t26:=Tryz.underlying3
 a26:=Tryz.isAgg3
 z26:=Tryz.sizeOf3
 v26:=Tryz.zeroValue3
 t27:=Tryz.underlying173
 a27:=Tryz.isAgg173
 z27:=Tryz.sizeOf173
 v27:=Tryz.zeroValue173
 t28:=Tryz.underlying174
 a28:=Tryz.isAgg174
 z28:=Tryz.sizeOf174
 v28:=Tryz.zeroValue174
 t33:=Tryz.underlying128
 a33:=Tryz.isAgg128
 z33:=Tryz.sizeOf128
 v33:=Tryz.zeroValue128
def zFm:Go.Shelf.Ren:=⟨fun | 6=>139 | 8=>167 | 9=>112 | 11=>197 | 13=>143 | 12=>142 | 23=>178 | 24=>179 | 14=>169 | 15=>170 | 16=>171 | 17=>172 | 18=>173 | 19=>174 | 20=>175 | 21=>176 | 22=>177 | 25=>198 | 26=>199 | 27=>200 | 28=>201 | 29=>202 | 30=>203 | 31=>208 | n=>n,fun | 26=>3 | 28=>174 | 24=>22 | 0=>0 | 3=>3 | 37=>178 | 48=>217 | 50=>219 | 4=>4 | 40=>210 | 39=>209 | 45=>140 | 5=>5 | 9=>9 | 51=>234 | 55=>238 | 57=>247 | 58=>248 | 33=>128 | n=>n,fun | n=>n⟩
theorem zYj:Go.Proofs.SlLaysZI.n6 Tryz.prog zFm where
 mixed:=by kernel_rfl
 f6:=⟨"slices.Sorted[int]",by decide,Tryz.func139.trans (congrArg some (by kernel_rfl))⟩
 f8:=⟨"slices.Collect[int]",by decide,Tryz.func167.trans (congrArg some (by kernel_rfl))⟩
 f11:=⟨"slices.AppendSeq[[]int,int]",by decide,Tryz.func197.trans (congrArg some (by kernel_rfl))⟩
 t0:=Tryz.underlying0
 a0:=Tryz.isAgg0
 z0:=Tryz.sizeOf0
 v0:=Tryz.zeroValue0
 t24:=Tryz.underlying22
 a24:=Tryz.isAgg22
 z24:=Tryz.sizeOf22
 v24:=Tryz.zeroValue22
 t26:=Tryz.underlying3
 a26:=Tryz.isAgg3
 z26:=Tryz.sizeOf3
 v26:=Tryz.zeroValue3
 t28:=Tryz.underlying174
 a28:=Tryz.isAgg174
 z28:=Tryz.sizeOf174
 v28:=Tryz.zeroValue174
 i26:=by kernel_rfl
def zRU:Go.Shelf.Ren:=⟨fun | 5=>112 | 8=>143 | 7=>142 | 19=>178 | 20=>179 | 10=>169 | 11=>170 | 12=>171 | 13=>172 | 14=>173 | 15=>174 | 16=>175 | 17=>176 | 18=>177 | 30=>198 | 31=>199 | 32=>200 | 33=>201 | 34=>202 | 35=>203 | 40=>208 | n=>n,fun | 23=>22 | 25=>3 | 3=>3 | 32=>178 | 22=>22 | 0=>0 | 44=>217 | 46=>219 | 4=>4 | 36=>210 | 35=>209 | 41=>140 | 5=>5 | 9=>9 | 53=>234 | 57=>238 | 63=>247 | 64=>248 | n=>n,fun | n=>n⟩
theorem zV1:Go.Proofs.SlLaysM.n5 Tryz.prog zRU where
 mixed:=by kernel_rfl
 f5:=⟨"slices.Sort[[]int,int]",by decide,Tryz.func112.trans (congrArg some (by kernel_rfl))⟩
 f7:=⟨"slices.pdqsortOrdered[int]",by decide,Tryz.func142.trans (congrArg some (by kernel_rfl))⟩
 f8:=Tryz.func143.trans (congrArg some (by kernel_rfl))
 f10:=⟨"slices.insertionSortOrdered[int]",by decide,Tryz.func169.trans (congrArg some (by kernel_rfl))⟩
 f11:=⟨"slices.heapSortOrdered[int]",by decide,Tryz.func170.trans (congrArg some (by kernel_rfl))⟩
 f12:=⟨"slices.breakPatternsOrdered[int]",by decide,Tryz.func171.trans (congrArg some (by kernel_rfl))⟩
 f13:=⟨"slices.choosePivotOrdered[int]",by decide,Tryz.func172.trans (congrArg some (by kernel_rfl))⟩
 f14:=⟨"slices.reverseRangeOrdered[int]",by decide,Tryz.func173.trans (congrArg some (by kernel_rfl))⟩
 f15:=⟨"slices.partialInsertionSortOrdered[int]",by decide,Tryz.func174.trans (congrArg some (by kernel_rfl))⟩
 f16:=⟨"cmp.Less[int]",by decide,Tryz.func175.trans (congrArg some (by kernel_rfl))⟩
 f17:=⟨"slices.partitionEqualOrdered[int]",by decide,Tryz.func176.trans (congrArg some (by kernel_rfl))⟩
 f18:=⟨"slices.partitionOrdered[int]",by decide,Tryz.func177.trans (congrArg some (by kernel_rfl))⟩
 f19:=Tryz.func178.trans (congrArg some (by kernel_rfl))
 f20:=Tryz.func179.trans (congrArg some (by kernel_rfl))
 f30:=⟨"slices.siftDownOrdered[int]",by decide,Tryz.func198.trans (congrArg some (by kernel_rfl))⟩
 f31:=Tryz.func199.trans (congrArg some (by kernel_rfl))
 f32:=Tryz.func200.trans (congrArg some (by kernel_rfl))
 f33:=⟨"slices.medianAdjacentOrdered[int]",by decide,Tryz.func201.trans (congrArg some (by kernel_rfl))⟩
 f34:=⟨"slices.medianOrdered[int]",by decide,Tryz.func202.trans (congrArg some (by kernel_rfl))⟩
 f35:=⟨"cmp.isNaN[int]",by decide,Tryz.func203.trans (congrArg some (by kernel_rfl))⟩
 f40:=⟨"slices.order2Ordered[int]",by decide,Tryz.func208.trans (congrArg some (by kernel_rfl))⟩
 t0:=Tryz.underlying0
 a0:=Tryz.isAgg0
 z0:=Tryz.sizeOf0
 v0:=Tryz.zeroValue0
 t3:=Tryz.underlying3
 a3:=Tryz.isAgg3
 z3:=Tryz.sizeOf3
 v3:=Tryz.zeroValue3
 t4:=Tryz.underlying4
 a4:=Tryz.isAgg4
 z4:=Tryz.sizeOf4
 v4:=Tryz.zeroValue4
 t5:=Tryz.underlying5
 a5:=Tryz.isAgg5
 z5:=Tryz.sizeOf5
 v5:=Tryz.zeroValue5
 t9:=Tryz.underlying9
 a9:=Tryz.isAgg9
 z9:=Tryz.sizeOf9
 v9:=Tryz.zeroValue9
 t22:=Tryz.underlying22
 a22:=Tryz.isAgg22
 z22:=Tryz.sizeOf22
 v22:=Tryz.zeroValue22
 t23:=Tryz.underlying22
 a23:=Tryz.isAgg22
 z23:=Tryz.sizeOf22
 v23:=Tryz.zeroValue22
 t25:=Tryz.underlying3
 a25:=Tryz.isAgg3
 z25:=Tryz.sizeOf3
 v25:=Tryz.zeroValue3
 t32:=Tryz.underlying178
 a32:=Tryz.isAgg178
 z32:=Tryz.sizeOf178
 v32:=Tryz.zeroValue178
 t35:=Tryz.underlying209
 a35:=Tryz.isAgg209
 z35:=Tryz.sizeOf209
 v35:=Tryz.zeroValue209
 t36:=Tryz.underlying210
 a36:=Tryz.isAgg210
 z36:=Tryz.sizeOf210
 v36:=Tryz.zeroValue210
 t41:=Tryz.underlying140
 a41:=Tryz.isAgg140
 z41:=Tryz.sizeOf140
 v41:=Tryz.zeroValue140
 t44:=Tryz.underlying217
 a44:=Tryz.isAgg217
 z44:=Tryz.sizeOf217
 v44:=Tryz.zeroValue217
 t46:=Tryz.underlying219
 a46:=Tryz.isAgg219
 z46:=Tryz.sizeOf219
 v46:=Tryz.zeroValue219
 t53:=Tryz.underlying234
 a53:=Tryz.isAgg234
 z53:=Tryz.sizeOf234
 v53:=Tryz.zeroValue234
 t57:=Tryz.underlying238
 a57:=Tryz.isAgg238
 z57:=Tryz.sizeOf238
 v57:=Tryz.zeroValue238
 t63:=Tryz.underlying247
 a63:=Tryz.isAgg247
 z63:=Tryz.sizeOf247
 v63:=Tryz.zeroValue247
 t64:=Tryz.underlying248
 a64:=Tryz.isAgg248
 z64:=Tryz.sizeOf248
 v64:=Tryz.zeroValue248
def growL_ren:Go.Shelf.Ren:=⟨fun | 4=>141 | n=>n,fun | 22=>22 | 25=>3 | 3=>3 | 4=>4 | 9=>9 | 20=>20 | 0=>0 | n=>n,fun | n=>n⟩
theorem z2p:Go.Proofs.Lays8.n4 Tryz.prog growL_ren where
 mixed:=by kernel_rfl
 f4:=⟨"slices.Grow[[]int,int]",by decide,Tryz.func141.trans (congrArg some (by kernel_rfl))⟩
 t0:=Tryz.underlying0
 a0:=Tryz.isAgg0
 z0:=Tryz.sizeOf0
 v0:=Tryz.zeroValue0
 t3:=Tryz.underlying3
 a3:=Tryz.isAgg3
 z3:=Tryz.sizeOf3
 v3:=Tryz.zeroValue3
 t4:=Tryz.underlying4
 a4:=Tryz.isAgg4
 z4:=Tryz.sizeOf4
 v4:=Tryz.zeroValue4
 t9:=Tryz.underlying9
 a9:=Tryz.isAgg9
 z9:=Tryz.sizeOf9
 v9:=Tryz.zeroValue9
 t20:=Tryz.underlying20
 a20:=Tryz.isAgg20
 z20:=Tryz.sizeOf20
 v20:=Tryz.zeroValue20
 t22:=Tryz.underlying22
 a22:=Tryz.isAgg22
 z22:=Tryz.sizeOf22
 v22:=Tryz.zeroValue22
end Go.Proofs.YtoknohandclcbaaGreat
namespace Go.Proofs.YtoknohandclcbaaGreat
open Go.RowKit
set_option maxRecDepth 8000
def zDT (g:List Int):List (Int×Int):=g.foldl (fun kv n=>setM kv n (getM kv n+1)) []
theorem zP7 (g:List Int) (n:Int):zDT (g++[n])=setM (zDT g) n (getM (zDT g) n+1):=by simp[zDT,List.foldl_append]
theorem zTJ (kv:List (Int×Int)) (k v j:Int):getM (setM kv k v) j=if j=k then v else getM kv j:=by
 induction kv with
 | nil =>
  simp only[setM,getM,List.find?_cons,List.find?_nil]
  by_cases h:j=k <;> simp[h]
 | cons e r ih =>
  unfold setM
  by_cases h:k=e.1
  ·rw[if_pos h]
   simp only[getM,List.find?_cons]
   by_cases h2:j=k
   ·simp[h2]
   ·simp[h2,h▸h2]
  ·rw[if_neg h]
   simp only[getM,List.find?_cons] at ih⊢
   by_cases h2:j=e.1
   ·have:j≠k:=fun e'=>h (by rw[←e',h2])
    simp[h2,h2▸this]
   ·simp only[h2,decide_false] at ih⊢
    exact ih
theorem zKZ (n:Int):∀(g:List Int) (kv:List (Int×Int)),getM (g.foldl (fun kv n=>setM kv n (getM kv n+1)) kv) n=getM kv n+((g.filter fun x=>decide (x=n)).length:Int)
 | [],kv=>by simp
 | x::g,kv=>by
  rw[List.foldl_cons,zKZ n g,zTJ]
  by_cases h:n=x
  ·subst h;simp;omega
  ·simp[h,Ne.symm h]
theorem zHm (g:List Int) (n:Int):getM (zDT g) n=((g.filter fun x=>decide (x=n)).length:Int):=by
 unfold zDT
 rw[zKZ]
 simp[getM]
theorem zHM (g:List Int) (n:Int):(0<getM (zDT g) n)=(n∈g):=by
 rw[zHm]
 simp only[eq_iff_iff]
 rw[show (0:Int)<((g.filter fun x=>decide (x=n)).length:Int)↔0<(g.filter fun x=>decide (x=n)).length by omega,List.length_pos_iff_exists_mem]
 simp
theorem zIk (g:List Int) (n:Int):0≤getM (zDT g) n∧getM (zDT g) n≤g.length:=by
 rw[zHm]
 have:=List.length_filter_le (fun x=>decide (x=n)) g
 omega
abbrev yAT (kv:List (Int×Int)):HV:=.om (.map (esG kI kv) kv.length) []
theorem zUP (g:List Int) (hg:g.length≤100000):HFn Tryz.prog 59 [.sl (ints g)] (yAT (zDT g)):=by
 refine zA (fn:=Tryz.f59) 19 [2] (by kernel_rfl) rfl (by kernel_rfl) (HW.run 400 (by kernel_rfl) ?_)
 simp +decide only[go_sem,nT,nA,nS,nM,nB,reduceIte,reduceCtorEq]
 refine HW.loopG (fun k T H=>∃i:Nat,k=g.length-i∧i≤g.length∧T 3=.mp 0∧T 7=.sl (ints g)∧T 8=.v (.int .i64 g.length)∧T 9=.v (.int .i64 i)∧H=[some (mapI (zDT (g.take i)))]) g.length ⟨_,_,Ghost.refl,0,rfl,by omega,rfl,rfl,rfl,rfl,rfl⟩ ?_
 rintro k T H ⟨i,rfl,hi,h3,h7,h8,h9,rfl⟩
 refine HW.run 200 (by kernel_rfl) ?_
 by_cases hlt:i<g.length
 ·have hlt' : ((i:Int)<(g.length:Int))=True:=by rw[zO];simp[hlt]
  have hx:g[i]?=some g[i]:=List.getElem?_eq_getElem hlt
  have htk:g.take (i+1)=g.take i++[g[i]]:=by rw[List.take_add_one,hx];rfl
  generalize g[i]=x at hx htk
  have hle:=zIk (g.take i) x
  rw[List.length_take] at hle
  have hw:IntKind.i64.wrap (getM (zDT (g.take i)) x+1)=getM (zDT (g.take i)) x+1:=w64 (by omega) (by omega)
  simp +decide only[go_sem,nT,nA,nS,nM,nB,reduceIte,reduceCtorEq,h3,h7,h8,h9,hlt',hx,hw]
  refine ⟨_,_,Ghost.refl,g.length-(i+1),by omega,i+1,rfl,by omega,?_,?_,?_,?_,?_⟩
  iterate 3 simp +decide only[go_sem,nB,reduceIte,h3,h7,h8]
  ·simp +decide only[go_sem,nB,reduceIte];rw[w64 (by omega) (by omega)];rfl
  ·rw[htk,zP7]
 ·have hlt' : ((i:Int)<(g.length:Int))=False:=by rw[zO];simp[hlt]
  have htk:g.take i=g:=List.take_of_length_le (by omega)
  simp +decide only[go_sem,nT,nA,nS,nM,nB,reduceIte,reduceCtorEq,h3,h7,h8,h9,hlt',htk]
  exact ⟨rfl,rfl⟩
end Go.Proofs.YtoknohandclcbaaGreat
namespace Go.Proofs.YtoknohandclcbaaGreat
open Go.RowKit
section
variable {α:Type} [DecidableEq α]
theorem zPk (kv:List (α×Int)) (k:α) (v:Int) (j:α):getM (setM kv k v) j=if j=k then v else getM kv j:=by
 induction kv with
 | nil =>
  simp only[setM,getM,List.find?_cons,List.find?_nil]
  by_cases h:j=k <;> simp[h]
 | cons e r ih =>
  unfold setM
  by_cases h:k=e.1
  ·rw[if_pos h]
   simp only[getM,List.find?_cons]
   by_cases h2:j=k
   ·simp[h2]
   ·simp[h2,h▸h2]
  ·rw[if_neg h]
   simp only[getM,List.find?_cons] at ih⊢
   by_cases h2:j=e.1
   ·have:j≠k:=fun e'=>h (by rw[←e',h2])
    simp[h2,h2▸this]
   ·simp only[h2,decide_false] at ih⊢
    exact ih
theorem zK0 (kv:List (α×Int)) (k j:α):getM (entM kv k) j=getM kv j:=by
 unfold entM
 split
 ·rfl
 ·rename_i h
  unfold getM
  rw[List.find?_append]
  cases hf:kv.find? (fun e=>decide (j=e.1)) with
  | some e=>rfl
  | none =>
   simp only[List.find?_cons,List.find?_nil,Option.none_or]
   by_cases hj:j=k <;> simp[hj]
variable {kf:α→Value} (hk:∀x y,keq (kf x) (kf y)=some (decide (x=y)))
theorem zK5 (k:α):∀(kv:List (α×Int)) (i:Nat),zC9 k kv i=if inM kv k=true then some (i+idxM kv k,.int .i64 (getM kv k)) else none
 | [],i=>by simp[zC9,inM]
 | e::r,i=>by
  have ih:=zK5 k r (i+1)
  by_cases h:k=e.1
  ·have h1:inM (e::r) k=true:=by simp[inM,h]
   have h2:idxM (e::r) k=0:=by simp[idxM,List.findIdx_cons,h]
   have h3:getM (e::r) k=e.2:=by simp[getM,h]
   rw[h1,h2,h3]
   simp[zC9,h]
  ·have h1:inM (e::r) k=inM r k:=by simp[inM,h]
   have h2:idxM (e::r) k=idxM r k+1:=by simp[idxM,List.findIdx_cons,h]
   have h3:getM (e::r) k=getM r k:=by simp[getM,List.find?_cons,h]
   rw[h1,h2,h3]
   simp only[zC9,if_neg h]
   rw[ih,show i+1+idxM r k=i+(idxM r k+1) by omega]
theorem zMW {kv:List (α×Int)} {k:α} (h:inM kv k=true):idxM kv k<kv.length:=by
 unfold idxM inM at *
 exact List.findIdx_lt_length_of_exists (by simpa [List.any_eq_true] using h)
theorem zMV {kv:List (α×Int)} {k:α} (h:inM kv k=false):idxM kv k=kv.length:=by
 unfold idxM inM at *
 refine List.findIdx_eq_length.2 fun x hx=>?_
 have:=List.any_eq_false.1 h x hx
 simpa using this
theorem zOI:∀(kv:List (α×Int)) (n i:Nat),i<kv.length→((esL kf n kv)[i]?).map (·.born)=some (n+i)
 | [],n,i,h=>by simp at h
 | e::r,n,0,h=>by simp[esL]
 | e::r,n,i+1,h=>by
  simp only[esL,List.getElem?_cons_succ]
  rw[zOI r (n+1) i (by simpa using h)]
  congr 1;omega
theorem zDZ (k:α):∀(kv:List (α×Int)) (n i:Nat),(kv[i]?).map (·.1)=some k→(esL kf n kv).modify i (fun e=>{ e with key:=kf k })=esL kf n kv
 | [],n,i,h=>by simp at h
 | e::r,n,0,h=>by
  simp only[List.getElem?_cons_zero,Option.map_some,Option.some.injEq] at h
  simp[esL,h]
 | e::r,n,i+1,h=>by
  simp only[List.getElem?_cons_succ] at h
  simp only[esL,List.modify_succ_cons]
  rw[zDZ k r (n+1) i h]
theorem zWj {kv:List (α×Int)} {k:α} (h:inM kv k=true):(kv[idxM kv k]?).map (·.1)=some k:=by
 have hl:=zMW h
 have:=List.findIdx_getElem (w:=(hl:kv.findIdx (fun e=>decide (k=e.1))<kv.length))
 rw[List.getElem?_eq_getElem hl]
 simp only[decide_eq_true_eq] at this
 simp only[Option.map_some,Option.some.injEq]
 exact this.symm
include hk
theorem zOK (k:α) (kv:List (α×Int)):entO (esG kf kv) kv.length (kf k) (.int .i64 0)=some (.int .i64 (getM kv k),idxM kv k,mapG kf (entM kv k)):=by
 unfold entO
 have e:(esG kf kv).toList=esL kf 0 kv:=by unfold esG;rw[List.toList_toArray]
 rw[e,zER hk,zK5]
 cases h:inM kv k with
 | true =>
  simp only[if_true,Option.map_some,entV,entE,Nat.zero_add,entM,h]
  have h1:((esG kf kv)[idxM kv k]?).map (·.born)=some (idxM kv k):=by
   rw[←Array.getElem?_toList,e,zOI kv 0 _ (zMW h),Nat.zero_add]
  rw[h1]
  have h2:(esG kf kv).modify (idxM kv k) (fun e=>{ e with key:=kf k })=esG kf kv:=by
   apply Array.ext'
   rw[Array.toList_modify,e,zDZ k kv 0 _ (zWj h)]
  rw[h2];rfl
 | false =>
  have hg:getM kv k=0:=by
   unfold getM
   rw[List.find?_eq_none.2 fun x hx=>by
    have:=List.any_eq_false.1 h x hx
    simpa using this]
   rfl
  simp only[Bool.false_eq_true,if_false,Option.map_some,Option.map_none,entV,entE,entM,h,hg,zMV h]
  have:(esG kf kv).push ⟨kf k,.int .i64 0,kv.length⟩=esG kf (kv++[(k,0)]):=by
   apply Array.ext'
   simp[esG,zFB,esL]
  rw[this]
  unfold mapG
  simp
omit hk
theorem zOH:∀(kv:List (α×Int)) (n i:Nat),i<kv.length→(esL kf n kv).findIdx? (fun e=>((e.born:Int) == ((n+i:Nat):Int)))=some i
 | [],n,i,h=>by simp at h
 | e::r,n,0,h=>by simp[esL,List.findIdx?_cons]
 | e::r,n,i+1,h=>by
  simp only[esL,List.findIdx?_cons]
  have:((n:Int) == ((n+(i+1):Nat):Int))=false:=by
   rw[beq_eq_false_iff_ne];omega
  rw[this]
  have ih:=zOH r (n+1) i (by simpa using h)
  rw[show n+1+i=n+(i+1) by omega] at ih
  simp only[Bool.false_eq_true,if_false]
  rw[ih];rfl
theorem zKr (k:α) (v:Int):∀(kv:List (α×Int)) (n:Nat),inM kv k=true→(esL kf n kv).modify (idxM kv k) (fun e=>{ e with val:=.int .i64 v })=esL kf n (setM kv k v)
 | [],n,h=>by simp[inM] at h
 | e::r,n,h=>by
  unfold setM
  by_cases he:k=e.1
  ·have:idxM (e::r) k=0:=by unfold idxM;simp[List.findIdx_cons,he]
   rw[this,if_pos he]
   simp[esL,he]
  ·have:idxM (e::r) k=idxM r k+1:=by unfold idxM;simp[List.findIdx_cons,he]
   rw[this,if_neg he]
   simp only[esL,List.modify_succ_cons]
   rw[zKr k v r (n+1) (by simpa [inM,he] using h)]
theorem zN5 {k:α} {v:Int}:∀{kv:List (α×Int)},inM kv k=true→(setM kv k v).length=kv.length
 | [],h=>by simp[inM] at h
 | e::r,h=>by
  unfold setM
  by_cases he:k=e.1
  ·rw[if_pos he];simp
  ·rw[if_neg he]
   simp only[List.length_cons]
   rw[zN5 (by simpa [inM,he] using h)]
theorem zWi (kv:List (α×Int)) (k:α):inM (entM kv k) k=true:=by
 unfold entM
 split
 ·assumption
 ·simp[inM]
theorem zSq (kv:List (α×Int)) (k:α):idxM (entM kv k) k=idxM kv k:=by
 unfold entM
 split
 ·rfl
 ·rename_i h
  have h:inM kv k=false:=by simpa using h
  rw[zMV h]
  unfold idxM
  rw[List.findIdx_append]
  have h1:kv.findIdx (fun e=>decide (k=e.1))=kv.length:=zMV h
  rw[h1,if_neg (by omega)]
  simp
theorem zR2 (kv:List (α×Int)) (k:α) (v:Int):setM (entM kv k) k v=setM kv k v:=by
 unfold entM
 split
 ·rfl
 ·rename_i h
  have h:inM kv k=false:=by simpa using h
  induction kv with
  | nil=>simp[setM]
  | cons e r ih =>
   simp only[inM,List.any_cons,Bool.or_eq_false_iff,decide_eq_false_iff_not] at h
   simp only[List.cons_append,setM,if_neg h.1]
   rw[ih (by unfold inM;rw[h.2];simp) h.2]
theorem zN0 (k:α) (v:Int) (kv:List (α×Int)):stoO (esG kf (entM kv k)) (entM kv k).length ((idxM kv k:Nat):Int) (.int .i64 v)=some (mapG kf (setM kv k v)):=by
 unfold stoO
 rw[←zSq kv k,←zR2 kv k]
 have hin:=zWi kv k
 generalize entM kv k=m at hin
 have e:(esG kf m).toList=esL kf 0 m:=by unfold esG;rw[List.toList_toArray]
 have h1:=zOH (kf:=kf) m 0 (idxM m k) (zMW hin)
 rw[Nat.zero_add] at h1
 have h3:(esG kf m).findIdx? (fun e=>((e.born:Int) == ((idxM m k:Nat):Int)))=some (idxM m k):=by
  rw[←h1,←e]
  obtain ⟨l⟩:=esG kf m
  simp
 rw[h3]
 simp only[Option.map_some,Option.some.injEq]
 unfold mapG
 rw[zN5 hin]
 have h2:(esG kf m).modify (idxM m k) (fun e=>{ e with val:=.int .i64 v })=esG kf (setM m k v):=by
  apply Array.ext'
  rw[Array.toList_modify,e,zKr k v m 0 hin];simp[esG]
 rw[h2]
end
theorem z4E {kv:List ((Int×Int)×Int)} {a b:Int}:entO (esG kP kv) kv.length (.agg #[.int .i64 a,.int .i64 b]) (.int .i64 0)=some (.int .i64 (getM kv (a,b)),idxM kv (a,b),mapP (entM kv (a,b))):=zOK (kf:=kP) (fun _ _=>zIg) (a,b) kv
theorem z4F {kv:List (Int×Int)} {a:Int}:entO (esG kI kv) kv.length (.int .i64 a) (.int .i64 0)=some (.int .i64 (getM kv a),idxM kv a,mapI (entM kv a)):=zOK (kf:=kI) (fun _ _=>zIf) a kv
theorem z1x {kv:List ((Int×Int)×Int)} {k:Int×Int} {v:Int}:stoO (esG kP (entM kv k)) (entM kv k).length ((idxM kv k:Nat):Int) (.int .i64 v)=some (mapP (setM kv k v)):=zN0 k v kv
theorem z1y {kv:List (Int×Int)} {k:Int} {v:Int}:stoO (esG kI (entM kv k)) (entM kv k).length ((idxM kv k:Nat):Int) (.int .i64 v)=some (mapI (setM kv k v)):=zN0 k v kv
theorem zTK {kv:List ((Int×Int)×Int)} {k j:Int×Int}:getM (entM kv k) j=getM kv j:=zK0 kv k j
theorem zTL {kv:List (Int×Int)} {k j:Int}:getM (entM kv k) j=getM kv j:=zK0 kv k j
theorem zW5 {kv:List (Int×Int)} {m:Nat}:nmR m (mapI kv).rows=true:=rfl
theorem zW4 {kv:List ((Int×Int)×Int)} {m:Nat}:nmR m (mapP kv).rows=true:=rfl
attribute [go_sem] zW5 zW4 z4E z4F z1x z1y zTK zTL
end Go.Proofs.YtoknohandclcbaaGreat
namespace Go.Proofs.YtoknohandclcbaaGreat
open Go.RowKit
set_option maxRecDepth 8000
end Go.Proofs.YtoknohandclcbaaGreat
namespace Go.Proofs.YtoknohandclcbaaGreat
open Go.RowKit
open Go.WideElems (Fit rd rg rd_mk rg_of)
set_option maxRecDepth 8000
theorem Ghost.hole {N L:Nat} {T:Nat→HV} {H:Heap} (e:TypeId) (sz:Nat):Ghost N L T H T (H++[some ⟨e,sz,[]⟩]):=fun B Z G FP ds a w hL hs=>by
 have hinv:=hs.inv.new (w':=w) (o:=⟨e,sz,[]⟩) (g:=⟨none,e,sz,0,0⟩) (fp:=[]) (Nat.le_refl _) (fun _ _=>rfl) ⟨rfl,rfl,rfl,by simp,.inl ⟨rfl,rfl,rfl⟩⟩ (by simp) (by simp)
 have hE:Evo Z FP w Z (fun j=>if j=H.length then [] else FP j) w:=zGd (hs.inv.nofp _ (by simp)) rfl rfl rfl (Nat.le_refl _) (fun _ _=>rfl) (by simp)
 exact ⟨Z,_,_,hs.evo hinv (GLe.more _) hE,GLt.of hL (GLe.more _),hE⟩
abbrev zKK (id:Nat):HObj:=⟨93,1,[[.mp id]]⟩
theorem zW7 {H:Heap} {id j:Nat} {kv:List (Int×Int)} (hid:H[id]?=some (some (mapI kv))) (hj:H[j]?=some (some ⟨93,1,[]⟩)) :
  HCalls Tryz.prog 140 H [.mp id] (fun r H'=>r=.fn 168 [.pt j 1 0 0]∧H'=H.set j (some (zKK id))):=by
 refine ⟨fun vals w=>enters_of (P:=Tryz.prog) Tryz.func140 (by kernel_rfl) rfl vals w,fun Z G FP w vals hi ha=>?_⟩
 simp only[RL] at ha
 obtain ⟨y,ys,f1,f2,rfl,e1,hv,rfl,rfl⟩:=ha
 obtain ⟨rfl,-⟩:f1=[]∧True:=by simpa using e1
 obtain ⟨r,rfl,hg,hfp,hb⟩:=zHg hi hid hv
 have hne:id≠j:=fun e=>by rw[e,hj] at hid;simp[mapI,mapG,zAn] at hid
 obtain ⟨gj,hgj,hobj⟩:=hi.live j _ hj
 have hn0:gj.n=0:=hobj.n
 have cK:Calls Tryz.prog 140 #[.map (some r)] w fun e w'=>e=.returned (.func (.func 168) #[] #[.pointer (some ⟨w.heap.size,0,none⟩)])∧w'=w.alloc (.cells #[.map (some r)] 93) :=
  callsIn_wide.1 (AnyZI.keys_in z2X Fence.wide 5 trivial rfl (some r) w)
 refine Calls.mono cK ?_
 rintro e w' ⟨rfl,rfl⟩
 have hnew:=heap_alloc_new w (.cells #[.map (some r)] 93)
 have hold:∀b,b<w.heap.size→(w.alloc (.cells #[.map (some r)] 93)).heap[b]?=w.heap[b]?:=fun b hb=>Below.heap_alloc w _ b hb
 have hlt:j<G.length:=hi.lt hj
 have hset:∀k,k≠j→(G.set j (some (some ⟨some w.heap.size,93,1,1,1⟩:Option OG)).join)[k]?=G[k]?:=fun k hk=>by simp[List.getElem?_set,Ne.symm hk]
 have hmp:RV Z (G.set j (some ⟨some w.heap.size,93,1,1,1⟩)) (w.alloc (.cells #[.map (some r)] 93)) (.mp id) (.map (some r)) []:=by
  simp only[RV]
  refine ⟨trivial,rfl,by rw[List.length_set];exact hi.lt hid,fun g hg'=>?_⟩
  rw[List.getElem?_set_ne (Ne.symm hne),hg] at hg'
  cases hg'
  exact ⟨Nat.le_refl _,fun _ _=>rfl⟩
 have hinv:=hi.turn (w':=w.alloc (.cells #[.map (some r)] 93)) (o':=zKK id) (g':=⟨some w.heap.size,93,1,1,1⟩) (fp':=[w.heap.size]) hj hgj (.inr (by rw[hn0];exact Nat.one_pos)) (by simp) (fun b hb _=>hold b hb)
  ⟨rfl,rfl,rfl,by simp,.inr (.inl ⟨w.heap.size,#[.map (some r)],[],rfl,rfl,hnew,by simp,by simp,by simp[maxLen],by
   simp only[RR,RC]
   refine ⟨[],[],rfl,⟨_,[],[],rfl,?_,rfl,hmp,rfl⟩,rfl⟩
   unfold World.cell?;rw[hnew];rfl⟩)⟩ (by simp) (fun b hb=>by
    obtain rfl:=List.mem_singleton.1 hb
    refine ⟨fun hz=>?_,by simp,fun k _ hc=>?_⟩
    ·have:=hi.zlt _ hz;omega
    ·have:=hi.flt k _ hc;omega)
 refine ⟨_,_,_,_,_,_,[],rfl,⟨rfl,rfl⟩,by simp,hinv,?_,by simp,by simp,by simp,GLe.set hgj (.inr (by rw[hn0];exact Nat.one_pos)),zCD rfl rfl rfl (by simp) (fun b hb _=>hold b hb) (fun b hb=>by
  obtain rfl:=List.mem_singleton.1 hb
  exact .inl (Nat.le_refl _))⟩
 simp only[RV]
 refine ⟨#[.pointer (some ⟨w.heap.size,0,none⟩)],(zK2 (by decide) _).symm,?_⟩
 simp only[RL,RV]
 refine ⟨_,_,[],[],rfl,rfl,⟨rfl,rfl,by rw[List.length_set];exact hlt,fun g hg'=>?_⟩,rfl,rfl⟩
 rw[List.getElem?_set_self hlt] at hg'
 cases hg'
 exact ⟨Nat.le_refl _,fun _=>⟨_,rfl,by simp⟩⟩
theorem zLT {Z:Nat→Prop} {w:World} {b:Nat}:∀(xs:List Int) (k:Nat),(∀(i:Nat) x,xs[i]?=some x→w.cell? ⟨b,k+i,none⟩=some (.int .i64 x))→RR Z [] w (ints xs) b k []
 | [],k,_=>by simp[ints,RR]
 | x::xs,k,h=>by
  show RR Z [] w ([.v (.int .i64 x)]::ints xs) b k []
  simp only[RR,RC,RV]
  refine ⟨[],[],rfl,⟨_,[],[],rfl,by have:=h 0 x rfl;simpa using this,rfl,⟨rfl,rfl⟩,rfl⟩,?_⟩
  refine zLT xs (k+1) fun i y hy=>?_
  rw[show k+1+i=k+(i+1) by omega]
  exact h (i+1) y (by simpa using hy)
def zL7:Value→Option (DataW Unit×List MemPlace):=fun _=>some (.nil,[])
theorem zMq {kv:List (Int×Int)} {x:MapEntry}:∀{n:Nat},x∈esL kI n kv→∃e∈kv,x.key=.int .i64 e.1∧n≤x.born∧x.born<n+kv.length:=by
 induction kv with
 | nil=>intro n h;simp[esL] at h
 | cons e r ih =>
  intro n h
  simp only[esL,List.mem_cons] at h
  rcases h with rfl | h
  ·exact ⟨e,by simp,rfl,Nat.le_refl _,by simp⟩
  ·obtain ⟨e',h1,h2,h3,h4⟩:=ih h
   exact ⟨e',by simp[h1],h2,by omega,by simp only[List.length_cons];omega⟩
theorem zMp {kv:List (Int×Int)} (hnd:(kv.map (·.1)).Nodup):∀n,((esL kI n kv).map (·.born)).Nodup∧(esL kI n kv).Pairwise (fun x y=>x.key≠y.key):=by
 induction kv with
 | nil=>intro n;simp[esL]
 | cons e r ih =>
  intro n
  simp only[List.map_cons,List.nodup_cons] at hnd
  obtain ⟨h1,h2⟩:=ih hnd.2 (n+1)
  simp only[esL,List.map_cons,List.nodup_cons,List.pairwise_cons]
  refine ⟨⟨fun hm=>?_,h1⟩,fun y hy hk=>?_,h2⟩
  ·obtain ⟨y,hy,he⟩:=List.mem_map.1 hm
   obtain ⟨_,_,_,h3,_⟩:=zMq hy
   omega
  ·obtain ⟨e',h3,h4,_,_⟩:=zMq hy
   rw[h4] at hk
   simp at hk
   exact hnd.1 (hk▸List.mem_map.2 ⟨e',h3,rfl⟩)
theorem zSd {kv:List (Int×Int)} (hr:∀e∈kv,-1000000≤e.1∧e.1≤1000000):∀n,(esL kI n kv).map (rg (H:=Unit) Tryz.prog 3 zL7)=kv.map (fun e=>(Lit.int .i64 e.1,DataW.nil))∧∀x∈esL kI n kv,∃y,rd (H:=Unit) Tryz.prog 3 zL7 x=some y:=by
 induction kv with
 | nil=>intro n;simp[esL]
 | cons e r ih =>
  intro n
  obtain ⟨h1,h2⟩:=ih (fun e' h=>hr e' (by simp[h])) (n+1)
  have hw:(Lit.int .i64 e.1).wf=true:=by
   have:=hr e (by simp)
   have h1:IntKind.i64.min = -9223372036854775808:=by decide
   have h2:IntKind.i64.max=9223372036854775807:=by decide
   simp only[Lit.wf,h1,h2,Bool.and_eq_true,decide_eq_true_eq]
   omega
  have hk:keyOf Tryz.prog 3 (.int .i64 e.1)=some (.int .i64 e.1):=Go.Maps.keyOf_int_mk Tryz.underlying3 hw
  have hd:rd (H:=Unit) Tryz.prog 3 zL7 ⟨.int .i64 e.1,.int .i64 e.2,n⟩=some (.int .i64 e.1,.nil):=rd_mk (yv:=(.nil,[])) hk rfl
  refine ⟨?_,fun x hx=>?_⟩
  ·simp only[esL,List.map_cons,h1]
   rw[rg_of hd]
  ·simp only[esL,List.mem_cons] at hx
   rcases hx with rfl | hx
   ·exact ⟨_,hd⟩
   ·exact h2 x hx
theorem z1z (m:Nat):AnyZI.SortsIn Tryz.prog zFm Fence.wide m :=
  ⟨fun blk off cap ss W hH hblk hsz=>callsIn_wide.2 (AnyM.slices_Sort_int zV1 blk off cap ss W hH hblk hsz),
   fun p cap W=>callsIn_wide.2 (AnyM.slices_Sort_int_none zV1 p cap W)⟩
def zEa (kv:List (Int×Int)):List Int:=(kv.map (·.1)).mergeSort fun x y=>decide (x≤y)
set_option maxHeartbeats 1000000 in
theorem zJd {H:Heap} {id j:Nat} {kv:List (Int×Int)} (hid:H[id]?=some (some (mapI kv))) (hj:H[j]?=some (some (zKK id))) (hnd:(kv.map (·.1)).Nodup) (hr:∀e∈kv,-1000000≤e.1∧e.1≤1000000) (hlen:kv.length≤1000000) :
  HCalls Tryz.prog 139 H [.fn 168 [.pt j 1 0 0]] (fun r H'=>r=zB1 (zEa kv)∧H'=H):=by
 refine ⟨fun vals w=>enters_of (P:=Tryz.prog) Tryz.func139 (by kernel_rfl) rfl vals w,fun Z G FP w vals hi ha=>?_⟩
 simp only[RL] at ha
 obtain ⟨y,ys,f1,f2,rfl,e1,hv,rfl,rfl⟩:=ha
 obtain ⟨rfl,-⟩:f1=[]∧True:=by simpa using e1
 rw[RV] at hv
 obtain ⟨zs,rfl,hv⟩:=hv
 rw[zK2 (by decide)]
 obtain ⟨zs⟩:=zs
 simp only[RL] at hv
 obtain ⟨q,ys,f1,f2,rfl,e2,hq,rfl,rfl⟩:=hv
 obtain ⟨rfl,-⟩:f1=[]∧True:=by simpa using e2
 obtain ⟨g,b,cells,f,hg,hob,hgb,hfp,hb,hcs,hc1,hc2,hrr,rfl,_⟩:=zPR hi hj rfl rfl hq
 simp only[RR,RC] at hrr
 obtain ⟨_,_,_,⟨mv,_,_,_,hcell,_,hmv,_⟩,_⟩:=hrr
 have hmv' : RV Z G w (.mp id) mv []:=by
  simp only[RV] at hmv⊢
  exact ⟨trivial,hmv.2⟩
 obtain ⟨r,rfl,_,_,hrb⟩:=zHg hi hid hmv'
 have hbl:b<w.heap.size:=(Array.getElem?_eq_some_iff.1 hb).1
 obtain ⟨h1,h2⟩:=zSd hr 0
 have htl:(esG kI kv).toList=esL kI 0 kv:=by unfold esG;rw[List.toList_toArray]
 let D0:DataW Unit:=.map (((esG kI kv).toList.map (rg Tryz.prog 3 zL7)).foldr DataW.insert [])
 have hsz:Go.Maps.size D0=kv.length:=by
  show (((esG kI kv).toList.map (rg Tryz.prog 3 zL7)).foldr DataW.insert []).length=_
  rw[length_sorted,List.length_map,htl,zDL]
 have hown:w.ownsMap Tryz.prog 3 zL7 r kv.length D0:=by
  refine ⟨esG kI kv,kv.length,hrb,⟨?_,?_,fun x hx=>h2 x (htl▸hx)⟩,?_,rfl⟩
  ·rw[←Array.length_toList,htl,zDL];unfold maxLen;omega
  ·rw[Go.MapKept.stamped_iff,htl]
   obtain ⟨k1,k2⟩:=zMp hnd 0
   exact ⟨fun x hx=>by obtain ⟨_,_,_,_,k⟩:=zMq hx;omega,k1,k2⟩
  ·rw[←Array.length_toList,htl,zDL];exact Nat.le_refl _
 have hperm:(intKeys D0).Perm (kv.map (·.1)):=by
  show ((((esG kI kv).toList.map (rg Tryz.prog 3 zL7)).foldr DataW.insert []).map fun p=>Go.intOf p.1).Perm _
  refine ((Go.WideShapes.sorted_perm _).map _).trans ?_
  rw[htl,h1,List.map_map]
  exact List.Perm.refl _
 have hcb:w.cell? ⟨b,0,none⟩=some (.map (some r)):=by simpa using hcell
 have hseq:Go.SeqGives Fence.wide 2 Tryz.prog 168 #[.pointer (some ⟨b,0,none⟩)] encZ (fun ss=>ss.Perm (intKeys D0)) (Go.Maps.size D0) w :=
  AnyZI.keys_gives (ρ:=zKO) { z2X with } Fence.wide 2 trivial rfl (by omega) b r kv.length D0 w hbl hcb hown
 have cS:=AnyZI.sorted_in zYj Fence.wide 5 trivial trivial trivial trivial rfl (by omega) (z1z _) (enters_of Tryz.func112 (by kernel_rfl) rfl) 168 #[.pointer (some ⟨b,0,none⟩)] trivial (enters_of Tryz.func168 (by kernel_rfl) rfl) _ _ (by rw[hsz];unfold maxLen;omega) (by rw[hsz];omega) w hseq
 have cS' : Calls Tryz.prog 139 #[.func (.func 168) #[] #[.pointer (some ⟨b,0,none⟩)]] w _:=callsIn_wide.1 cS
 have hy:(Value.pointer (some ⟨b,0*(zKK id).sz+0,none⟩))=.pointer (some ⟨b,0,none⟩):=by simp
 rw[hy]
 refine Calls.mono cS' ?_
 rintro e w' ⟨v,ss,rfl,hS,hrow,hnil,hbw⟩
 have hsort:(ss.mergeSort fun x y=>decide (x≤y))=zEa kv:=mergeSort_of_perm_i (hS.trans hperm)
 rw[hsort] at hrow
 have hlen2:(zEa kv).length=ss.length:=by rw[←hsort,List.length_mergeSort]
 have hold:∀k,k<w.heap.size→w'.heap[k]?=w.heap[k]?:=hbw.block
 have hi' : HInv Z G FP H w':=hi.keep hbw.size fun k hk=>hold k (by
  rcases hk with hk | ⟨i,hk⟩
  ·exact hi.zlt k hk
  ·exact hi.flt i k hk)
 have hEv:Evo Z FP w Z FP w':=⟨hbw.os,hbw.tape,hbw.output,hbw.size,fun k hk _=>hold k hk,fun _ h=>h,fun _ h=>.inl h,fun i k hk=>.inr ⟨i,hk⟩⟩
 rcases hrow.2 with ⟨rfl,h0⟩ | ⟨gb,cap,cur,rfl,hbase,hgb',r1,r2,r3,r4⟩
 ·refine ⟨_,_,H,Z,G,FP,[],rfl,⟨rfl,rfl⟩,rfl,hi',?_,by simp,by simp,by simp,GLe.refl _,hEv⟩
  have:zEa kv=[]:=List.eq_nil_of_length_eq_zero (by omega)
  rw[this]
  simp only[RV]
  exact .inl ⟨rfl,trivial,trivial⟩
 ·have hgl:gb<w'.heap.size:=(Array.getElem?_eq_some_iff.1 hgb').1
  refine ⟨_,_,H,Z,G,FP,[gb],rfl,⟨rfl,rfl⟩,rfl,hi',?_,by simp,fun k hk=>?_,fun k hk=>?_,GLe.refl _,hEv⟩
  ·simp only[RV]
   refine .inr ⟨gb,cap,cur,[],by rw[zAD,hlen2],rfl,hgb',r3,by rw[zAD];omega,r2,fun r hr=>?_,?_⟩
   ·obtain ⟨_,_,rfl⟩:=List.mem_map.1 hr;rfl
   ·refine zLT _ 0 fun i x hx=>?_
    have hil:i<ss.length:=by have:=(List.getElem?_eq_some_iff.1 hx).1;omega
    have:(cur.toList.take (ss.length*1))[i]?=some (.int .i64 x):=by rw[r4,List.getElem?_map,hx];rfl
    rw[List.getElem?_take_of_lt (by omega)] at this
    unfold World.cell?
    rw[hgb',Nat.zero_add]
    simpa using this
  ·obtain rfl:=List.mem_singleton.1 hk
   exact ⟨fun hz=>by have:=hi.zlt _ hz;omega,hgl,fun i hc=>by have:=hi.flt i _ hc;omega⟩
  ·obtain rfl:=List.mem_singleton.1 hk
   exact .inl hbase
end Go.Proofs.YtoknohandclcbaaGreat
namespace Go.Proofs.YtoknohandclcbaaGreat
open Go.RowKit
set_option maxRecDepth 8000
theorem zO0 {Z:Nat→Prop} {G:List (Option OG)} {w:World}:∀(l:List Int) (ys:List Value),RL Z G w (ints l).flatten ys []→ys=l.map (Value.int .i64)
 | [],ys,h=>by
  have h:RL Z G w [] ys []:=h
  simp only[RL] at h
  rw[h.1];rfl
 | x::l,ys,h=>by
  have h:RL Z G w (.v (.int .i64 x)::(ints l).flatten) ys []:=h
  simp only[RL,RV] at h
  obtain ⟨y,ys',f1,f2,rfl,e,⟨rfl,rfl⟩,h⟩:=h
  have e2:f2=[]:=by simpa using e
  subst e2
  rw[zO0 l ys' h];rfl
def zCH (l:List Int):List Int:=l.mergeSort fun x y=>decide (x≤y)
theorem zBA {l:List Int}:(zCH l).length=l.length:=List.length_mergeSort _
theorem zOX {Z:Nat→Prop} {G:List (Option OG)} {w:World} {b:Nat}:∀(xs:List Int) (k:Nat),(∀(i:Nat) x,xs[i]?=some x→w.cell? ⟨b,k+i,none⟩=some (.int .i64 x))→RR Z G w (ints xs) b k []
 | [],k,_=>by simp[ints,RR]
 | x::xs,k,h=>by
  show RR Z G w ([.v (.int .i64 x)]::ints xs) b k []
  simp only[RR,RC,RV]
  refine ⟨[],[],rfl,⟨_,[],[],rfl,by have:=h 0 x rfl;simpa using this,rfl,⟨rfl,rfl⟩,rfl⟩,?_⟩
  refine zOX xs (k+1) fun i y hy=>?_
  rw[show k+1+i=k+(i+1) by omega]
  exact h (i+1) y (by simpa using hy)
set_option maxHeartbeats 1000000 in
theorem zOp {H:Heap} {id:Nat} {l:List Int} (hid:H[id]?=some (some ⟨3,1,ints l⟩)) (hlen:l.length≤1000000) :
  HCalls Tryz.prog 112 H [.hd id 0 l.length] (fun r H'=>r=.tu []∧H'=H.set id (some ⟨3,1,ints (zCH l)⟩)):=by
 refine ⟨fun vals w=>enters_of (P:=Tryz.prog) Tryz.func112 (by kernel_rfl) rfl vals w,fun Z G FP w vals hi ha=>?_⟩
 simp only[RL] at ha
 obtain ⟨y,ys,f1,f2,rfl,e1,hv,rfl,rfl⟩:=ha
 obtain ⟨rfl,-⟩:f1=[]∧True:=by simpa using e1
 obtain ⟨g,hg,hOB,hview⟩:=zEM hi hid (by simp[zAD]) hv
 have hn:g.n=l.length:=by rw[hOB.n];exact zAD
 unfold View at hview
 split at hview
 ·rename_i hb0
  obtain ⟨rfl,_,h0⟩:=hview
  have hl:l=[]:=List.eq_nil_of_length_eq_zero h0
  subst hl
  have cS:Calls Tryz.prog 112 #[.slice none 0 0] w _:=AnyM.slices_Sort_int_none zV1 none 0 w
  refine Calls.mono cS ?_
  rintro e w' ⟨rfl,rfl⟩
  have hs:H.set id (some ⟨3,1,ints (zCH [])⟩)=H:=by
   rw[show zCH []=[] by simp[zCH]];exact zAP hid
  exact ⟨_,.tu [],H,Z,G,FP,[],rfl,⟨rfl,hs.symm⟩,rfl,hi,by simp[RV,RL],by simp,by simp,by simp,GLe.refl _,Evo.refl _ _ _⟩
 ·rename_i b hb
  obtain ⟨ad,rfl,hA⟩:=hview
  obtain rfl:=hA (.inr rfl)
  obtain ⟨b',cells,f,e1,e2,e3,e4,e5,e6,e7⟩:=hOB.cells_ hb
  rw[hb] at e1;cases e1
  simp only[Nat.zero_mul,Nat.sub_zero]
  have holen:(ints l).flatten.length=l.length:=by rw[zAs _ hOB.len,zAD,Nat.mul_one]
  obtain ⟨k1,k2,k3⟩:=(zCX e3 (ints l) 0 f (Nat.zero_le _)).1 e7
  obtain rfl:f=[]:=zD2 _ _ _ zNr k2
  rw[holen,List.drop_zero] at k2
  have hcur:=zO0 l _ k2
  rw[holen] at k1
  have hbs:b<w.heap.size:=(Array.getElem?_eq_some_iff.1 e3).1
  have cS:Calls Tryz.prog 112 #[.slice (some ⟨b,0,none⟩) l.length g.cap] w _:=AnyM.slices_Sort_int zV1 b 0 g.cap l w (holds_of_blockI e3 hcur) hbs (by omega)
  refine Calls.mono cS ?_
  rintro e w' ⟨rfl,n,os,rfl⟩
  have hh:=heap_sortedI (n:=n) (os:=os) (zCH l).toArray e3
  have hgb:=grownBy_sortedI (w:=w) (g:=b) (n:=n) (os:=os) (zCH l).toArray
  have htk:=take_putCellsI cells (zCH l) (by rw[zBA];omega)
  show Post Z G FP H w _ _ (Go.Sort.grow (Go.Sort.putRow (Value.int .i64) (Go.Sort.ahead w n) b 0 (zCH l).toArray) os)
  generalize Go.Sort.grow (Go.Sort.putRow (Value.int .i64) (Go.Sort.ahead w n) b 0 (zCH l).toArray) os=w' at hh hgb
  have hcl:(Go.Sort.putCells (Value.int .i64) 0 (zCH l).toArray cells).size=cells.size:=by simp[Go.Sort.putCells]
  generalize Go.Sort.putCells (Value.int .i64) 0 (zCH l).toArray cells=cells' at hh htk hcl
  have hbFP:b∈FP id:=by rw[e2];simp
  have hkeep:∀z,z<w.heap.size→z∉FP id→w'.heap[z]?=w.heap[z]?:=fun z hz hzf=>hgb.block z hz (fun e=>hzf (by cases e;exact hbFP))
  have hsame:G.set id (some g)=G:=zAP hg
  have hOB' : OB Z (G.set id (some g)) w' ⟨3,1,ints (zCH l)⟩ g [b]:=by
   rw[hsame]
   refine ⟨hOB.e,hOB.sz,by show g.n=(ints (zCH l)).length;rw[hn,zAD,zBA],fun r hr=>?_,.inr (.inl ⟨b,cells',[],hb,rfl,hh,by rw[hcl];exact e4,by rw[zAD,zBA];have:=e5;rwa [zAD] at this,e6,?_⟩)⟩
   ·obtain ⟨_,_,rfl⟩:=List.mem_map.1 hr;rfl
   ·refine zOX _ 0 fun i x hx=>?_
    have hil:i<(zCH l).length:=(List.getElem?_eq_some_iff.1 hx).1
    have:(cells'.toList.take (zCH l).length)[i]?=some (.int .i64 x):=by rw[htk,List.getElem?_map,hx];rfl
    rw[List.getElem?_take_of_lt hil] at this
    unfold World.cell?
    rw[hh,Nat.zero_add]
    simpa using this
  have hturn:=hi.turn hid hg (g':=g) (.inl rfl) hgb.size hkeep hOB' (by simp) (fun z hz=>by
   obtain rfl:=List.mem_singleton.1 hz
   exact ⟨hi.zfp id z hbFP,Nat.lt_of_lt_of_le (hi.flt id z hbFP) hgb.size,fun j hj hc=>hj (hi.disj j id z hc hbFP)⟩)
  refine ⟨_,.tu [],_,Z,_,_,[],rfl,⟨rfl,rfl⟩,by simp,hturn,by simp[RV,RL],by simp,by simp,by simp,GLe.set hg (.inl rfl),zCD hgb.os hgb.tape hgb.output hgb.size hkeep (fun z hz=>by
   obtain rfl:=List.mem_singleton.1 hz
   exact .inr ⟨_,hbFP⟩)⟩
theorem zOq (n:Nat) (hn:n≤100000000000):HFn Tryz.prog 141 [.v (.slice none 0 0),.v (.int .i64 n)] (zB1 []):=by
 refine ⟨fun vals w=>enters_of (P:=Tryz.prog) Tryz.func141 (by kernel_rfl) rfl vals w,fun Z G FP w vals hi ha=>?_⟩
 simp only[RL,RV] at ha
 obtain ⟨y,ys,f1,f2,rfl,e1,⟨rfl,rfl⟩,y2,ys2,f3,f4,rfl,e2,⟨rfl,rfl⟩,rfl,rfl⟩:=ha
 by_cases h0:n=0
 ·subst h0
  have c:Calls Tryz.prog 141 #[.slice none 0 0,.int .i64 (0:Nat)] w _:=Any8.slices_Grow_room z2p none 0 0 0 w (by omega) (by omega) (by omega) (by omega)
  refine Calls.mono c ?_
  rintro e w' ⟨rfl,rfl⟩
  refine ⟨_,zB1 [],[],Z,G,FP,[],rfl,rfl,rfl,hi,?_,by simp,by simp,by simp,GLe.refl _,Evo.refl _ _ _⟩
  simp[zB1,RV,ints]
 ·obtain ⟨td,inf,htd,hinf,hti⟩:=zAf ti3
  have hsz:inf.size=1:=by have:=TI.of_size td inf;rw[←hti] at this;exact this.symm
  have hby:inf.bytes=8:=by have:=TI.of_bytes td inf;rw[←hti] at this;exact this.symm
  have hze:inf.zero=some (.int .i64 0):=by have:=TI.of_zero td inf;rw[←hti] at this;exact this.symm
  have c:Calls Tryz.prog 141 #[.slice none 0 0,.int .i64 n] w _:=Any8.slices_Grow_grow z2p inf _ hinf hze (by omega) none 0 0 n [] w (by omega) (by omega) (by rw[hby];omega) (by omega) (by simp) (fun _=>rfl) (by simp)
  refine Calls.mono c ?_
  rintro e w' ⟨rfl,rfl⟩
  have hge:=grownCap_ge w (0+n) 0 (growL_ren.t 25)
  have hle:=grownCap_le_maxLen w (0+n) 0 (growL_ren.t 25) (by simp only[maxLen];omega)
  generalize grownCap w (0+n) 0 (growL_ren.t 25)=cap at hge hle
  have hcs:(([]:List Value).toArray++Builtin.zeroCells (Value.int .i64 0).cells (0+n-0)++Builtin.zeroCells (Value.int .i64 0).cells (cap-(0+n))).size=cap*1:=by
   have h1:(Value.int .i64 0).cells.size=1:=rfl
   simp only[Array.size_append,size_zeroCells,h1,List.size_toArray,List.length_nil]
   omega
  generalize ([]:List Value).toArray++Builtin.zeroCells (Value.int .i64 0).cells (0+n-0)++Builtin.zeroCells (Value.int .i64 0).cells (cap-(0+n))=cs at hcs
  have hold:∀k,k<w.heap.size→(w.drew.alloc (.cells cs (growL_ren.t 25))).heap[k]?=w.heap[k]?:=fun k hk=>Below.heap_alloc w.drew _ k hk
  have hnew:(w.drew.alloc (.cells cs (growL_ren.t 25))).heap[w.heap.size]?=some (.cells cs (growL_ren.t 25)):=heap_alloc_new w.drew _
  have hsize:(w.drew.alloc (.cells cs (growL_ren.t 25))).heap.size=w.heap.size+1:=by
   show (w.drew.heap.push _).size=_
   rw[Array.size_push];rfl
  have hi' : HInv Z G FP [] (w.drew.alloc (.cells cs (growL_ren.t 25))):=hi.keep (by omega) fun k hk=>hold k (by
   rcases hk with hk | ⟨i,hk⟩
   ·exact hi.zlt k hk
   ·exact hi.flt i k hk)
  refine ⟨_,zB1 [],[],Z,G,FP,[w.heap.size],rfl,rfl,rfl,hi',?_,by simp,fun b hb=>?_,fun b hb=>?_,GLe.refl _,⟨rfl,rfl,rfl,by omega,fun k hk _=>hold k hk,fun _ h=>h,fun _ h=>.inl h,fun i k hk=>.inr ⟨i,hk⟩⟩⟩
  ·simp only[zB1,RV]
   exact .inr ⟨w.heap.size,cap,cs,[],rfl,rfl,hnew,hcs,by simp[ints],hle,by simp[ints],by simp[ints,RR]⟩
  ·obtain rfl:=List.mem_singleton.1 hb
   exact ⟨fun hz=>by have:=hi.zlt _ hz;omega,by omega,fun i hc=>by have:=hi.flt i _ hc;omega⟩
  ·obtain rfl:=List.mem_singleton.1 hb
   exact .inl (Nat.le_refl _)
set_option maxHeartbeats 4000000 in
theorem zJg (l:List (List Int)) (hl:l.length≤100000) (hr:∀r∈l,r.length≤100000):HFn Tryz.prog 111 [.sl (rws l)] (zB1 l.flatten):=by
 have hsum:∀i,(l.take i).flatten.length≤100000*i:=by
  intro i
  induction i with
  | zero=>simp
  | succ i ih =>
   rw[List.take_add_one,List.flatten_append,List.length_append]
   cases hx:l[i]? with
   | none=>simp only[Option.toList_none,List.flatten_nil,List.length_nil];omega
   | some x=>have:=hr x (List.mem_of_getElem? hx);simp only[Option.toList_some,List.flatten_cons,List.flatten_nil,List.append_nil];omega
 refine zA (fn:=Tryz.f111) 36 [2] (by kernel_rfl) rfl (by kernel_rfl) (HW.run 400 (by kernel_rfl) ?_)
 simp +decide only[go_sem,nT,nA,nS,nM,nB,reduceIte,reduceCtorEq]
 refine HW.loopG (fun k T H=>∃i:Nat,k=l.length-i∧i≤l.length∧T 0=.sl (rws l)∧T 3=.v (.int .i64 (l.take i).flatten.length)∧T 9=.sl (rws l)∧T 10=.v (.int .i64 l.length)∧T 11=.v (.int .i64 i)∧H=[]) l.length ⟨_,_,Ghost.refl,0,rfl,by omega,rfl,rfl,rfl,rfl,rfl,rfl⟩ ?_
 rintro k T H ⟨i,rfl,hi,h0,h3,h9,h10,h11,rfl⟩
 refine HW.run 200 (by kernel_rfl) ?_
 by_cases hlt:i<l.length
 ·have hlt' : ((i:Int)<(l.length:Int))=True:=by rw[zO];simp[hlt]
  have hx:l[i]?=some l[i]:=List.getElem?_eq_getElem hlt
  have htk:(l.take (i+1)).flatten=(l.take i).flatten++l[i]:=by rw[List.take_add_one,hx,List.flatten_append];simp
  have hs:=hsum (i+1)
  generalize l[i]=x at hx htk
  rw[htk,List.length_append] at hs
  have w1:IntKind.i64.wrap (((l.take i).flatten.length:Int)+(x.length:Int))=(((l.take i).flatten.length+x.length:Nat):Int):=by rw[w64 (by omega) (by omega)];omega
  have w2:((((l.take i).flatten.length+x.length:Nat):Int)<0)=False:=by simp only[eq_iff_iff,iff_false];omega
  simp +decide only[go_sem,nT,nA,nS,nM,nB,reduceIte,reduceCtorEq,h0,h3,h9,h10,h11,hlt',hx,w1,w2]
  refine ⟨_,_,Ghost.refl,l.length-(i+1),by omega,i+1,rfl,by omega,?_,?_,?_,?_,?_,?_⟩
  all_goals first | (simp +decide only[go_sem,nB,reduceIte,h0,h9,h10];done) | (simp +decide only[go_sem,nB,reduceIte];rw[w64 (by omega) (by omega)];rfl) | (simp +decide only[go_sem,nB,reduceIte];rw[htk,List.length_append];done) | rfl
 ·have hlt' : ((i:Int)<(l.length:Int))=False:=by rw[zO];simp[hlt]
  have e:i=l.length:=by omega
  subst e
  rw[List.take_length] at h3
  have hs:=hsum l.length
  rw[List.take_length] at hs
  simp +decide only[go_sem,nT,nA,nS,nM,nB,reduceIte,reduceCtorEq,h0,h3,h9,h10,h11,hlt']
  refine zC (zOq l.flatten.length (by omega)) rfl rfl ?_
  simp +decide only[go_sem,nT,nA,nS,nM,nB,reduceIte,reduceCtorEq,h0,h3,h9,h10,h11,hlt']
  refine HW.loopG (fun k T H=>∃i:Nat,k=l.length-i∧i≤l.length∧T 6=.hd 0 0 (l.take i).flatten.length∧T 25=.sl (rws l)∧T 26=.v (.int .i64 l.length)∧T 27=.v (.int .i64 i)∧H=[some ⟨3,1,ints (l.take i).flatten⟩]) l.length ⟨_,_,Ghost.refl,0,rfl,by omega,?_,?_,?_,?_,?_⟩ ?_
  iterate 5 first | (simp +decide only[go_sem,nB,reduceIte,h0,h3,h9,h10,h11];done) | exact rfl
  rintro k T H ⟨i,rfl,hi,h6,h25,h26,h27,rfl⟩
  refine HW.run 200 (by kernel_rfl) ?_
  by_cases hlt:i<l.length
  ·have hlt' : ((i:Int)<(l.length:Int))=True:=by rw[zO];simp[hlt]
   have hx:l[i]?=some l[i]:=List.getElem?_eq_getElem hlt
   have htk:(l.take (i+1)).flatten=(l.take i).flatten++l[i]:=by rw[List.take_add_one,hx,List.flatten_append];simp
   have hs:=hsum (i+1)
   generalize l[i]=x at hx htk
   rw[htk,List.length_append] at hs
   simp +decide only[go_sem,nT,nA,nS,nM,nB,reduceIte,reduceCtorEq,h6,h25,h26,h27,hlt',hx]
   repeat (with_reducible refine And.intro ?_ ?_;·(with_reducible and_intros) <;> omega)
   refine ⟨_,_,Ghost.trunc [6,25,26,27] 1 (by omega) ?_ ?_,l.length-(i+1),by omega,i+1,rfl,by omega,?_,?_,?_,?_,?_⟩
   all_goals first | (simp +decide only[go_sem,nB,reduceIte,h6,h25,h26];done) | (simp +decide only[go_sem,nB,reduceIte];rw[w64 (by omega) (by omega)];rfl) | (simp +decide only[go_sem,nT,nA,nS,nM,nB,reduceIte,reduceCtorEq,htk,List.length_append];done)
  ·have hlt' : ((i:Int)<(l.length:Int))=False:=by rw[zO];simp[hlt]
   have e:l.take i=l:=List.take_of_length_le (by omega)
   simp +decide only[go_sem,nT,nA,nS,nM,nB,reduceIte,reduceCtorEq,h6,h25,h26,h27,hlt',e]
end Go.Proofs.YtoknohandclcbaaGreat
namespace Go.Proofs.YtoknohandclcbaaGreat
open Go.RowKit
set_option maxRecDepth 8000
def zGl (a:List Int) (x:Int):List Int:=if a.getLast?=some x then a else a++[x]
def zCa (l:List Int):List Int:=l.foldl zGl []
theorem zFE {l:List Int} {x:Int}:zCa (l++[x])=zGl (zCa l) x:=by simp[zCa]
theorem zQ8 {a:List Int} {x:Int}:(zGl a x).getLast?=some x:=by
 unfold zGl
 split
 ·assumption
 ·simp
theorem zQ9:∀(l:List Int),(zCa l).getLast?=l.getLast?:=by
 intro l
 rcases List.eq_nil_or_concat l with rfl | ⟨a,x,rfl⟩
 ·rfl
 ·rw[List.concat_eq_append,zFE,zQ8];simp
theorem zHv {l:List Int} {i:Nat} {x y:Int} (hx:l[i+1]?=some x) (hy:l[i]?=some y):zCa (l.take (i+2))=if y=x then zCa (l.take (i+1)) else zCa (l.take (i+1))++[x]:=by
 have h1:l.take (i+2)=l.take (i+1)++[x]:=by rw[List.take_add_one,hx];rfl
 have h2:(l.take (i+1)).getLast?=some y:=by rw[List.take_add_one,hy];simp
 rw[h1,zFE,zGl,zQ9,h2]
 simp only[Option.some.injEq]
theorem zUQ:∀(l:List Int),(zCa l).length≤l.length:=by
 intro l
 generalize h:l.length=n
 induction n generalizing l with
 | zero=>rw[List.eq_nil_of_length_eq_zero h];simp[zCa]
 | succ n ih =>
  rcases List.eq_nil_or_concat l with rfl | ⟨a,x,rfl⟩
  ·simp at h
  ·rw[List.concat_eq_append] at h⊢
   have h2:a.length=n:=by simp at h;exact h
   rw[zFE]
   have:=ih a h2
   unfold zGl
   split
   ·omega
   ·simp;omega
set_option maxHeartbeats 8000000 in
theorem zIP (l:List Int) (hl:l.length≤100000000):HCalls Tryz.prog 113 [some ⟨3,1,ints l⟩] [.hd 0 0 l.length]
  (fun r H'=>(r=.hd 0 0 l.length∧H'=[some ⟨3,1,ints l⟩]∧zCa l=l)∨(r=zB1 (zCa l)∧H'=[none])):=by
 refine zA (fn:=Tryz.f113) 61 [2] (by kernel_rfl) rfl (by kernel_rfl) (HW.run 400 (by kernel_rfl) ?_)
 by_cases hs:l.length<2
 ·have hs' : ((l.length:Int)<2)=True:=by simp only[eq_iff_iff,iff_true];omega
  have hc:zCa l=l:=by
   match l,hs with
   | [],_=>rfl
   | [x],_=>rfl
   | _::_::_,h=>simp at h;omega
  simp +decide only[go_sem,nT,nA,nS,nM,nB,reduceIte,reduceCtorEq,hs']
  exact ⟨by simp[nmH,zEJ],.inl ⟨rfl,rfl,hc⟩⟩
 have hs' : ((l.length:Int)<2)=False:=by simp only[eq_iff_iff,iff_false];omega
 simp +decide only[go_sem,nT,nA,nS,nM,nB,reduceIte,reduceCtorEq,hs']
 refine HW.loopG (fun q T H=>∃i:Nat,q=l.length-i∧i+1≤l.length∧zCa (l.take (i+1))=l.take (i+1)∧T 0=.hd 0 0 l.length∧T 3=.v (.int .i64 ((i+1:Nat):Int))∧H=[some ⟨3,1,ints l⟩]) l.length ⟨_,_,Ghost.refl,0,rfl,by omega,?_,rfl,rfl,rfl⟩ ?_
 ·cases l with
  | nil=>rfl
  | cons x l=>rfl
 rintro q T H ⟨i,rfl,hi,hc,h0,h3,rfl⟩
 refine HW.run 200 (by kernel_rfl) ?_
 by_cases hlt:i+1<l.length
 ·have hlt' : (((i+1:Nat):Int)<(l.length:Int))=True:=by simp only[eq_iff_iff,iff_true];omega
  have hlt2:((i:Int)<(l.length:Int))=True:=by simp only[eq_iff_iff,iff_true];omega
  have hx:l[i+1]?=some l[i+1]:=List.getElem?_eq_getElem hlt
  have hy:l[i]?=some (l[i]'(by omega)):=List.getElem?_eq_getElem (by omega)
  generalize l[i+1]=x at hx
  generalize l[i]'(by omega)=y at hy
  have hct:=zHv hx hy
  rw[hc] at hct
  have w1:IntKind.i64.wrap (((i+1:Nat):Int)-1)=(i:Int):=by rw[w64 (by omega) (by omega)];omega
  have w2:IntKind.i64.wrap (((i+1:Nat):Int)+1)=((i+1+1:Nat):Int):=by rw[w64 (by omega) (by omega)];omega
  simp +decide only[go_sem,nT,nA,nS,nM,nB,reduceIte,reduceCtorEq,h0,h3,hlt']
  refine HW.tree 1 (.light 0 (.light 1 (.light 2 (.light 3 (.light 4 (.light 5 (.light 6 (.light 7 (.light 8 (.light 9 .leaf)))))))))) follows (by kernel_rfl) (by kernel_rfl) ?_
  simp +decide only[go_sem,nT,nA,nS,nM,nB,reduceIte,reduceCtorEq,h0,h3,hlt',hlt2,w1,hx,hy]
  by_cases hxy:x=y
  ·rw[if_pos hxy.symm] at hct
   simp +decide only[go_sem,nT,nA,nS,nM,nB,reduceIte,reduceCtorEq,h0,h3,hxy]
   refine ⟨by omega,?_⟩
   refine HW.loopG (fun q T H=>∃(j kk:Nat) (m:List Int),q=l.length-j∧i+1+(j+1)≤l.length∧kk≤i+1+j∧m.length=l.length∧m.take kk=zCa (l.take (i+1+(j+1)))∧m.drop (i+1+j)=l.drop (i+1+j)∧T 0=.hd 0 0 l.length∧T 3=.v (.int .i64 (kk:Int))∧T 4=.hd 0 (i+1) (l.length-(i+1))∧T 5=.v (.int .i64 ((j+1:Nat):Int))∧H=[some ⟨3,1,ints m⟩]) l.length ⟨_,_,Ghost.refl,0,i+1,l,rfl,by omega,by omega,rfl,hct.symm,rfl,?_,?_,?_,?_,rfl⟩ ?_
   ·simp +decide only[go_sem,nB,reduceIte,h0,h3]
   ·simp +decide only[go_sem,nB,reduceIte,h0,h3]
   ·simp +decide only[go_sem,nT,nA,nS,nM,nB,reduceIte,reduceCtorEq,h0,h3]
   ·simp +decide only[go_sem,nB,reduceIte,h0,h3]
    rfl
   rintro q T H ⟨j,kk,m,rfl,hj,hk,hml,hmt,hmd,h0,h3,h4,h5,rfl⟩
   refine HW.run 200 (by kernel_rfl) ?_
   by_cases hlt3:i+1+(j+1)<l.length
   ·have hlt3' : (((j+1:Nat):Int)<((l.length-(i+1):Nat):Int))=True:=by simp only[eq_iff_iff,iff_true];omega
    have hlt4:((j:Int)<((l.length-(i+1):Nat):Int))=True:=by simp only[eq_iff_iff,iff_true];omega
    have gm:∀n,i+1+j≤n→m[n]?=l[n]?:=fun n hn=>by
     have e1:(m.drop (i+1+j))[n-(i+1+j)]?=(l.drop (i+1+j))[n-(i+1+j)]?:=by rw[hmd]
     rw[List.getElem?_drop,List.getElem?_drop,show i+1+j+(n-(i+1+j))=n by omega] at e1
     exact e1
    have hu:l[i+1+(j+1)]?=some l[i+1+(j+1)]:=List.getElem?_eq_getElem hlt3
    have hv:l[i+1+j]?=some (l[i+1+j]'(by omega)):=List.getElem?_eq_getElem (by omega)
    generalize l[i+1+(j+1)]=u at hu
    generalize l[i+1+j]'(by omega)=v at hv
    have hmu:m[i+1+(j+1)]?=some u:=by rw[gm _ (by omega),hu]
    have hmv:m[i+1+j]?=some v:=by rw[gm _ (by omega),hv]
    have hcu:=zHv (l:=l) (i:=i+1+j) hu hv
    have w3:IntKind.i64.wrap (((j+1:Nat):Int)-1)=(j:Int):=by rw[w64 (by omega) (by omega)];omega
    have w4:IntKind.i64.wrap (((j+1:Nat):Int)+1)=((j+1+1:Nat):Int):=by rw[w64 (by omega) (by omega)];omega
    have w5:IntKind.i64.wrap ((kk:Int)+1)=((kk+1:Nat):Int):=by rw[w64 (by omega) (by omega)];omega
    have hl1:i+1+(l.length-(i+1))=m.length:=by omega
    have hkl:((kk:Int)<(l.length:Int))=True:=by simp only[eq_iff_iff,iff_true];omega
    simp +decide only[go_sem,nT,nA,nS,nM,nB,reduceIte,reduceCtorEq,h0,h3,h4,h5,hlt3',hml]
    repeat (with_reducible refine And.intro ?_ ?_;·(with_reducible and_intros) <;> omega)
    refine HW.tree 1 (.light 0 (.light 1 (.light 2 (.light 3 (.light 4 (.light 5 (.light 6 (.light 7 (.light 8 (.light 9 .leaf)))))))))) follows (by kernel_rfl) (by kernel_rfl) ?_
    simp +decide only[go_sem,nT,nA,nS,nM,nB,reduceIte,reduceCtorEq,h0,h3,h4,h5,hlt3',hlt4,w3,hmu,hmv,hml]
    repeat (with_reducible refine And.intro ?_ ?_;·(with_reducible and_intros) <;> omega)
    by_cases huv:u=v
    ·rw[if_pos huv.symm] at hcu
     simp +decide only[go_sem,nT,nA,nS,nM,nB,reduceIte,reduceCtorEq,h0,h3,h4,h5,huv,w4]
     refine ⟨_,_,Ghost.refl,l.length-(j+1),by omega,j+1,kk,m,rfl,by omega,by omega,hml,?_,?_,?_,?_,?_,?_,rfl⟩
     ·rw[hmt];exact hcu.symm
     ·rw[show i+1+(j+1)=i+1+j+1 by omega,←List.drop_drop,hmd,List.drop_drop]
     all_goals first | (simp +decide only[go_sem,nB,reduceIte,h0,h3,h4];done) | (simp +decide only[go_sem,nB,reduceIte,h0,h3,h4];rfl)
    ·rw[if_neg (fun e=>huv e.symm)] at hcu
     have huv' : (u=v)=False:=eq_false huv
     have hmk:∃z,m[kk]?=some z:=⟨_,List.getElem?_eq_getElem (by omega)⟩
     obtain ⟨z,hmk⟩:=hmk
     simp +decide only[go_sem,nT,nA,nS,nM,nB,reduceIte,reduceCtorEq,h0,h3,h4,h5,huv',w4,hmu,hkl,hmk,hml,w5]
     repeat (with_reducible refine And.intro ?_ ?_;·(with_reducible and_intros) <;> omega)
     refine ⟨_,_,Ghost.refl,l.length-(j+1),by omega,j+1,kk+1,m.set kk u,rfl,by omega,by omega,by simpa using hml,?_,?_,?_,?_,?_,?_,?_⟩
     ·rw[show i+1+(j+1+1)=i+1+j+2 by omega,hcu,←show i+1+(j+1)=i+1+j+1 by omega,←hmt,List.take_add_one,List.getElem?_set_self (by omega),List.take_set_of_le (by omega)]
      rfl
     ·rw[List.drop_set_of_lt (by omega),show i+1+(j+1)=i+1+j+1 by omega,←List.drop_drop,hmd,List.drop_drop]
     all_goals first | (simp +decide only[go_sem,nB,reduceIte,h0,h3,h4];done) | (simp +decide only[go_sem,nB,reduceIte,h0,h3,h4];rfl) | (simp +decide only[go_sem,nT,nA,nS,nM,nB,reduceIte,reduceCtorEq];done)
   ·have hlt3' : (((j+1:Nat):Int)<((l.length-(i+1):Nat):Int))=False:=by simp only[eq_iff_iff,iff_false];omega
    rw[show i+1+(j+1)=l.length by omega,List.take_length] at hmt
    have hcl:(zCa l).length=kk:=by rw[←hmt,List.length_take];omega
    have htk:List.take kk (zCa l++List.replicate (l.length-kk) (0:Int))=zCa l:=List.take_left' hcl
    simp +decide only[go_sem,nT,nA,nS,nM,nB,reduceIte,reduceCtorEq,h0,h3,h4,h5,hlt3',hml,hmt,hcl,htk,List.length_append,List.length_replicate]
    repeat (with_reducible refine And.intro ?_ ?_;·(with_reducible and_intros) <;> omega)
    exact ⟨rfl,.inr ⟨rfl,rfl⟩⟩
  ·rw[if_neg (fun e=>hxy e.symm)] at hct
   have hxy' : (x=y)=False:=eq_false hxy
   simp +decide only[go_sem,nT,nA,nS,nM,nB,reduceIte,reduceCtorEq,h0,h3,hxy',w2]
   refine ⟨_,_,Ghost.refl,l.length-(i+1),by omega,i+1,rfl,by omega,?_,?_,?_,rfl⟩
   ·rw[hct,show i+1+1=i+1+1 from rfl,List.take_add_one (i:=i+1),hx];rfl
   all_goals first | (simp +decide only[go_sem,nB,reduceIte,h0,h3];done) | (simp +decide only[go_sem,nB,reduceIte,h0,h3];rfl)
 ·have hlt' : (((i+1:Nat):Int)<(l.length:Int))=False:=by simp only[eq_iff_iff,iff_false];omega
  rw[List.take_of_length_le (by omega)] at hc
  simp +decide only[go_sem,nT,nA,nS,nM,nB,reduceIte,reduceCtorEq,h0,h3,hlt']
  exact ⟨by simp[nmH,zEJ],.inl ⟨rfl,rfl,hc⟩⟩
end Go.Proofs.YtoknohandclcbaaGreat
namespace Go.Proofs.YtoknohandclcbaaGreat
open Go.RowKit
set_option maxRecDepth 8000
def zD8 (pred:Ot→Bool) (l:List Ot):List Ot:=l.filter fun o=>!pred o
theorem zEr {pred:Ot→Bool} {l:List Ot} {i:Nat} {x:Ot} (hx:l[i]?=some x):zD8 pred (l.take (i+1))=if pred x=true then zD8 pred (l.take i) else zD8 pred (l.take i)++[x]:=by
 unfold zD8
 rw[List.take_add_one,hx,List.filter_append]
 cases h:pred x <;> simp[h]
theorem zPc {pred:Ot→Bool} {l:List Ot}:(idxF pred l = -1∧zD8 pred l=l)∨∃i:Nat,idxF pred l=(i:Int)∧i<l.length∧zD8 pred (l.take (i+1))=l.take i:=by
 unfold idxF
 cases h:l.findIdx? pred with
 | none =>
  rw[List.findIdx?_eq_none_iff] at h
  refine .inl ⟨rfl,?_⟩
  unfold zD8
  rw[List.filter_eq_self]
  intro a ha
  rw[h a ha];rfl
 | some i =>
  rw[List.findIdx?_eq_some_iff_getElem] at h
  obtain ⟨h1,h2,h3⟩:=h
  refine .inr ⟨i,rfl,h1,?_⟩
  rw[zEr (List.getElem?_eq_getElem h1),if_pos h2]
  unfold zD8
  rw[List.filter_eq_self]
  intro a ha
  obtain ⟨j,hj⟩:=List.getElem?_of_mem ha
  have hji:j<i:=by have:=(List.getElem?_eq_some_iff.1 hj).1;simp at this;omega
  rw[List.getElem?_take_of_lt hji,List.getElem?_eq_getElem (by omega)] at hj
  have:=h3 j hji
  rw[←Option.some.inj hj]
  simpa using this
abbrev zZZ (b:List Ot):HV:=.fn 106 [.fp [[.sl (ots b)]] 0 0]
abbrev zI8 (b:List Ot):HObj:=⟨27,1,[[.sl (ots b)]]⟩
set_option maxHeartbeats 8000000 in
theorem zJf (l b:List Ot) (hl:l.length≤1000000) (hb:b.length≤1000000) (hs:SetO b) (hsl:∀x∈l,SmallO x) (hsb:∀x∈b,SmallO x) :
  HCalls Tryz.prog 104 [some (zI8 b),some ⟨44,2,ots l⟩] [.hd 1 0 l.length,.fn 106 [.pt 0 1 0 0]]
  (fun r H'=>(r=.hd 1 0 l.length∧H'=[some (zI8 b),some ⟨44,2,ots l⟩]∧zD8 (hasO b) l=l)∨(r=.ow 44 2 (ots (zD8 (hasO b) l))∧H'=[some (zI8 b),none])):=by
 have hM:∀x∈l,HFn Tryz.prog 106 [otH x,.fp [[.sl (ots b)]] 0 0] (.v (.bool (hasO b x))):=fun x hx=>zPX b x hb hs hsb (hsl x hx)
 have hi:HFn Tryz.prog 133 [.sl (ots l),zZZ b] (.v (.int .i64 (idxF (hasO b) l))):=idxO l 106 [.fp [[.sl (ots b)]] 0 0] (hasO b) hl (fun x _=>rfl) (fun i x hx _=>hM x (List.mem_of_getElem? hx))
 have hcs:=zPc (pred:=hasO b) (l:=l)
 generalize idxF (hasO b) l=q at hi hcs
 refine zA (fn:=Tryz.f104) 42 [4] (by kernel_rfl) rfl (by kernel_rfl) (HW.run 400 (by kernel_rfl) ?_)
 simp +decide only[go_sem,nT,nA,nS,nM,nB,reduceIte,reduceCtorEq]
 refine zJ 3 hi (by simp only[go_sem];rfl) rfl ?_
 rcases hcs with ⟨rfl,hk⟩ | ⟨i,rfl,hil,hk⟩
 ·simp +decide only[go_sem,nT,nA,nS,nM,nB,reduceIte,reduceCtorEq]
  exact ⟨by simp[nmH,zST];rfl,.inl ⟨rfl,rfl,hk⟩⟩
 have hq:((i:Int) = -1)=False:=by simp only[eq_iff_iff,iff_false];omega
 have w0:IntKind.i64.wrap ((i:Int)+1)=((i+1:Nat):Int):=by rw[w64 (by omega) (by omega)];omega
 simp +decide only[go_sem,nT,nA,nS,nM,nB,reduceIte,reduceCtorEq,hq,w0]
 refine HW.loopG (fun q T H=>∃(j kk:Nat) (m:List Ot),q=l.length-j∧j≤l.length∧kk<j∧m.length=l.length∧m.take kk=zD8 (hasO b) (l.take j)∧m.drop j=l.drop j∧T 0=.hd 1 0 l.length∧T 1=.fn 106 [.pt 0 1 0 0]∧T 5=.v (.int .i64 (kk:Int))∧T 6=.v (.int .i64 (j:Int))∧H=[some (zI8 b),some ⟨44,2,ots m⟩]) (l.length-(i+1)) ⟨_,_,Ghost.refl,i+1,i,l,by omega,by omega,by omega,rfl,hk.symm,rfl,?_,?_,?_,?_,rfl⟩ ?_
 ·simp +decide only[go_sem,nB,reduceIte]
 ·simp +decide only[go_sem,nB,reduceIte]
 ·simp +decide only[go_sem,nB,reduceIte]
 ·simp +decide only[go_sem,nB,reduceIte]
 rintro q T H ⟨j,kk,m,rfl,hj,hkj,hml,hmt,hmd,h0,h1,h5,h6,rfl⟩
 refine HW.run 200 (by kernel_rfl) ?_
 by_cases hlt:j<l.length
 ·have hlt' : ((j:Int)<(l.length:Int))=True:=by simp only[eq_iff_iff,iff_true];omega
  have hx:l[j]?=some l[j]:=List.getElem?_eq_getElem hlt
  have hmx:m[j]?=l[j]?:=by
   have e1:(m.drop j)[0]?=(l.drop j)[0]?:=by rw[hmd]
   rw[List.getElem?_drop,List.getElem?_drop] at e1
   exact e1
  have hdr:m.drop (j+1)=l.drop (j+1):=by rw[←List.drop_drop,hmd,List.drop_drop]
  rw[hx] at hmx
  have hMx:=hM _ (List.getElem_mem hlt)
  generalize l[j]=x at hx hmx hMx
  have hkt:=zEr (pred:=hasO b) hx
  have w1:IntKind.i64.wrap ((j:Int)+1)=((j+1:Nat):Int):=by rw[w64 (by omega) (by omega)];omega
  have w2:IntKind.i64.wrap ((kk:Int)+1)=((kk+1:Nat):Int):=by rw[w64 (by omega) (by omega)];omega
  simp +decide only[go_sem,nT,nA,nS,nM,nB,reduceIte,reduceCtorEq,h0,h1,h5,h6,hlt',hml,hmx]
  repeat (with_reducible refine And.intro ?_ ?_;·(with_reducible and_intros) <;> omega)
  refine zJ 3 hMx (by simp only[go_sem];rfl) rfl ?_
  cases hb:hasO b x with
  | true =>
   rw[if_pos hb] at hkt
   simp +decide only[go_sem,nT,nA,nS,nM,nB,reduceIte,reduceCtorEq,h0,h1,h5,h6,w1,hml]
   refine ⟨_,_,Ghost.trunc [0,1,5,6] 2 (by omega) ?_ ?_,l.length-(j+1),by omega,j+1,kk,m,rfl,by omega,by omega,hml,by rw[hkt,hmt],hdr,?_,?_,?_,?_,?_⟩
   all_goals first | (simp +decide only[go_sem,nB,reduceIte,h0,h1,h5];done) | (simp +decide only[go_sem,nB,reduceIte,h0,h1,h5];rfl) | (simp +decide only[go_sem,nT,nA,nS,nM,nB,reduceIte,reduceCtorEq];done)
  | false =>
   rw[if_neg (by rw[hb];simp)] at hkt
   have hmk:∃z,m[kk]?=some z:=⟨_,List.getElem?_eq_getElem (by omega)⟩
   obtain ⟨z,hmk⟩:=hmk
   have hset:(ots m).set kk [.sl (ints x.mem),.sl (ints x.regs)]=ots (m.set kk x):=zSS
   have hkl:((kk:Int)<(l.length:Int))=True:=by simp only[eq_iff_iff,iff_true];omega
   simp +decide only[go_sem,nT,nA,nS,nM,nB,reduceIte,reduceCtorEq,h0,h1,h5,h6,w1,w2,hml,hmk,hkl,hset]
   repeat (with_reducible refine And.intro ?_ ?_;·(with_reducible and_intros) <;> omega)
   refine ⟨_,_,Ghost.trunc [0,1,5,6] 2 (by omega) ?_ ?_,l.length-(j+1),by omega,j+1,kk+1,m.set kk x,rfl,by omega,by omega,by simpa using hml,?_,?_,?_,?_,?_,?_,?_⟩
   ·simp +decide only[go_sem,nB,reduceIte,h0,h1,h5]
   ·simp +decide only[go_sem,nB,reduceIte]
   ·rw[hkt,←hmt,List.take_add_one,List.getElem?_set_self (by omega),List.take_set_of_le (by omega)]
    rfl
   ·rw[List.drop_set_of_lt (by omega),hdr]
   all_goals first | (simp +decide only[go_sem,nB,reduceIte,h0,h1,h5];done) | (simp +decide only[go_sem,nB,reduceIte,h0,h1,h5];rfl) | (simp +decide only[go_sem,nT,nA,nS,nM,nB,reduceIte,reduceCtorEq];done) | (simp +decide only[go_sem,nT,nA,nS,nM,nB,reduceIte,reduceCtorEq];exact congrArg (fun r=>[some (⟨44,2,r⟩:HObj)]) zSS)
 ·have hlt' : ((j:Int)<(l.length:Int))=False:=by simp only[eq_iff_iff,iff_false];omega
  obtain rfl:j=l.length:=by omega
  rw[List.take_length] at hmt
  have hcl:(zD8 (hasO b) l).length=kk:=by rw[←hmt,List.length_take];omega
  have htk:List.take kk (ots (zD8 (hasO b) l)++List.replicate (l.length-kk) [HV.v (.slice none 0 0),HV.v (.slice none 0 0)])=ots (zD8 (hasO b) l):=List.take_left' (by rw[zHe,hcl])
  simp +decide only[go_sem,nT,nA,nS,nM,nB,reduceIte,reduceCtorEq,h0,h1,h5,h6,hlt',hml,hmt,hcl,htk,List.length_append,List.length_replicate]
  repeat (with_reducible refine And.intro ?_ ?_;·(with_reducible and_intros) <;> omega)
  exact ⟨rfl,.inr ⟨rfl,rfl⟩⟩
set_option maxHeartbeats 4000000 in
theorem zXr (l:List Ot) (hl:l.length≤100000000):HFn Tryz.prog 105 [.sl (ots l)] (.ow 44 2 (ots l)):=by
 refine zOa (fun hr=>?_) (fun hr a c=>?_)
 ·refine zA (fn:=Tryz.f105) 8 [2] (by kernel_rfl) rfl (by kernel_rfl) (HW.run 400 (by kernel_rfl) ?_)
  simp +decide only[go_sem,nT,nA,nS,nM,nB,reduceIte,reduceCtorEq,hr]
  (with_reducible and_intros) <;> first | omega | rfl
 ·obtain rfl:l=[]:=by cases l with | nil=>rfl | cons a l=>cases hr
  refine HCalls.conv (Q:=fun x _=>x=.v (.slice none 0 0)∨x=.ow 44 2 (ots [])) ?_ ?_
  ·refine zA (fn:=Tryz.f105) 8 [2] (by kernel_rfl) rfl (by kernel_rfl) (HW.run 400 (by kernel_rfl) ?_)
   cases a with
   | none=>simp +decide only[go_sem,nT,nA,nS,nM,nB,reduceIte,reduceCtorEq]
   | some a=>simp +decide only[go_sem,nT,nA,nS,nM,nB,reduceIte,reduceCtorEq]
  ·rintro x H' (rfl | rfl)
   ·exact ⟨_,rfl,.inr ⟨rfl,Conv.nilOw _ _⟩⟩
   ·exact ⟨_,rfl,.inl rfl⟩
theorem zSP (a b:List Ot) (hl:a.length≤1000000) (hb:b.length≤1000000) (hs:SetO b) (hsl:∀x∈a,SmallO x) (hsb:∀x∈b,SmallO x):HFn Tryz.prog 68 [.sl (ots a),.sl (ots b)] (.ow 44 2 (ots (zBM a b))):=by
 have hD:=zJf a b hl hb hs hsl hsb
 have e:zD8 (hasO b) a=zBM a b:=rfl
 rw[e] at hD
 refine zA (fn:=Tryz.f68) 9 [4] (by kernel_rfl) rfl (by kernel_rfl) (HW.run 400 (by kernel_rfl) ?_)
 simp +decide only[go_sem,nT,nA,nS,nM,nB,reduceIte,reduceCtorEq]
 refine zC (zXr a (by omega)) rfl rfl ?_
 simp +decide only[go_sem,nT,nA,nS,nM,nB,reduceIte,reduceCtorEq]
 refine ⟨_,hD,fun r H' hq _=>?_⟩
 rcases hq with ⟨rfl,rfl,hk⟩ | ⟨rfl,rfl⟩
 ·simp +decide only[go_sem,nT,nA,nS,nM,nB,reduceIte,reduceCtorEq,hk]
 ·simp +decide only[go_sem,nT,nA,nS,nM,nB,reduceIte,reduceCtorEq]
end Go.Proofs.YtoknohandclcbaaGreat
