/- Parts of the proof: Cd, Ce, Ci, Ch, Cj. -/
import Derived.Test.YtoknohandclcbaaGreatZb10
open Nat renaming reduceAdd → nA, reduceSub → nS, reduceMul → nM, reduceBEq → nB
open Int renaming reduceToNat → nT
set_option linter.unusedSectionVars false
set_option linter.unusedVariables false
set_option linter.unusedSimpArgs false
namespace Go.Proofs.YtoknohandclcbaaGreat
open Go.RowKit
set_option maxRecDepth 8000
def zJX (b:List (Int×Int)):List (List HV):=b.zipIdx.reverse.map fun w=>[.v (.int .i64 w.2),.ag [.v (.int .i64 w.1.1),.v (.int .i64 w.1.2)]]
theorem zDE (b:List (Int×Int)):(zJX b).length=b.length:=by simp[zJX]
theorem zL9 {b:List (Int×Int)} {j:Nat} (h:j<b.length):(zJX b)[j]?=some [.v (.int .i64 ((b.length-1-j:Nat):Int)),.ag [.v (.int .i64 (b[b.length-1-j]'(by omega)).1),.v (.int .i64 (b[b.length-1-j]'(by omega)).2)]]:=by
 unfold zJX
 rw[List.getElem?_map,List.getElem?_reverse (by simpa using h),List.getElem?_zipIdx]
 simp only[List.length_zipIdx]
 rw[List.getElem?_eq_getElem (show b.length-1-j<b.length by omega)]
 simp
def yCA (b:List (Int×Int)) (m id:Nat) (J:Nat→Heap→Prop) (k:Nat) (T:Nat→HV) (H:Heap):Prop:=∃j Hq,k=b.length-j∧j≤b.length∧J j Hq∧Hq.length=m∧
 T 0=.yl id∧T 1=.pt m 1 0 0∧T 3=.v (.int .i64 ((b.length:Int)-1-j))∧H=Hq++[some ⟨244,1,[[.sl (wrts b)]]⟩]
set_option maxHeartbeats 4000000 in
theorem zUy (b:List (Int×Int)) (hb:b.length≤1000000) (Hc:Heap) (n:Nat) (hn:Hc[n]?=some (some ⟨244,1,[[.sl (wrts b)]]⟩)) :
  HSeq Tryz.prog 213 Hc [.pt n 1 0 0] (Hc.set n none) (zJX b):=by
 intro id J K hid hJ hK hY h0
 refine zB (fn:=Tryz.f213) 19 [] rfl rfl (by kernel_rfl) (HW.ghost (Ghost.move 1 n 1 0 0 _ rfl hn) (HW.run 60 (by kernel_rfl) ?_))
 have hl0:(Hc.set n none).length=Hc.length:=List.length_set
 have g0:∀B:Heap,getO (Hc.set n none++B) Hc.length=getO B 0:=fun B=>zA0 hl0
 simp +decide only[go_sem,nT,nA,nS,nM,nB,reduceIte,reduceCtorEq,g0]
 refine HW.loopG (yCA b Hc.length id J) b.length ⟨_,_,Ghost.refl,0,_,rfl,by omega,h0,hl0,rfl,rfl,?_,rfl⟩ ?_
 ·simp +decide only[go_sem,nB,reduceIte]
  rw[w64 (by omega) (by omega)];simp
 rintro k T H ⟨j,Hq,rfl,hj,hJj,hlen,h0,h1,h3,rfl⟩
 have g0:∀B:Heap,getO (Hq++B) Hc.length=getO B 0:=fun B=>zA0 hlen
 refine HW.run 200 (by kernel_rfl) ?_
 by_cases hlt:j<b.length
 ·have e1:(0≤(b.length:Int)-1-j)=True:=by simp only[eq_iff_iff,iff_true];omega
  have e2:((b.length:Int)-1-j<b.length)=True:=by simp only[eq_iff_iff,iff_true];omega
  have e3:((b.length:Int)-1-j).toNat=b.length-1-j:=by omega
  have hx:b[b.length-1-j]?=some (b[b.length-1-j]'(by omega)):=List.getElem?_eq_getElem (by omega)
  have hX:=zL9 hlt
  have e4:((b.length-1-j:Nat):Int)=(b.length:Int)-1-j:=by omega
  rw[e4] at hX
  generalize b[b.length-1-j]'(by omega)=x at hx hX
  simp +decide only[go_sem,nT,nA,nS,nM,nB,reduceIte,reduceCtorEq,h0,h1,h3,g0,e1,e2,e3,hx]
  refine zCo hlen hid (hJ _ _ hJj).2 rfl (hY j _ Hq hX hJj) ?_
  intro c Hq' hc' hlen'
  have g0:∀B:Heap,getO (Hq'++B) Hc.length=getO B 0:=fun B=>zA0 hlen'
  cases c with
  | true =>
   simp only[if_true] at hc'
   simp +decide only[go_sem,nT,nA,nS,nM,nB,reduceIte,reduceCtorEq,h0,h1,h3,g0]
   refine ⟨_,_,Ghost.refl,b.length-(j+1),by omega,j+1,Hq',rfl,by omega,hc',hlen',?_,?_,?_,rfl⟩
   ·simp +decide only[go_sem,nB,reduceIte,h0]
   ·simp +decide only[go_sem,nB,reduceIte,h1]
   ·simp +decide only[go_sem,nB,reduceIte,h3];rw[w64 (by omega) (by omega)];congr 2;omega
  | false =>
   simp only[Bool.false_eq_true,if_false] at hc'
   simp +decide only[go_sem,nT,nA,nS,nM,nB,reduceIte,reduceCtorEq,h0,h1,h3,g0]
   exact zAb hlen' (hK _ _ hc') (.inr ⟨_,hc'⟩)
 ·have e1:(0≤(b.length:Int)-1-j)=False:=by simp only[eq_iff_iff,iff_false];omega
  have e:j=(zJX b).length:=by rw[zDE];omega
  simp +decide only[go_sem,nT,nA,nS,nM,nB,reduceIte,reduceCtorEq,h0,h1,h3,g0,e1]
  exact zAb hlen (hJ _ _ hJj).2 (.inl (e▸hJj))
theorem zY6 (b:List (Int×Int)):HFn Tryz.prog 211 [.sl (wrts b)] (.fn 213 [.bx 244 1 [.sl (wrts b)]]):=by
 refine zB (fn:=Tryz.f211) 4 [2] (by kernel_rfl) rfl (by kernel_rfl) (HW.run 400 (by kernel_rfl) ?_)
 simp +decide only[go_sem,nT,nA,nS,nM,nB,reduceIte,reduceCtorEq]
def rowX (b:List (Int×Int)):List (List HV):=b.reverse.map fun w=>[.ag [.v (.int .i64 w.1),.v (.int .i64 w.2)]]
theorem zOa {b:List (Int×Int)} {i:Nat} {x:List HV} (h:(zJX b)[i]?=some x):∃(q:Int) (w:Int×Int),b.reverse[i]?=some w∧x=[.v (.int .i64 q),.ag [.v (.int .i64 w.1),.v (.int .i64 w.2)]]:=by
 have hlt:i<b.length:=by have:=(List.getElem?_eq_some_iff.1 h).1;rwa [zDE] at this
 rw[zL9 hlt] at h
 cases h
 refine ⟨_,_,?_,rfl⟩
 rw[List.getElem?_reverse hlt,List.getElem?_eq_getElem (show b.length-1-i<b.length by omega)]
theorem zCq {A B:Heap} {m k:Nat} (h:A.length=m):(A++B).take (m+k)=A++B.take k:=by
 subst h
 rw[List.take_append,List.take_of_length_le (by omega),Nat.add_sub_cancel_left]
theorem zEs {A B:Heap} {m k:Nat} (h:A.length=m) (hA:nmH m A=true) (hB:((B.take k).all fun o=>match o with | some ob=>nmR (m+k) ob.rows | none=>true)=true):nmH (m+k) (A++B)=true:=by
 unfold nmH at hA⊢
 rw[zCq h,List.all_append,Bool.and_eq_true]
 rw[←h,List.take_length] at hA
 refine ⟨?_,hB⟩
 rw[List.all_eq_true] at hA⊢
 intro o ho
 have:=hA o ho
 cases o with
 | none=>rfl
 | some ob=>exact zIp (by omega) _ this
set_option maxHeartbeats 4000000 in
theorem yBu (b:List (Int×Int)) (hb:b.length≤1000000) (Hc:Heap) (n:Nat) (hn:Hc[n]?=some (some ⟨244,1,[[.sl (wrts b)]]⟩)) :
  HSeq Tryz.prog 210 Hc [.pt n 1 0 0] (Hc.set n none) (rowX b):=by
 intro id J K hid hJ hK hY h0
 refine zB (fn:=Tryz.f210) 13 [] rfl rfl (by kernel_rfl) (HW.ghost (Ghost.move 1 n 1 0 0 _ rfl hn) (HW.run 60 (by kernel_rfl) ?_))
 have hl0:(Hc.set n none).length=Hc.length:=List.length_set
 generalize Hc.set n none=A at h0 hl0⊢
 have g0:∀B:Heap,getO (A++B) Hc.length=getO B 0:=fun B=>zA0 hl0
 have g1:∀(j:Nat) (B:Heap),getO (A++B) (Hc.length+j)=getO B j:=fun j B=>zBO hl0
 simp +decide only[go_sem,nT,nA,nS,nM,nB,reduceIte,reduceCtorEq,g0,g1,List.append_assoc]
 refine zD (zY6 b) rfl rfl ?_
 simp +decide only[go_sem,nT,nA,nS,nM,nB,reduceIte,reduceCtorEq,g0,g1,List.append_assoc,hl0]
 have rest:∀(Hq:Heap) (z:Option HObj),Hq.length=Hc.length→(Hq++[some ⟨244,1,[[.sl (wrts b)]]⟩,some ⟨251,1,[[.yl id]]⟩,z]).length=Hc.length+3:=fun Hq z h=>by simp[h]
 refine HW.rangeFunc rfl (by decide) rfl (zJX b) (A++[some ⟨244,1,[[.sl (wrts b)]]⟩,some ⟨251,1,[[.yl id]]⟩,none])
  (fun j Hi=>∃Hq,Hi=Hq++[some ⟨244,1,[[.sl (wrts b)]]⟩,some ⟨251,1,[[.yl id]]⟩,none]∧Hq.length=Hc.length∧J j Hq)
  (fun c Hi=>c=.ret∧∃Hq i,Hi=Hq++[some ⟨244,1,[[.sl (wrts b)]]⟩,some ⟨251,1,[[.yl id]]⟩,none]∧Hq.length=Hc.length∧K i Hq)
  ⟨by simp,fun j o hj=>?_⟩ (fun x hx=>?_) (fun o=>?_) ⟨A,rfl,hl0,h0⟩ ?_ ?_ ?_
 ·rcases Nat.lt_or_ge j A.length with h | h
  ·rw[List.getElem?_append_left h] at hj⊢;exact hj
  ·rw[List.getElem?_append_right h] at hj⊢
   rcases hk:j-A.length with _ | _ | _ | q
   ·rw[hk] at hj;exact hj
   ·rw[hk] at hj;exact hj
   ·rw[hk] at hj;simp at hj
   ·rw[hk] at hj;simp at hj
 ·obtain ⟨j,hj⟩:=List.mem_iff_getElem?.1 hx
  obtain ⟨q,w,_,rfl⟩:=zOa hj
  exact ⟨rfl,rfl⟩
 ·have g2:∀B:Heap,(A++B).set (Hc.length+2) none=A++B.set 2 none:=fun B=>zCN hl0
  have:=zUy b hb (A++[some ⟨244,1,[[.sl (wrts b)]]⟩,some ⟨251,1,[[.yl id]]⟩,some ⟨244,1,[[.sl (wrts b)]]⟩]++[some o]) (Hc.length+2) (by
   rw[List.append_assoc,←hl0,List.getElem?_append_right (by omega),Nat.add_sub_cancel_left];rfl)
  rw[List.append_assoc,g2] at this
  rw[List.append_assoc,List.append_assoc]
  exact this
 ·rintro j x Hi hx hlen ⟨Hq,rfl,hq,hJj⟩
  obtain ⟨q,w,hw,rfl⟩:=zOa hx
  have g0:∀B:Heap,getO (Hq++B) Hc.length=getO B 0:=fun B=>zA0 hq
  have g1:∀(j:Nat) (B:Heap),getO (Hq++B) (Hc.length+j)=getO B j:=fun j B=>zBO hq
  have g2:∀(j:Nat) (B:Heap) x,(Hq++B).set (Hc.length+j) x=Hq++B.set j x:=fun j B x=>zCN hq
  have hX:(rowX b)[j]?=some [.ag [.v (.int .i64 w.1),.v (.int .i64 w.2)]]:=by unfold rowX;rw[List.getElem?_map,hw];rfl
  refine HW.run 60 (by kernel_rfl) ?_
  simp +decide only[go_sem,nT,nA,nS,nM,nB,reduceIte,reduceCtorEq,g0,g1,g2,hq,List.append_assoc]
  refine HW.run 60 (by kernel_rfl) ?_
  simp +decide only[go_sem,nT,nA,nS,nM,nB,reduceIte,reduceCtorEq,g0,g1,g2,hq,List.append_assoc]
  refine zCo hq hid (hJ _ _ hJj).2 rfl (hY j _ Hq hX hJj) ?_
  intro c Hq' hc' hlen'
  have t1:∀B:Heap,(Hq'++B).take (Hc.length+3)=Hq'++B.take 3:=fun B=>zCq hlen'
  cases c with
  | true =>
   simp only[if_true] at hc'
   simp +decide only[go_sem,nT,nA,nS,nM,nB,reduceIte,reduceCtorEq,hl0]
   refine ⟨_,_,Ghost.trunc [] (Hc.length+3) (by omega) rfl (zEs hlen' (hJ _ _ hc').2 ?_),?_,Hq',?_,hlen',hc'⟩
   ·simp[nmR,nmL,nm];omega
   ·rw[t1];simp[hlen']
   ·rw[t1];rfl
  | false =>
   simp only[Bool.false_eq_true,if_false] at hc'
   simp +decide only[go_sem,nT,nA,nS,nM,nB,reduceIte,reduceCtorEq,hl0]
   refine ⟨_,_,Ghost.trunc [] (Hc.length+3) (by omega) rfl (zEs hlen' (hK _ _ hc') ?_),?_,Hq',_,?_,hlen',hc'⟩
   ·simp[nmR,nmL,nm];omega
   ·rw[t1];simp[hlen']
   ·rw[t1];rfl
 ·rintro Hf hlen ⟨Hq,rfl,hq,hJj⟩
  simp +decide only[go_sem,nT,nA,nS,nM,nB,reduceIte,reduceCtorEq]
  have e:(zJX b).length=(rowX b).length:=by rw[zDE];simp[rowX]
  exact zAb hq (hJ _ _ hJj).2 (.inl (e▸hJj))
 ·rintro c Hf hlen ⟨rfl,Hq,i,rfl,hq,hKi⟩
  unfold XQ
  simp +decide only[go_sem,nT,nA,nS,nM,nB,reduceIte,reduceCtorEq]
  exact zAb hq (hK _ _ hKi) (.inr ⟨_,hKi⟩)
end Go.Proofs.YtoknohandclcbaaGreat
namespace Go.Proofs.YtoknohandclcbaaGreat
open Go.RowKit
set_option maxRecDepth 8000
theorem zZ1 (b:List (Int×Int)):HFn Tryz.prog 206 [.sl (wrts b)] (.fn 210 [.bx 244 1 [.sl (wrts b)]]):=by
 refine zB (fn:=Tryz.f206) 4 [2] (by kernel_rfl) rfl (by kernel_rfl) (HW.run 400 (by kernel_rfl) ?_)
 simp +decide only[go_sem,nT,nA,nS,nM,nB,reduceIte,reduceCtorEq]
theorem zKo {α:Type} {p:α→Bool}:∀{l:List α} {i:Nat} {x:α},(∀k,k<i→∀y,l[k]?=some y→p y=false)→l[i]?=some x→p x=true→l.find? p=some x
 | [],i,x,_,h,_=>by simp at h
 | a::l,0,x,_,h,hp=>by simp at h;subst h;simp[hp]
 | a::l,i+1,x,hq,h,hp=>by
  have ha:=hq 0 (by omega) a rfl
  simp only[List.find?_cons,ha]
  exact zKo (i:=i) (fun k hk y hy=>hq (k+1) (by omega) y (by simpa using hy)) (by simpa using h) hp
set_option maxHeartbeats 4000000 in
theorem z2C (b:List (Int×Int)) (loc:Int) (hb:b.length≤1000000):HFn Tryz.prog 192 [.sl (wrts b),.v (.int .i64 loc)] (.tu [.v (.int .i64 ((zCx b loc).getD 0)),.v (.bool (zCx b loc).isSome)]):=by
 refine zV (fn:=Tryz.f192) 16 [.cell 4 3,.cell 5 4] (by kernel_rfl) rfl rfl (by kernel_rfl) (HW.run 400 (by kernel_rfl) ?_)
 simp +decide only[go_sem,nT,nA,nS,nM,nB,reduceIte,reduceCtorEq]
 refine zD (zZ1 b) rfl rfl ?_
 simp +decide only[go_sem,nT,nA,nS,nM,nB,reduceIte,reduceCtorEq]
 refine HW.rangeFunc rfl (by decide) rfl (rowX b) [some ⟨3,1,[[.v (.int .i64 loc)]]⟩,some ⟨3,1,[[.v (.int .i64 0)]]⟩,some ⟨4,1,[[.v (.bool false)]]⟩,none]
  (fun j Hi=>Hi=[some ⟨3,1,[[.v (.int .i64 loc)]]⟩,some ⟨3,1,[[.v (.int .i64 0)]]⟩,some ⟨4,1,[[.v (.bool false)]]⟩,none]∧∀k,k<j→∀y,b.reverse[k]?=some y→decide (y.1=loc)=false)
  (fun c Hi=>c=.ret∧∃n,zCx b loc=some n∧Hi=[some ⟨3,1,[[.v (.int .i64 loc)]]⟩,some ⟨3,1,[[.v (.int .i64 n)]]⟩,some ⟨4,1,[[.v (.bool true)]]⟩,none])
  (SubH.spec (And.intro rfl (And.intro rfl (And.intro rfl trivial)))) ?_ (fun o=>yBu b hb _ 3 rfl) ⟨rfl,by simp⟩ ?_ ?_ ?_
 ·intro x hx
  obtain ⟨y,_,rfl⟩:=List.mem_map.1 hx
  exact ⟨rfl,rfl⟩
 ·rintro i x Hi hx - ⟨rfl,hno⟩
  unfold rowX at hx
  rw[List.getElem?_map] at hx
  obtain ⟨w,hw,rfl⟩:=Option.map_eq_some_iff.1 hx
  refine HW.run 60 (by kernel_rfl) ?_
  simp +decide only[go_sem,nT,nA,nS,nM,nB,reduceIte,reduceCtorEq]
  refine HW.run 60 (by kernel_rfl) ?_
  by_cases hc:w.1=loc
  ·have hc' : decide (w.1=loc)=true:=by simp[hc]
   have hl:zCx b loc=some w.2:=by
    unfold zCx
    rw[zKo (p:=fun w=>decide (w.1=loc)) hno hw hc'];rfl
   simp +decide only[go_sem,nT,nA,nS,nM,nB,reduceIte,reduceCtorEq,hc]
   exact ⟨_,_,Ghost.trunc [] 4 (by omega) rfl rfl,rfl,_,hl,rfl⟩
  ·simp +decide only[go_sem,nT,nA,nS,nM,nB,reduceIte,reduceCtorEq,hc]
   refine ⟨_,_,Ghost.trunc [] 4 (by omega) rfl rfl,rfl,rfl,fun k hk y hy=>?_⟩
   rcases Nat.lt_or_ge k i with h | h
   ·simpa using hno k h y hy
   ·obtain rfl:k=i:=by omega
    rw[hw] at hy;cases hy;exact hc
 ·rintro Hf - ⟨rfl,hno⟩
  have hl:zCx b loc=none:=by
   unfold zCx
   rw[List.find?_eq_none.2 fun x hx=>?_];rfl
   obtain ⟨k,hk⟩:=List.mem_iff_getElem?.1 hx
   have hkl:=(List.getElem?_eq_some_iff.1 hk).1
   have:=hno k (by simp[rowX] at hkl⊢;omega) x hk
   simpa using this
  simp +decide only[go_sem,nT,nA,nS,nM,nB,reduceIte,reduceCtorEq,hl]
 ·rintro c Hf - ⟨rfl,n,hl,rfl⟩
  unfold XQ
  simp +decide only[go_sem,nT,nA,nS,nM,nB,reduceIte,reduceCtorEq,hl]
set_option maxHeartbeats 4000000 in
theorem zUu (b:List (Int×Int)) (mem:List Int) (loc:Int) (hb:b.length≤1000000):HFn Tryz.prog 161 [.sl (wrts b),.sl (ints mem),.v (.int .i64 loc)] (.tu [.v (.int .i64 (zHI b mem loc).1),.v (.bool (zHI b mem loc).2)]):=by
 refine zB (fn:=Tryz.f161) 30 [6,7] (by kernel_rfl) rfl (by kernel_rfl) (HW.run 400 (by kernel_rfl) ?_)
 simp +decide only[go_sem,nT,nA,nS,nM,nB,reduceIte,reduceCtorEq]
 refine zJ 3 (z2C b loc hb) (by simp only[go_sem]) rfl ?_
 unfold zHI
 cases hl:zCx b loc with
 | some n=>simp +decide only[go_sem,nT,nA,nS,nM,nB,reduceIte,reduceCtorEq,hl]
 | none =>
  by_cases c1:0≤loc
  case neg =>
   have c1' : (loc<0)=True:=by simp only[eq_iff_iff,iff_true];omega
   have c1t:(0≤loc)=False:=by simp only[eq_iff_iff,iff_false];omega
   simp +decide only[go_sem,nT,nA,nS,nM,nB,reduceIte,reduceCtorEq,hl,c1',c1t]
  have c1' : (loc<0)=False:=by simp only[eq_iff_iff,iff_false];omega
  have c1t:(0≤loc)=True:=by simp[c1]
  by_cases c2:loc<mem.length
  case neg =>
   have c2' : ((mem.length:Int)≤loc)=True:=by simp only[eq_iff_iff,iff_true];omega
   have c2t:(loc<(mem.length:Int))=False:=by simp[c2]
   simp +decide only[go_sem,nT,nA,nS,nM,nB,reduceIte,reduceCtorEq,hl,c1',c1t,c2',c2t]
  have c2' : ((mem.length:Int)≤loc)=False:=by simp only[eq_iff_iff,iff_false];omega
  have c2t:(loc<(mem.length:Int))=True:=by simp[c2]
  have hx:mem[loc.toNat]?=some (getI mem loc):=by
   have:loc.toNat<mem.length:=by omega
   unfold getI;rw[List.getElem?_eq_getElem this];rfl
  simp +decide only[go_sem,nT,nA,nS,nM,nB,reduceIte,reduceCtorEq,hl,c1',c1t,c2',c2t,hx]
end Go.Proofs.YtoknohandclcbaaGreat
namespace Go.Proofs.YtoknohandclcbaaGreat
open Go.RowKit
set_option maxRecDepth 8000
abbrev z2q (p:Prg) (s:Sta) (y:Thd) (x:Stp) (mem:List Int) (ths:List (List HV)) (c:HV) (t:Nat):Heap :=
  [some ⟨25,2,[[.sl (ints p.init),.sl (thrs p.thr)]]⟩,some ⟨79,2,[[.sl (ints s.mem),.sl (thds s.ths)]]⟩,
   some ⟨79,2,[[.v (.slice none 0 0),.v (.slice none 0 0)]]⟩,
   some ⟨106,4,[[.v (.int .i64 y.pc),.sl (ints y.regs),.v (.bool y.eq),.sl (wrts y.buf)]]⟩,
   some ⟨3,1,ints mem⟩,some ⟨106,4,ths⟩,
   some ⟨79,2,[[c,.hd 5 0 s.ths.length]]⟩,some ⟨197,1,[[.pt 5 s.ths.length t 0]]⟩,
   some ⟨87,5,[[.v (.int .i64 x.op),.v (.int .i64 x.reg),.v (.int .i64 x.loc),.v (.int .i64 x.n),.v (.int .i64 x.to)]]⟩]
set_option maxHeartbeats 8000000 in
theorem zWc (p:Prg) (s:Sta) (y z:Thd) (x:Stp) (m' : List Int) (t:Nat) (loc n:Int) (ht:t<s.ths.length) (hml:s.mem.length≤100000) (hyb:y.buf.length≤100000) (hm' : m'.length=s.mem.length) :
  HCalls Tryz.prog 159 (z2q p s y x m' (zX (s.ths.set t z)) (.hd 4 0 s.mem.length) t) [.v (.int .i64 loc),.v (.int .i64 n),.pt 3 1 0 0,.pt 7 1 0 0,.pt 1 1 0 0,.pt 6 1 0 0]
   (fun r H'=>r=.tu []∧H'=z2q p s y x m' (zX (s.ths.set t { z with buf:=y.buf++[(loc,n)] })) (.ow 3 1 (ints s.mem)) t):=by
 refine zV (fn:=Tryz.f159) 21 [] (by kernel_rfl) rfl rfl (by kernel_rfl) (HW.weaken (Q':=fun e=>GQ _ _ (endC _ _ _ _ e)) (HW.run 400 (by kernel_rfl) ?_) (fun _ _ _ h=>h))
 have hst2:∀(z:Thd) X,((zX (s.ths.set t z)).set t X)[t]?=some X:=fun z=>zC5 (by rw[zAQ,List.length_set];exact ht)
 have hx2:∀z:Thd,(s.ths.set t z)[t]?=some z:=fun z=>by simp[ht]
 have hlv:(s.ths.length == s.ths.length && s.ths.length != 0)=true:=by
  rw[Bool.and_eq_true]
  exact ⟨beq_self_eq_true _,by simp only[bne_iff_ne];omega⟩
 simp +decide only[go_sem,nT,nA,nS,nM,nB,reduceIte,reduceCtorEq,hst2,hx2,hlv,List.length_set]
 refine HW.mixed 80 7 (9,0) [6] follows (by kernel_rfl) (by decide) ?_
 simp +decide only[go_sem,nT,nA,nS,nM,nB,reduceIte,reduceCtorEq,hst2,hx2,hlv,List.length_set]
 refine zBc (z2B y.buf loc n (by omega)) rfl rfl ?_
 simp +decide only[go_sem,nT,nA,nS,nM,nB,reduceIte,reduceCtorEq,hst2,hx2,hlv,List.length_set,List.map_set,List.set_set]
 refine zD (zAj s.mem (by omega)) rfl rfl ?_
 simp +decide only[go_sem,nT,nA,nS,nM,nB,reduceIte,reduceCtorEq,hst2,hx2,hlv,List.length_set,List.map_set,List.set_set,List.length_append,List.length_singleton]
 refine GQ.step (Ghost.absorb 6 0 0) ?_
 simp +decide only[go_sem,nT,nA,nS,nM,nB,reduceIte,reduceCtorEq,hst2,hx2,hlv,List.length_set,List.map_set,List.set_set,List.length_append,List.length_singleton]
 refine GQ.step (Ghost.absorb 5 t 3) ?_
 simp +decide only[go_sem,nT,nA,nS,nM,nB,reduceIte,reduceCtorEq,hst2,hx2,hlv,List.length_set,List.map_set,List.set_set,List.length_append,List.length_singleton]
 refine GQ.done ?_
 simp +decide only[go_sem,nT,nA,nS,nM,nB,reduceIte,reduceCtorEq,hst2,hx2,hlv,List.length_set,List.map_set,List.set_set,List.length_append,List.length_singleton,zAT,zBQ]
 try exact ⟨rfl,rfl,rfl⟩
end Go.Proofs.YtoknohandclcbaaGreat
namespace Go.Proofs.YtoknohandclcbaaGreat
open Go.RowKit
set_option maxRecDepth 8000
theorem zEk {s:Sta} {t:Nat} {mem:List Int} {y:Thd}:zA6 s (t:Int) mem y=⟨mem,s.ths.set t y⟩:=by unfold zA6;rw[Int.toNat_natCast]
set_option maxHeartbeats 4000000 in
theorem zV4 (s:Sta) (t:Nat) (y:Thd) (hx:s.ths[t]?=some y) (hml:s.mem.length≤100000) (htl:s.ths.length≤1000) (hrl:∀t∈s.ths,t.regs.length≤100000∧t.buf.length≤100000) :
  HFn Tryz.prog 127 [staH s,.v (.int .i64 t)] (.tu [staO (if (zAI y.buf s.mem).2.2=true then zA6 s t (zAI y.buf s.mem).2.1 { y with buf:=(zAI y.buf s.mem).1 } else s),.v (.bool (zAI y.buf s.mem).2.2)]):=by
 refine zV (fn:=Tryz.f127) 36 [.cell 4 79,.tmp 5] (by kernel_rfl) rfl rfl (by kernel_rfl) (HW.weaken (Q':=fun e=>GQ _ _ (endC _ _ _ _ e)) (HW.run 400 (by kernel_rfl) ?_) (fun _ _ _ h=>h))
 have ht:t<s.ths.length:=(List.getElem?_eq_some_iff.1 hx).1
 have hyp:y∈s.ths:=List.mem_of_getElem? hx
 obtain ⟨_,hyb⟩:=hrl _ hyp
 have hc2:((t:Int)<(s.ths.length:Int))=True:=by rw[zR];simp[ht]
 have hst:∀X,((zX s.ths).set t X)[t]?=some X:=zC5 (by rw[zAQ];exact ht)
 have hlv:(s.ths.length == s.ths.length && s.ths.length != 0)=true:=by
  rw[Bool.and_eq_true]
  exact ⟨beq_self_eq_true _,by simp only[bne_iff_ne];omega⟩
 simp +decide only[go_sem,nT,nA,nS,nM,nB,reduceIte,reduceCtorEq]
 refine zJ 3 (zJd s hml htl hrl) (by simp only[go_sem]) (by simp only[go_sem]) ?_
 simp +decide only[go_sem,nT,nA,nS,nM,nB,reduceIte,reduceCtorEq]
 refine HW.ghost (Ghost.open 3 t 3) ?_
 simp +decide only[go_sem,nT,nA,nS,nM,nB,reduceIte,reduceCtorEq,hx]
 refine HW.mixed 100 16 (6,0) [8] follows (by kernel_rfl) (by decide) ?_
 simp +decide only[go_sem,nT,nA,nS,nM,nB,reduceIte,reduceCtorEq,hx,hc2,hlv,hst,List.map_set,List.set_set,List.length_set]
 refine zY2 3 (zY4 y.buf s.mem (by omega) (by omega)) (by simp only[go_sem]) (by simp only[go_sem]) ?_
 have hdm:(zAI y.buf s.mem).2.1.length=s.mem.length:=by
  unfold zAI
  split
  ·rfl
  ·split
   ·exact zBk
   ·rfl
 cases hd:(zAI y.buf s.mem).2.2 with
 | true =>
  rw[if_pos rfl,zEk]
  simp +decide only[go_sem,nT,nA,nS,nM,nB,reduceIte,reduceCtorEq,hx,hc2,hlv,hst,List.map_set,List.set_set,List.length_set,hd,hdm]
  refine GQ.step (Ghost.absorb 3 t 3) ?_
  simp +decide only[go_sem,nT,nA,nS,nM,nB,reduceIte,reduceCtorEq,hx,hc2,hlv,hst,List.map_set,List.set_set,List.length_set,hd,hdm]
  refine GQ.done ?_
  simp +decide only[go_sem,nT,nA,nS,nM,nB,reduceIte,reduceCtorEq,hx,hc2,hlv,hst,List.map_set,List.set_set,List.length_set,hd,hdm]
 | false =>
  rw[if_neg (by simp)]
  simp +decide only[go_sem,nT,nA,nS,nM,nB,reduceIte,reduceCtorEq,hx,hc2,hlv,hst,List.map_set,List.set_set,List.length_set,hd,hdm]
  refine GQ.step (Ghost.absorb 3 t 3) ?_
  simp +decide only[go_sem,nT,nA,nS,nM,nB,reduceIte,reduceCtorEq,hx,hc2,hlv,hst,List.map_set,List.set_set,List.length_set,hd,hdm]
  refine GQ.done ?_
  simp +decide only[go_sem,nT,nA,nS,nM,nB,reduceIte,reduceCtorEq,hx,hc2,hlv,hst,List.map_set,List.set_set,List.length_set,hd,hdm]
  have e:s.ths.set t ⟨y.pc,y.regs,y.eq,y.buf⟩=s.ths:=zAP hx
  rw[e]
set_option maxHeartbeats 16000000 in
theorem zZI (p:Prg) (s:Sta) (t:Nat) (y:Thd) (hx:s.ths[t]?=some y) (hp:RightP p) (hs:RightS p s) (hb:∀t∈s.ths,t.buf.length≤100000) :
  HFn Tryz.prog 128 [prgH p,staH s,.v (.int .i64 t)] (.tu [staO (zQ p s ⟨t,false⟩).1,.v (.bool (zQ p s ⟨t,false⟩).2)]):=by
 refine zV (fn:=Tryz.f128) 94 [.cell 6 79,.tmp 7] (by kernel_rfl) rfl rfl (by kernel_rfl) (HW.weaken (Q':=fun e=>GQ _ _ (endC _ _ _ _ e)) (HW.run 400 (by kernel_rfl) ?_) (fun _ _ _ h=>h))
 have hml:s.mem.length≤100000:=by have:=hs.mem;have:=hp.init;omega
 have htl:s.ths.length≤1000:=by have:=hs.ths;have:=hp.thr;omega
 have hrl:∀t∈s.ths,t.regs.length≤100000∧t.buf.length≤100000:=fun t ht=>by
  obtain ⟨i,hi⟩:=List.getElem?_of_mem ht
  have hlt:=(List.getElem?_eq_some_iff.1 hi).1
  have:=(hs.t i _ t (List.getElem?_eq_getElem (show i<p.thr.length by rw[←hs.ths];exact hlt)) hi).regs
  exact ⟨by omega,hb t ht⟩
 have ht:t<s.ths.length:=(List.getElem?_eq_some_iff.1 hx).1
 have hyp:y∈s.ths:=List.mem_of_getElem? hx
 obtain ⟨hyr,hyb⟩:=hrl _ hyp
 have htA:thAt s (t:Int)=y:=by unfold thAt;rw[Int.toNat_natCast,hx];rfl
 have hc2:((t:Int)<(s.ths.length:Int))=True:=by rw[zR];simp[ht]
 have hst:∀X,((zX s.ths).set t X)[t]?=some X:=zC5 (by rw[zAQ];exact ht)
 have hlv:(s.ths.length == s.ths.length && s.ths.length != 0)=true:=by
  rw[Bool.and_eq_true]
  exact ⟨beq_self_eq_true _,by simp only[bne_iff_ne];omega⟩
 simp +decide only[go_sem,nT,nA,nS,nM,nB,reduceIte,reduceCtorEq,hx,hc2]
 refine zJ 3 (zYl p s t hp hs hb) (by simp only[go_sem]) (by simp only[go_sem]) ?_
 cases ha:atS p s (t:Int) with
 | none =>
  have e:zQ p s ⟨t,false⟩=(s,false):=by
   unfold zQ
   rw[if_neg (fun h=>h ⟨Int.natCast_nonneg t,Int.ofNat_lt.2 ht⟩),if_neg (by simp)]
   simp only[ha]
  rw[e,zEa ha]
  simp +decide only[go_sem,nT,nA,nS,nM,nB,reduceIte,reduceCtorEq,hx,hc2]
  refine GQ.done ?_
  simp +decide only[go_sem,nT,nA,nS,nM,nB,reduceIte,reduceCtorEq,hx,hc2]
 | some x =>
  obtain ⟨l,c1,c2,hpt,_,hT,hz,hR,hlt⟩:=zE9 hp hs ha
  rw[Int.toNat_natCast] at hpt
  rw[htA] at hT hz hR hlt
  rw[zFk ha,htA]
  simp only[zEk]
  have hW:zQ p s ⟨t,false⟩=if y.buf≠[]∧(x.op=6∨x.op=5) then (s,false)
    else if x.op=2 then (zA6 s t s.mem { (zG x s.mem y).2 with regs:=setI y.regs x.reg (zHI y.buf s.mem x.loc).1 },true)
    else if x.op=3 then (zA6 s t s.mem { (zG x s.mem y).2 with buf:=y.buf++[(x.loc,getI y.regs x.reg)] },true)
    else if x.op=4 then (zA6 s t s.mem { (zG x s.mem y).2 with buf:=y.buf++[(x.loc,x.n)] },true)
    else (zA6 s t (zG x s.mem y).1 (zG x s.mem y).2,true):=by
   unfold zQ
   rw[if_neg (fun h=>h ⟨Int.natCast_nonneg t,Int.ofNat_lt.2 ht⟩),if_neg (by simp)]
   simp only[ha,htA]
  rw[hW]
  simp only[zEk]
  have hm' : (zG x s.mem y).1.length=s.mem.length:=zDH
  have hbz:(zG x s.mem y).2.buf=y.buf:=zBe
  have hrz:(zG x s.mem y).2.regs.length=y.regs.length:=zDb
  obtain ⟨k,hk⟩:∃k:Nat,y.pc=k:=⟨y.pc.toNat,by have:=hT.pc;omega⟩
  rw[hk,Int.toNat_natCast] at hz
  have hkl:k<l.length:=by omega
  have hc3:((t:Int)<(p.thr.length:Int))=True:=by have:=hs.ths;rw[zR];simp;omega
  have hc4:((k:Int)<(l.length:Int))=True:=by rw[zR];simp[hkl]
  have hst2:∀(z:Thd) X,((zX (s.ths.set t z)).set t X)[t]?=some X:=fun z=>zC5 (by rw[zAQ,List.length_set];exact ht)
  have hx2:∀z:Thd,(s.ths.set t z)[t]?=some z:=fun z=>by simp[ht]
  have hj2:x.op=2→(zG x s.mem y).1=s.mem∧(zG x s.mem y).2.regs=setI y.regs x.reg (getI s.mem x.loc):=fun h=>by simp[zG,h]
  generalize zG x s.mem y=z at hm' hbz hrz hj2⊢
  obtain ⟨m',z⟩:=z
  simp only at hm' hbz hrz hj2⊢
  have r1:(0≤x.reg)=True:=by simp only[eq_iff_iff,iff_true];exact hR.reg.1
  have r2:(x.reg<(z.regs.length:Int))=True:=by have:=hR.reg.2.1;have:=hT.regs;simp only[eq_iff_iff,iff_true];omega
  have r2y:(x.reg<(y.regs.length:Int))=True:=by have:=hR.reg.2.1;have:=hT.regs;simp only[eq_iff_iff,iff_true];omega
  have r3:y.regs[x.reg.toNat]?=some (getI y.regs x.reg):=by
   have:x.reg.toNat<y.regs.length:=by have:=hR.reg;have:=hT.regs;omega
   unfold getI;rw[List.getElem?_eq_getElem this];rfl
  have r4:z.regs[x.reg.toNat]?=some (z.regs[x.reg.toNat]'(by have:=hR.reg;have:=hT.regs;omega)):=List.getElem?_eq_getElem _
  have hop:x.op=1∨x.op=2∨x.op=3∨x.op=4∨x.op=5∨x.op=6∨x.op=7∨x.op=8∨x.op=9∨x.op=10:=by have:=hR.op;omega
  by_cases hbe:y.buf=[]
  ·have b0:((0:Int)<(y.buf.length:Int))=False:=by rw[hbe];simp
   rw[if_neg (fun h=>h.1 hbe)]
   rcases hop with h | h | h | h | h | h | h | h | h | h
   ·rw[if_neg (by omega),if_neg (by omega),if_neg (by omega)]
    simp +decide only[go_sem,nT,nA,nS,nM,nB,reduceIte,reduceCtorEq,hx,hc2,hm',hlv,hx2,hst2,List.length_set,hpt,hc3,hk,hc4,hz,h,List.map_set,List.set_set,b0]
    refine HW.mixed 100 10 (6,0) [9] follows (by kernel_rfl) (by decide) ?_
    simp +decide only[go_sem,nT,nA,nS,nM,nB,reduceIte,reduceCtorEq,hx,hc2,hm',hlv,hx2,hst2,List.length_set,hpt,hc3,hk,hc4,hz,h,List.map_set,List.set_set,b0]
    refine GQ.done ?_
    simp +decide only[go_sem,nT,nA,nS,nM,nB,reduceIte,reduceCtorEq,hx,hc2,hm',hlv,hx2,hst2,List.length_set,hpt,hc3,hk,hc4,hz,h,List.map_set,List.set_set,b0]
   ·rw[if_pos h]
    obtain ⟨e1,e2⟩:=hj2 h
    simp +decide only[go_sem,nT,nA,nS,nM,nB,reduceIte,reduceCtorEq,hx,hc2,hm',hlv,hx2,hst2,List.length_set,hpt,hc3,hk,hc4,hz,h,List.map_set,List.set_set,b0]
    refine HW.mixed 100 10 (6,0) [9] follows (by kernel_rfl) (by decide) ?_
    simp +decide only[go_sem,nT,nA,nS,nM,nB,reduceIte,reduceCtorEq,hx,hc2,hm',hlv,hx2,hst2,List.length_set,hpt,hc3,hk,hc4,hz,h,List.map_set,List.set_set,b0]
    refine HW.ghost (Ghost.open 5 t 1) ?_
    simp +decide only[go_sem,nT,nA,nS,nM,nB,reduceIte,reduceCtorEq,hx,hc2,hm',hlv,hx2,hst2,List.length_set,hpt,hc3,hk,hc4,hz,h,List.map_set,List.set_set,b0]
    refine HW.mixed 120 18 (4,10) [17,2017,1000,1001,1002,1003,1004,1005,1006,1007,1008,1009,1010,1011,1016] follows (by kernel_rfl) (by decide) ?_
    simp +decide only[go_sem,nT,nA,nS,nM,nB,reduceIte,reduceCtorEq,hx,hc2,hm',hlv,hx2,hst2,List.length_set,hpt,hc3,hk,hc4,hz,h,List.map_set,List.set_set,b0,r1,r2,r4]
    refine zCg (zUu y.buf s.mem x.loc (by omega)) rfl rfl ?_
    simp +decide only[go_sem,nT,nA,nS,nM,nB,reduceIte,reduceCtorEq,hx,hc2,hm',hlv,hx2,hst2,List.length_set,hpt,hc3,hk,hc4,hz,h,List.map_set,List.set_set,b0,r1,r2,r4]
    refine GQ.step (Ghost.absorb 5 t 1) ?_
    simp +decide only[go_sem,nT,nA,nS,nM,nB,reduceIte,reduceCtorEq,hx,hc2,hm',hlv,hx2,hst2,List.length_set,hpt,hc3,hk,hc4,hz,h,List.map_set,List.set_set,b0,r1,r2,r4]
    refine GQ.done ?_
    simp +decide only[go_sem,nT,nA,nS,nM,nB,reduceIte,reduceCtorEq,hx,hc2,hm',hlv,hx2,hst2,List.length_set,hpt,hc3,hk,hc4,hz,h,List.map_set,List.set_set,b0,r1,r2,r4]
    rw[e1,e2]
    simp only[setI,List.set_set]
   ·rw[if_neg (by omega),if_pos h]
    simp +decide only[go_sem,nT,nA,nS,nM,nB,reduceIte,reduceCtorEq,hx,hc2,hm',hlv,hx2,hst2,List.length_set,hpt,hc3,hk,hc4,hz,h,List.map_set,List.set_set,b0]
    refine HW.mixed 100 10 (6,0) [9] follows (by kernel_rfl) (by decide) ?_
    simp +decide only[go_sem,nT,nA,nS,nM,nB,reduceIte,reduceCtorEq,hx,hc2,hm',hlv,hx2,hst2,List.length_set,hpt,hc3,hk,hc4,hz,h,List.map_set,List.set_set,b0]
    refine HW.mixed 120 9 (9,0) [] follows (by kernel_rfl) (by decide) ?_
    simp +decide only[go_sem,nT,nA,nS,nM,nB,reduceIte,reduceCtorEq,hx,hc2,hm',hlv,hx2,hst2,List.length_set,hpt,hc3,hk,hc4,hz,h,List.map_set,List.set_set,b0,r1,r2y,r3]
    refine ⟨_,zWc p s ⟨k,y.regs,y.eq,y.buf⟩ z ⟨3,x.reg,x.loc,x.n,x.to⟩ m' t x.loc (getI y.regs x.reg) ht hml hyb hm',?_⟩
    rintro r H' ⟨rfl,rfl⟩ -
    simp +decide only[go_sem,nT,nA,nS,nM,nB,reduceIte,reduceCtorEq,hx,hc2,hm',hlv,hx2,hst2,List.length_set,hpt,hc3,hk,hc4,hz,h,List.map_set,List.set_set,b0,r1,r2y,r3]
    refine GQ.done ?_
    simp +decide only[go_sem,nT,nA,nS,nM,nB,reduceIte,reduceCtorEq,hx,hc2,hm',hlv,hx2,hst2,List.length_set,hpt,hc3,hk,hc4,hz,h,List.map_set,List.set_set,b0,r1,r2y,r3]
   ·rw[if_neg (by omega),if_neg (by omega),if_pos h]
    simp +decide only[go_sem,nT,nA,nS,nM,nB,reduceIte,reduceCtorEq,hx,hc2,hm',hlv,hx2,hst2,List.length_set,hpt,hc3,hk,hc4,hz,h,List.map_set,List.set_set,b0]
    refine HW.mixed 100 10 (6,0) [9] follows (by kernel_rfl) (by decide) ?_
    simp +decide only[go_sem,nT,nA,nS,nM,nB,reduceIte,reduceCtorEq,hx,hc2,hm',hlv,hx2,hst2,List.length_set,hpt,hc3,hk,hc4,hz,h,List.map_set,List.set_set,b0]
    refine ⟨_,zWc p s ⟨k,y.regs,y.eq,y.buf⟩ z ⟨4,x.reg,x.loc,x.n,x.to⟩ m' t x.loc x.n ht hml hyb hm',?_⟩
    rintro r H' ⟨rfl,rfl⟩ -
    simp +decide only[go_sem,nT,nA,nS,nM,nB,reduceIte,reduceCtorEq,hx,hc2,hm',hlv,hx2,hst2,List.length_set,hpt,hc3,hk,hc4,hz,h,List.map_set,List.set_set,b0,r1,r2y,r3]
    refine GQ.done ?_
    simp +decide only[go_sem,nT,nA,nS,nM,nB,reduceIte,reduceCtorEq,hx,hc2,hm',hlv,hx2,hst2,List.length_set,hpt,hc3,hk,hc4,hz,h,List.map_set,List.set_set,b0,r1,r2y,r3]
   ·rw[if_neg (by omega),if_neg (by omega),if_neg (by omega)]
    simp +decide only[go_sem,nT,nA,nS,nM,nB,reduceIte,reduceCtorEq,hx,hc2,hm',hlv,hx2,hst2,List.length_set,hpt,hc3,hk,hc4,hz,h,List.map_set,List.set_set,b0]
    refine HW.mixed 100 10 (6,0) [9] follows (by kernel_rfl) (by decide) ?_
    simp +decide only[go_sem,nT,nA,nS,nM,nB,reduceIte,reduceCtorEq,hx,hc2,hm',hlv,hx2,hst2,List.length_set,hpt,hc3,hk,hc4,hz,h,List.map_set,List.set_set,b0]
    refine GQ.done ?_
    simp +decide only[go_sem,nT,nA,nS,nM,nB,reduceIte,reduceCtorEq,hx,hc2,hm',hlv,hx2,hst2,List.length_set,hpt,hc3,hk,hc4,hz,h,List.map_set,List.set_set,b0]
   ·rw[if_neg (by omega),if_neg (by omega),if_neg (by omega)]
    simp +decide only[go_sem,nT,nA,nS,nM,nB,reduceIte,reduceCtorEq,hx,hc2,hm',hlv,hx2,hst2,List.length_set,hpt,hc3,hk,hc4,hz,h,List.map_set,List.set_set,b0]
    refine HW.mixed 100 10 (6,0) [9] follows (by kernel_rfl) (by decide) ?_
    simp +decide only[go_sem,nT,nA,nS,nM,nB,reduceIte,reduceCtorEq,hx,hc2,hm',hlv,hx2,hst2,List.length_set,hpt,hc3,hk,hc4,hz,h,List.map_set,List.set_set,b0]
    refine GQ.done ?_
    simp +decide only[go_sem,nT,nA,nS,nM,nB,reduceIte,reduceCtorEq,hx,hc2,hm',hlv,hx2,hst2,List.length_set,hpt,hc3,hk,hc4,hz,h,List.map_set,List.set_set,b0]
   ·rw[if_neg (by omega),if_neg (by omega),if_neg (by omega)]
    simp +decide only[go_sem,nT,nA,nS,nM,nB,reduceIte,reduceCtorEq,hx,hc2,hm',hlv,hx2,hst2,List.length_set,hpt,hc3,hk,hc4,hz,h,List.map_set,List.set_set,b0]
    refine HW.mixed 100 10 (6,0) [9] follows (by kernel_rfl) (by decide) ?_
    simp +decide only[go_sem,nT,nA,nS,nM,nB,reduceIte,reduceCtorEq,hx,hc2,hm',hlv,hx2,hst2,List.length_set,hpt,hc3,hk,hc4,hz,h,List.map_set,List.set_set,b0]
    refine GQ.done ?_
    simp +decide only[go_sem,nT,nA,nS,nM,nB,reduceIte,reduceCtorEq,hx,hc2,hm',hlv,hx2,hst2,List.length_set,hpt,hc3,hk,hc4,hz,h,List.map_set,List.set_set,b0]
   ·rw[if_neg (by omega),if_neg (by omega),if_neg (by omega)]
    simp +decide only[go_sem,nT,nA,nS,nM,nB,reduceIte,reduceCtorEq,hx,hc2,hm',hlv,hx2,hst2,List.length_set,hpt,hc3,hk,hc4,hz,h,List.map_set,List.set_set,b0]
    refine HW.mixed 100 10 (6,0) [9] follows (by kernel_rfl) (by decide) ?_
    simp +decide only[go_sem,nT,nA,nS,nM,nB,reduceIte,reduceCtorEq,hx,hc2,hm',hlv,hx2,hst2,List.length_set,hpt,hc3,hk,hc4,hz,h,List.map_set,List.set_set,b0]
    refine GQ.done ?_
    simp +decide only[go_sem,nT,nA,nS,nM,nB,reduceIte,reduceCtorEq,hx,hc2,hm',hlv,hx2,hst2,List.length_set,hpt,hc3,hk,hc4,hz,h,List.map_set,List.set_set,b0]
   ·rw[if_neg (by omega),if_neg (by omega),if_neg (by omega)]
    simp +decide only[go_sem,nT,nA,nS,nM,nB,reduceIte,reduceCtorEq,hx,hc2,hm',hlv,hx2,hst2,List.length_set,hpt,hc3,hk,hc4,hz,h,List.map_set,List.set_set,b0]
    refine HW.mixed 100 10 (6,0) [9] follows (by kernel_rfl) (by decide) ?_
    simp +decide only[go_sem,nT,nA,nS,nM,nB,reduceIte,reduceCtorEq,hx,hc2,hm',hlv,hx2,hst2,List.length_set,hpt,hc3,hk,hc4,hz,h,List.map_set,List.set_set,b0]
    refine GQ.done ?_
    simp +decide only[go_sem,nT,nA,nS,nM,nB,reduceIte,reduceCtorEq,hx,hc2,hm',hlv,hx2,hst2,List.length_set,hpt,hc3,hk,hc4,hz,h,List.map_set,List.set_set,b0]
   ·rw[if_neg (by omega),if_neg (by omega),if_neg (by omega)]
    simp +decide only[go_sem,nT,nA,nS,nM,nB,reduceIte,reduceCtorEq,hx,hc2,hm',hlv,hx2,hst2,List.length_set,hpt,hc3,hk,hc4,hz,h,List.map_set,List.set_set,b0]
    refine HW.mixed 100 10 (6,0) [9] follows (by kernel_rfl) (by decide) ?_
    simp +decide only[go_sem,nT,nA,nS,nM,nB,reduceIte,reduceCtorEq,hx,hc2,hm',hlv,hx2,hst2,List.length_set,hpt,hc3,hk,hc4,hz,h,List.map_set,List.set_set,b0]
    refine GQ.done ?_
    simp +decide only[go_sem,nT,nA,nS,nM,nB,reduceIte,reduceCtorEq,hx,hc2,hm',hlv,hx2,hst2,List.length_set,hpt,hc3,hk,hc4,hz,h,List.map_set,List.set_set,b0]
  ·have b0:((0:Int)<(y.buf.length:Int))=True:=by
    have:=List.length_pos_iff.mpr hbe
    simp only[eq_iff_iff,iff_true];omega
   rcases hop with h | h | h | h | h | h | h | h | h | h
   ·rw[if_neg (fun h'=>by have:=h'.2;omega)]
    rw[if_neg (by omega),if_neg (by omega),if_neg (by omega)]
    simp +decide only[go_sem,nT,nA,nS,nM,nB,reduceIte,reduceCtorEq,hx,hc2,hm',hlv,hx2,hst2,List.length_set,hpt,hc3,hk,hc4,hz,h,List.map_set,List.set_set,b0]
    refine HW.mixed 100 10 (6,0) [9] follows (by kernel_rfl) (by decide) ?_
    simp +decide only[go_sem,nT,nA,nS,nM,nB,reduceIte,reduceCtorEq,hx,hc2,hm',hlv,hx2,hst2,List.length_set,hpt,hc3,hk,hc4,hz,h,List.map_set,List.set_set,b0]
    refine GQ.done ?_
    simp +decide only[go_sem,nT,nA,nS,nM,nB,reduceIte,reduceCtorEq,hx,hc2,hm',hlv,hx2,hst2,List.length_set,hpt,hc3,hk,hc4,hz,h,List.map_set,List.set_set,b0]
   ·rw[if_neg (fun h'=>by have:=h'.2;omega)]
    rw[if_pos h]
    obtain ⟨e1,e2⟩:=hj2 h
    simp +decide only[go_sem,nT,nA,nS,nM,nB,reduceIte,reduceCtorEq,hx,hc2,hm',hlv,hx2,hst2,List.length_set,hpt,hc3,hk,hc4,hz,h,List.map_set,List.set_set,b0]
    refine HW.mixed 100 10 (6,0) [9] follows (by kernel_rfl) (by decide) ?_
    simp +decide only[go_sem,nT,nA,nS,nM,nB,reduceIte,reduceCtorEq,hx,hc2,hm',hlv,hx2,hst2,List.length_set,hpt,hc3,hk,hc4,hz,h,List.map_set,List.set_set,b0]
    refine HW.ghost (Ghost.open 5 t 1) ?_
    simp +decide only[go_sem,nT,nA,nS,nM,nB,reduceIte,reduceCtorEq,hx,hc2,hm',hlv,hx2,hst2,List.length_set,hpt,hc3,hk,hc4,hz,h,List.map_set,List.set_set,b0]
    refine HW.mixed 120 18 (4,10) [17,2017,1000,1001,1002,1003,1004,1005,1006,1007,1008,1009,1010,1011,1016] follows (by kernel_rfl) (by decide) ?_
    simp +decide only[go_sem,nT,nA,nS,nM,nB,reduceIte,reduceCtorEq,hx,hc2,hm',hlv,hx2,hst2,List.length_set,hpt,hc3,hk,hc4,hz,h,List.map_set,List.set_set,b0,r1,r2,r4]
    refine zCg (zUu y.buf s.mem x.loc (by omega)) rfl rfl ?_
    simp +decide only[go_sem,nT,nA,nS,nM,nB,reduceIte,reduceCtorEq,hx,hc2,hm',hlv,hx2,hst2,List.length_set,hpt,hc3,hk,hc4,hz,h,List.map_set,List.set_set,b0,r1,r2,r4]
    refine GQ.step (Ghost.absorb 5 t 1) ?_
    simp +decide only[go_sem,nT,nA,nS,nM,nB,reduceIte,reduceCtorEq,hx,hc2,hm',hlv,hx2,hst2,List.length_set,hpt,hc3,hk,hc4,hz,h,List.map_set,List.set_set,b0,r1,r2,r4]
    refine GQ.done ?_
    simp +decide only[go_sem,nT,nA,nS,nM,nB,reduceIte,reduceCtorEq,hx,hc2,hm',hlv,hx2,hst2,List.length_set,hpt,hc3,hk,hc4,hz,h,List.map_set,List.set_set,b0,r1,r2,r4]
    rw[e1,e2]
    simp only[setI,List.set_set]
   ·rw[if_neg (fun h'=>by have:=h'.2;omega)]
    rw[if_neg (by omega),if_pos h]
    simp +decide only[go_sem,nT,nA,nS,nM,nB,reduceIte,reduceCtorEq,hx,hc2,hm',hlv,hx2,hst2,List.length_set,hpt,hc3,hk,hc4,hz,h,List.map_set,List.set_set,b0]
    refine HW.mixed 100 10 (6,0) [9] follows (by kernel_rfl) (by decide) ?_
    simp +decide only[go_sem,nT,nA,nS,nM,nB,reduceIte,reduceCtorEq,hx,hc2,hm',hlv,hx2,hst2,List.length_set,hpt,hc3,hk,hc4,hz,h,List.map_set,List.set_set,b0]
    refine HW.mixed 120 9 (9,0) [] follows (by kernel_rfl) (by decide) ?_
    simp +decide only[go_sem,nT,nA,nS,nM,nB,reduceIte,reduceCtorEq,hx,hc2,hm',hlv,hx2,hst2,List.length_set,hpt,hc3,hk,hc4,hz,h,List.map_set,List.set_set,b0,r1,r2y,r3]
    refine ⟨_,zWc p s ⟨k,y.regs,y.eq,y.buf⟩ z ⟨3,x.reg,x.loc,x.n,x.to⟩ m' t x.loc (getI y.regs x.reg) ht hml hyb hm',?_⟩
    rintro r H' ⟨rfl,rfl⟩ -
    simp +decide only[go_sem,nT,nA,nS,nM,nB,reduceIte,reduceCtorEq,hx,hc2,hm',hlv,hx2,hst2,List.length_set,hpt,hc3,hk,hc4,hz,h,List.map_set,List.set_set,b0,r1,r2y,r3]
    refine GQ.done ?_
    simp +decide only[go_sem,nT,nA,nS,nM,nB,reduceIte,reduceCtorEq,hx,hc2,hm',hlv,hx2,hst2,List.length_set,hpt,hc3,hk,hc4,hz,h,List.map_set,List.set_set,b0,r1,r2y,r3]
   ·rw[if_neg (fun h'=>by have:=h'.2;omega)]
    rw[if_neg (by omega),if_neg (by omega),if_pos h]
    simp +decide only[go_sem,nT,nA,nS,nM,nB,reduceIte,reduceCtorEq,hx,hc2,hm',hlv,hx2,hst2,List.length_set,hpt,hc3,hk,hc4,hz,h,List.map_set,List.set_set,b0]
    refine HW.mixed 100 10 (6,0) [9] follows (by kernel_rfl) (by decide) ?_
    simp +decide only[go_sem,nT,nA,nS,nM,nB,reduceIte,reduceCtorEq,hx,hc2,hm',hlv,hx2,hst2,List.length_set,hpt,hc3,hk,hc4,hz,h,List.map_set,List.set_set,b0]
    refine ⟨_,zWc p s ⟨k,y.regs,y.eq,y.buf⟩ z ⟨4,x.reg,x.loc,x.n,x.to⟩ m' t x.loc x.n ht hml hyb hm',?_⟩
    rintro r H' ⟨rfl,rfl⟩ -
    simp +decide only[go_sem,nT,nA,nS,nM,nB,reduceIte,reduceCtorEq,hx,hc2,hm',hlv,hx2,hst2,List.length_set,hpt,hc3,hk,hc4,hz,h,List.map_set,List.set_set,b0,r1,r2y,r3]
    refine GQ.done ?_
    simp +decide only[go_sem,nT,nA,nS,nM,nB,reduceIte,reduceCtorEq,hx,hc2,hm',hlv,hx2,hst2,List.length_set,hpt,hc3,hk,hc4,hz,h,List.map_set,List.set_set,b0,r1,r2y,r3]
   ·rw[if_pos ⟨hbe,by omega⟩]
    simp +decide only[go_sem,nT,nA,nS,nM,nB,reduceIte,reduceCtorEq,hx,hc2,hm',hlv,hx2,hst2,List.length_set,hpt,hc3,hk,hc4,hz,h,List.map_set,List.set_set,b0]
    refine HW.mixed 100 10 (6,0) [9] follows (by kernel_rfl) (by decide) ?_
    simp +decide only[go_sem,nT,nA,nS,nM,nB,reduceIte,reduceCtorEq,hx,hc2,hm',hlv,hx2,hst2,List.length_set,hpt,hc3,hk,hc4,hz,h,List.map_set,List.set_set,b0]
    refine zJ 3 (zJd s hml htl hrl) (by simp only[go_sem]) (by simp only[go_sem]) ?_
    simp +decide only[go_sem,nT,nA,nS,nM,nB,reduceIte,reduceCtorEq,hx,hc2,hm',hlv,hx2,hst2,List.length_set,hpt,hc3,hk,hc4,hz,h,List.map_set,List.set_set,b0]
    refine GQ.done ?_
    simp +decide only[go_sem,nT,nA,nS,nM,nB,reduceIte,reduceCtorEq,hx,hc2,hm',hlv,hx2,hst2,List.length_set,hpt,hc3,hk,hc4,hz,h,List.map_set,List.set_set,b0]
   ·rw[if_pos ⟨hbe,by omega⟩]
    simp +decide only[go_sem,nT,nA,nS,nM,nB,reduceIte,reduceCtorEq,hx,hc2,hm',hlv,hx2,hst2,List.length_set,hpt,hc3,hk,hc4,hz,h,List.map_set,List.set_set,b0]
    refine HW.mixed 100 10 (6,0) [9] follows (by kernel_rfl) (by decide) ?_
    simp +decide only[go_sem,nT,nA,nS,nM,nB,reduceIte,reduceCtorEq,hx,hc2,hm',hlv,hx2,hst2,List.length_set,hpt,hc3,hk,hc4,hz,h,List.map_set,List.set_set,b0]
    refine zJ 3 (zJd s hml htl hrl) (by simp only[go_sem]) (by simp only[go_sem]) ?_
    simp +decide only[go_sem,nT,nA,nS,nM,nB,reduceIte,reduceCtorEq,hx,hc2,hm',hlv,hx2,hst2,List.length_set,hpt,hc3,hk,hc4,hz,h,List.map_set,List.set_set,b0]
    refine GQ.done ?_
    simp +decide only[go_sem,nT,nA,nS,nM,nB,reduceIte,reduceCtorEq,hx,hc2,hm',hlv,hx2,hst2,List.length_set,hpt,hc3,hk,hc4,hz,h,List.map_set,List.set_set,b0]
   ·rw[if_neg (fun h'=>by have:=h'.2;omega)]
    rw[if_neg (by omega),if_neg (by omega),if_neg (by omega)]
    simp +decide only[go_sem,nT,nA,nS,nM,nB,reduceIte,reduceCtorEq,hx,hc2,hm',hlv,hx2,hst2,List.length_set,hpt,hc3,hk,hc4,hz,h,List.map_set,List.set_set,b0]
    refine HW.mixed 100 10 (6,0) [9] follows (by kernel_rfl) (by decide) ?_
    simp +decide only[go_sem,nT,nA,nS,nM,nB,reduceIte,reduceCtorEq,hx,hc2,hm',hlv,hx2,hst2,List.length_set,hpt,hc3,hk,hc4,hz,h,List.map_set,List.set_set,b0]
    refine GQ.done ?_
    simp +decide only[go_sem,nT,nA,nS,nM,nB,reduceIte,reduceCtorEq,hx,hc2,hm',hlv,hx2,hst2,List.length_set,hpt,hc3,hk,hc4,hz,h,List.map_set,List.set_set,b0]
   ·rw[if_neg (fun h'=>by have:=h'.2;omega)]
    rw[if_neg (by omega),if_neg (by omega),if_neg (by omega)]
    simp +decide only[go_sem,nT,nA,nS,nM,nB,reduceIte,reduceCtorEq,hx,hc2,hm',hlv,hx2,hst2,List.length_set,hpt,hc3,hk,hc4,hz,h,List.map_set,List.set_set,b0]
    refine HW.mixed 100 10 (6,0) [9] follows (by kernel_rfl) (by decide) ?_
    simp +decide only[go_sem,nT,nA,nS,nM,nB,reduceIte,reduceCtorEq,hx,hc2,hm',hlv,hx2,hst2,List.length_set,hpt,hc3,hk,hc4,hz,h,List.map_set,List.set_set,b0]
    refine GQ.done ?_
    simp +decide only[go_sem,nT,nA,nS,nM,nB,reduceIte,reduceCtorEq,hx,hc2,hm',hlv,hx2,hst2,List.length_set,hpt,hc3,hk,hc4,hz,h,List.map_set,List.set_set,b0]
   ·rw[if_neg (fun h'=>by have:=h'.2;omega)]
    rw[if_neg (by omega),if_neg (by omega),if_neg (by omega)]
    simp +decide only[go_sem,nT,nA,nS,nM,nB,reduceIte,reduceCtorEq,hx,hc2,hm',hlv,hx2,hst2,List.length_set,hpt,hc3,hk,hc4,hz,h,List.map_set,List.set_set,b0]
    refine HW.mixed 100 10 (6,0) [9] follows (by kernel_rfl) (by decide) ?_
    simp +decide only[go_sem,nT,nA,nS,nM,nB,reduceIte,reduceCtorEq,hx,hc2,hm',hlv,hx2,hst2,List.length_set,hpt,hc3,hk,hc4,hz,h,List.map_set,List.set_set,b0]
    refine GQ.done ?_
    simp +decide only[go_sem,nT,nA,nS,nM,nB,reduceIte,reduceCtorEq,hx,hc2,hm',hlv,hx2,hst2,List.length_set,hpt,hc3,hk,hc4,hz,h,List.map_set,List.set_set,b0]
   ·rw[if_neg (fun h'=>by have:=h'.2;omega)]
    rw[if_neg (by omega),if_neg (by omega),if_neg (by omega)]
    simp +decide only[go_sem,nT,nA,nS,nM,nB,reduceIte,reduceCtorEq,hx,hc2,hm',hlv,hx2,hst2,List.length_set,hpt,hc3,hk,hc4,hz,h,List.map_set,List.set_set,b0]
    refine HW.mixed 100 10 (6,0) [9] follows (by kernel_rfl) (by decide) ?_
    simp +decide only[go_sem,nT,nA,nS,nM,nB,reduceIte,reduceCtorEq,hx,hc2,hm',hlv,hx2,hst2,List.length_set,hpt,hc3,hk,hc4,hz,h,List.map_set,List.set_set,b0]
    refine GQ.done ?_
    simp +decide only[go_sem,nT,nA,nS,nM,nB,reduceIte,reduceCtorEq,hx,hc2,hm',hlv,hx2,hst2,List.length_set,hpt,hc3,hk,hc4,hz,h,List.map_set,List.set_set,b0]
end Go.Proofs.YtoknohandclcbaaGreat
namespace Go.Proofs.YtoknohandclcbaaGreat
open Go.RowKit
set_option maxRecDepth 8000
set_option maxHeartbeats 4000000 in
theorem zRZ (p:Prg) (s:Sta) (k:Pck) (hp:RightP p) (hs:RightS p s) (hb:∀t∈s.ths,t.buf.length≤100000):HFn Tryz.prog 94 [prgH p,staH s,pckH k] (.tu [staO (zQ p s k).1,.v (.bool (zQ p s k).2)]):=by
 refine zV (fn:=Tryz.f94) 38 [.cell 6 79,.tmp 7] (by kernel_rfl) rfl rfl (by kernel_rfl) (HW.weaken (Q':=fun e=>GQ _ _ (endC _ _ _ _ e)) (HW.run 400 (by kernel_rfl) ?_) (fun _ _ _ h=>h))
 obtain ⟨th,dr⟩:=k
 have hml:s.mem.length≤100000:=by have:=hs.mem;have:=hp.init;omega
 have htl:s.ths.length≤1000:=by have:=hs.ths;have:=hp.thr;omega
 have hrl:∀t∈s.ths,t.regs.length≤100000∧t.buf.length≤100000:=fun t ht=>by
  obtain ⟨i,hi⟩:=List.getElem?_of_mem ht
  have hlt:=(List.getElem?_eq_some_iff.1 hi).1
  have:=(hs.t i _ t (List.getElem?_eq_getElem (show i<p.thr.length by rw[←hs.ths];exact hlt)) hi).regs
  exact ⟨by omega,hb t ht⟩
 by_cases c1:0≤th
 case neg =>
  have c1' : (th<0)=True:=by simp only[eq_iff_iff,iff_true];omega
  have e:zQ p s ⟨th,dr⟩=(s,false):=if_pos (fun h=>c1 h.1)
  rw[e]
  simp +decide only[go_sem,nT,nA,nS,nM,nB,reduceIte,reduceCtorEq,c1']
  refine zJ 3 (zJd s hml htl hrl) (by simp only[go_sem]) (by simp only[go_sem]) ?_
  simp +decide only[go_sem,nT,nA,nS,nM,nB,reduceIte,reduceCtorEq,c1']
  refine GQ.done ?_
  simp +decide only[go_sem,nT,nA,nS,nM,nB,reduceIte,reduceCtorEq]
 have c1' : (th<0)=False:=by simp only[eq_iff_iff,iff_false];omega
 by_cases c2:th<s.ths.length
 case neg =>
  have c2' : ((s.ths.length:Int)≤th)=True:=by simp only[eq_iff_iff,iff_true];omega
  have e:zQ p s ⟨th,dr⟩=(s,false):=if_pos (fun h=>c2 h.2)
  rw[e]
  simp +decide only[go_sem,nT,nA,nS,nM,nB,reduceIte,reduceCtorEq,c1',c2']
  refine zJ 3 (zJd s hml htl hrl) (by simp only[go_sem]) (by simp only[go_sem]) ?_
  simp +decide only[go_sem,nT,nA,nS,nM,nB,reduceIte,reduceCtorEq,c1',c2']
  refine GQ.done ?_
  simp +decide only[go_sem,nT,nA,nS,nM,nB,reduceIte,reduceCtorEq]
 have c2' : ((s.ths.length:Int)≤th)=False:=by simp only[eq_iff_iff,iff_false];omega
 obtain ⟨t,rfl⟩:∃t:Nat,th=t:=⟨th.toNat,by omega⟩
 have ht:t<s.ths.length:=by omega
 have hx:s.ths[t]?=some s.ths[t]:=List.getElem?_eq_getElem ht
 have htA:thAt s (t:Int)=s.ths[t]:=by unfold thAt;rw[Int.toNat_natCast,hx];rfl
 cases dr with
 | true =>
  have e:zQ p s ⟨t,true⟩=if (zAI (s.ths[t]).buf s.mem).2.2=true then (zA6 s t (zAI (s.ths[t]).buf s.mem).2.1 { s.ths[t] with buf:=(zAI (s.ths[t]).buf s.mem).1 },true) else (s,false):=by
   unfold zQ
   rw[if_neg (fun h=>h ⟨c1,c2⟩),if_pos rfl,htA]
  rw[e]
  have hD:=zV4 s t _ hx hml htl hrl
  generalize s.ths[t]=y at hx hD⊢
  simp +decide only[go_sem,nT,nA,nS,nM,nB,reduceIte,reduceCtorEq,c1',c2']
  cases hd:(zAI y.buf s.mem).2.2 with
  | true =>
   rw[hd,if_pos rfl] at hD
   refine zJ 3 (hD) (by simp only[go_sem]) (by simp only[go_sem]) ?_
   rw[if_pos rfl]
   simp +decide only[go_sem,nT,nA,nS,nM,nB,reduceIte,reduceCtorEq,c1',c2']
   refine GQ.done ?_
   simp +decide only[go_sem,nT,nA,nS,nM,nB,reduceIte,reduceCtorEq]
  | false =>
   rw[hd,if_neg (by simp)] at hD
   refine zJ 3 (hD) (by simp only[go_sem]) (by simp only[go_sem]) ?_
   rw[if_neg (by simp)]
   simp +decide only[go_sem,nT,nA,nS,nM,nB,reduceIte,reduceCtorEq,c1',c2']
   refine GQ.done ?_
   simp +decide only[go_sem,nT,nA,nS,nM,nB,reduceIte,reduceCtorEq]
 | false =>
  simp +decide only[go_sem,nT,nA,nS,nM,nB,reduceIte,reduceCtorEq,c1',c2']
  refine zJ 3 (zZI p s t _ hx hp hs hb) (by simp only[go_sem]) (by simp only[go_sem]) ?_
  simp +decide only[go_sem,nT,nA,nS,nM,nB,reduceIte,reduceCtorEq,c1',c2']
  refine GQ.done ?_
  simp +decide only[go_sem,nT,nA,nS,nM,nB,reduceIte,reduceCtorEq]
end Go.Proofs.YtoknohandclcbaaGreat
