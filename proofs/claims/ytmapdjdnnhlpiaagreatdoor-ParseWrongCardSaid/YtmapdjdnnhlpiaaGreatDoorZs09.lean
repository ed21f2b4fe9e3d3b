/- Parts of the proof: Mc, HiDa, HiDb, HiMp, HiMq, HiMs, Na, Nb, HiZb. -/
import Derived.Test.YtmapdjdnnhlpiaaGreatDoorZs08
import Derived.Test.YtmapdjdnnhlpiaaGreatDoorZs05
import Derived.Test.YtmapdjdnnhlpiaaGreatDoorZs04
set_option linter.unusedSectionVars false
set_option linter.unusedVariables false
set_option linter.unusedSimpArgs false
namespace Go.Proofs.YtmapdjdnnhlpiaaGreatDoor
open Go.RowKit
set_option maxRecDepth 8000
structure LT where
 op:Int
 rg:List UInt8
 loc:List UInt8
 lab:List UInt8
 n:Int
 deriving DecidableEq
abbrev lineT (l:LT):HV:=lineV l.op l.rg l.loc l.lab l.n
def LT.right (l:LT):Bool:=rightB l.op l.rg l.loc l.lab l.n
def zeroL:LT:=⟨0,[],[],[],0⟩
def moveB (a b:List UInt8):LT :=
 if insB a≠[] then (if (numB b).2=true then ⟨4,[],insB a,[],(numB b).1⟩ else ⟨3,b,insB a,[],0⟩)
 else if (numB b).2=true then ⟨1,a,[],[],(numB b).1⟩ else ⟨2,a,insB b,[],0⟩
def guessB:List (List UInt8)→LT
 | [k]=>if sufB k [58]=true then ⟨11,[],[],k.take (k.length-1),0⟩ else if k=mfenceB then ⟨6,[],[],[],0⟩ else zeroL
 | [k,l]=>if k=jmpB then ⟨8,[],[],l,0⟩ else if k=jeB then ⟨9,[],[],l,0⟩ else if k=jneB then ⟨10,[],[],l,0⟩ else zeroL
 | [k,a,b]=>if k=movB then moveB a b else if k=xchgB then ⟨5,b,insB a,[],0⟩ else if k=cmpB then (if (numB b).2=true then ⟨7,a,[],[],(numB b).1⟩ else zeroL) else zeroL
 | _=>zeroL
def getB (w:List (List UInt8)):LT×Bool:=if w≠[]∧(guessB w).right=true then (guessB w,true) else (zeroL,false)
set_option maxHeartbeats 2000000 in
theorem movePr (a b:List UInt8) (ha:a.length≤1000000) (hb:b.length≤1000000):HFn Tryz.prog 91 [.v (str a),.v (str b)] (lineT (moveB a b)):=by
 refine HCalls_bodyC (fn:=Tryz.f91) 41 [.cell 4 50] (by kernel_rfl) rfl rfl (by kernel_rfl) (HW.run 400 (by kernel_rfl) ?_)
 simp (config:={ decide:=true }) only[go_sem,Int.reduceToNat,Nat.reduceAdd,Nat.reduceSub,Nat.reduceMul,Nat.reduceBEq,reduceIte,reduceCtorEq]
 refine callX_fn 3 (numGet b hb) (by simp only[go_sem]) rfl ?_
 simp (config:={ decide:=true }) only[go_sem,Int.reduceToNat,Nat.reduceAdd,Nat.reduceSub,Nat.reduceMul,Nat.reduceBEq,reduceIte,reduceCtorEq]
 refine callX_fn 3 (within a ha) (by simp only[go_sem]) rfl ?_
 simp (config:={ decide:=true }) only[go_sem,Int.reduceToNat,Nat.reduceAdd,Nat.reduceSub,Nat.reduceMul,Nat.reduceBEq,reduceIte,reduceCtorEq]
 refine callX_fn 3 (within b hb) (by simp only[go_sem]) rfl ?_
 unfold moveB
 cases hn:(numB b).2 with
 | true =>
  by_cases hi:insB a=[]
  ·simp (config:={ decide:=true }) only[go_sem,Int.reduceToNat,Nat.reduceAdd,Nat.reduceSub,Nat.reduceMul,Nat.reduceBEq,reduceIte,reduceCtorEq,hi]
  ·simp (config:={ decide:=true }) only[go_sem,Int.reduceToNat,Nat.reduceAdd,Nat.reduceSub,Nat.reduceMul,Nat.reduceBEq,reduceIte,reduceCtorEq,hi]
   simp[hi]
 | false =>
  by_cases hi:insB a=[]
  ·simp (config:={ decide:=true }) only[go_sem,Int.reduceToNat,Nat.reduceAdd,Nat.reduceSub,Nat.reduceMul,Nat.reduceBEq,reduceIte,reduceCtorEq,hi]
  ·simp (config:={ decide:=true }) only[go_sem,Int.reduceToNat,Nat.reduceAdd,Nat.reduceSub,Nat.reduceMul,Nat.reduceBEq,reduceIte,reduceCtorEq,hi]
   simp[hi]
theorem strs1 {a:List UInt8}:strs [a]=[[.v (str a)]]:=rfl
theorem strs2 {a b:List UInt8}:strs [a,b]=[[.v (str a)],[.v (str b)]]:=rfl
theorem strs3 {a b c:List UInt8}:strs [a,b,c]=[[.v (str a)],[.v (str b)],[.v (str c)]]:=rfl
set_option maxHeartbeats 4000000 in
theorem guessPr (w:List (List UInt8)) (hw:w≠[]) (hl:∀s∈w,s.length≤1000000) (hn:w.length≤1000000):HFn Tryz.prog 73 [.sl (strs w)] (lineT (guessB w)):=by
 match w,hw with
 | [k],_ =>
  rw[strs1]
  refine HCalls_bodyC (fn:=Tryz.f73) 85 [.cell 2 50] (by kernel_rfl) rfl rfl (by kernel_rfl) (HW.run 400 (by kernel_rfl) ?_)
  simp (config:={ decide:=true }) only[go_sem,Int.reduceToNat,Nat.reduceAdd,Nat.reduceSub,Nat.reduceMul,Nat.reduceBEq,reduceIte,reduceCtorEq]
  refine callX_fn 3 (cutSuffix k [58] (hl k (by simp))) (by simp only[go_sem]) rfl ?_
  simp only[guessB]
  cases hs:sufB k [58] with
  | true =>
   simp (config:={ decide:=true }) only[go_sem,Int.reduceToNat,Nat.reduceAdd,Nat.reduceSub,Nat.reduceMul,Nat.reduceBEq,reduceIte,reduceCtorEq]
  | false =>
   by_cases hm:k=mfenceB
   ·have hm' : (k=[109,102,101,110,99,101])=True:=by simp only[eq_iff_iff,iff_true];exact hm
    simp (config:={ decide:=true }) only[go_sem,Int.reduceToNat,Nat.reduceAdd,Nat.reduceSub,Nat.reduceMul,Nat.reduceBEq,reduceIte,reduceCtorEq,hm']
    simp[hm]
   ·have hm' : (k=[109,102,101,110,99,101])=False:=by simp only[eq_iff_iff,iff_false];exact hm
    simp (config:={ decide:=true }) only[go_sem,Int.reduceToNat,Nat.reduceAdd,Nat.reduceSub,Nat.reduceMul,Nat.reduceBEq,reduceIte,reduceCtorEq,hm']
    simp[hm,zeroL]
 | [k,l],_ =>
  rw[strs2]
  refine HCalls_bodyC (fn:=Tryz.f73) 85 [.cell 2 50] (by kernel_rfl) rfl rfl (by kernel_rfl) (HW.run 400 (by kernel_rfl) ?_)
  simp only[guessB]
  by_cases h1:k=jmpB
  ·subst h1
   simp (config:={ decide:=true }) only[go_sem,Int.reduceToNat,Nat.reduceAdd,Nat.reduceSub,Nat.reduceMul,Nat.reduceBEq,reduceIte,reduceCtorEq,jmpB]
  have e1:(k=[106,109,112])=False:=by simp only[eq_iff_iff,iff_false];exact h1
  by_cases h2:k=jeB
  ·subst h2
   simp (config:={ decide:=true }) only[go_sem,Int.reduceToNat,Nat.reduceAdd,Nat.reduceSub,Nat.reduceMul,Nat.reduceBEq,reduceIte,reduceCtorEq,jeB]
  have e2:(k=[106,101])=False:=by simp only[eq_iff_iff,iff_false];exact h2
  by_cases h3:k=jneB
  ·subst h3
   simp (config:={ decide:=true }) only[go_sem,Int.reduceToNat,Nat.reduceAdd,Nat.reduceSub,Nat.reduceMul,Nat.reduceBEq,reduceIte,reduceCtorEq,jneB]
  have e3:(k=[106,110,101])=False:=by simp only[eq_iff_iff,iff_false];exact h3
  simp (config:={ decide:=true }) only[go_sem,Int.reduceToNat,Nat.reduceAdd,Nat.reduceSub,Nat.reduceMul,Nat.reduceBEq,reduceIte,reduceCtorEq,e1,e2,e3]
  simp[h1,h2,h3,zeroL]
 | [k,a,b],_ =>
  have ha:=hl a (by simp)
  have hb:=hl b (by simp)
  rw[strs3]
  refine HCalls_bodyC (fn:=Tryz.f73) 85 [.cell 2 50] (by kernel_rfl) rfl rfl (by kernel_rfl) (HW.run 400 (by kernel_rfl) ?_)
  simp only[guessB]
  by_cases h1:k=movB
  ·subst h1
   simp (config:={ decide:=true }) only[go_sem,Int.reduceToNat,Nat.reduceAdd,Nat.reduceSub,Nat.reduceMul,Nat.reduceBEq,reduceIte,reduceCtorEq,movB]
   refine HW.anyOrder 80 7 follows (by kernel_rfl) ?_
   simp (config:={ decide:=true }) only[go_sem,Int.reduceToNat,Nat.reduceAdd,Nat.reduceSub,Nat.reduceMul,Nat.reduceBEq,reduceIte,reduceCtorEq]
   refine callQ_fn 3 (movePr a b ha hb) (by simp only[go_sem]) rfl rfl ?_
   simp (config:={ decide:=true }) only[go_sem,Int.reduceToNat,Nat.reduceAdd,Nat.reduceSub,Nat.reduceMul,Nat.reduceBEq,reduceIte,reduceCtorEq]
  have e1:(k=[109,111,118])=False:=by simp only[eq_iff_iff,iff_false];exact h1
  by_cases h2:k=xchgB
  ·subst h2
   simp (config:={ decide:=true }) only[go_sem,Int.reduceToNat,Nat.reduceAdd,Nat.reduceSub,Nat.reduceMul,Nat.reduceBEq,reduceIte,reduceCtorEq,xchgB]
   refine HW.anyOrder 80 8 follows (by kernel_rfl) ?_
   simp (config:={ decide:=true }) only[go_sem,Int.reduceToNat,Nat.reduceAdd,Nat.reduceSub,Nat.reduceMul,Nat.reduceBEq,reduceIte,reduceCtorEq]
   refine callQ_fn 3 (within a ha) (by simp only[go_sem]) rfl rfl ?_
   simp (config:={ decide:=true }) only[go_sem,Int.reduceToNat,Nat.reduceAdd,Nat.reduceSub,Nat.reduceMul,Nat.reduceBEq,reduceIte,reduceCtorEq]
  have e2:(k=[120,99,104,103])=False:=by simp only[eq_iff_iff,iff_false];exact h2
  by_cases h3:k=cmpB
  ·have e3:(k=[99,109,112])=True:=by simp only[eq_iff_iff,iff_true];exact h3
   simp (config:={ decide:=true }) only[go_sem,Int.reduceToNat,Nat.reduceAdd,Nat.reduceSub,Nat.reduceMul,Nat.reduceBEq,reduceIte,reduceCtorEq,e1,e2,e3]
   refine callX_fn 3 (numGet b hb) (by simp only[go_sem]) rfl ?_
   cases hn:(numB b).2 with
   | true=>simp (config:={ decide:=true }) only[go_sem,Int.reduceToNat,Nat.reduceAdd,Nat.reduceSub,Nat.reduceMul,Nat.reduceBEq,reduceIte,reduceCtorEq];rw[if_neg h1,if_neg h2,if_pos h3]
   | false=>simp (config:={ decide:=true }) only[go_sem,Int.reduceToNat,Nat.reduceAdd,Nat.reduceSub,Nat.reduceMul,Nat.reduceBEq,reduceIte,reduceCtorEq];rw[if_neg h1,if_neg h2,if_pos h3];rfl
  have e3:(k=[99,109,112])=False:=by simp only[eq_iff_iff,iff_false];exact h3
  simp (config:={ decide:=true }) only[go_sem,Int.reduceToNat,Nat.reduceAdd,Nat.reduceSub,Nat.reduceMul,Nat.reduceBEq,reduceIte,reduceCtorEq,e1,e2,e3]
  simp[h1,h2,h3,zeroL]
 | k::a::b::c::r,_ =>
  have hz:guessB (k::a::b::c::r)=zeroL:=rfl
  rw[hz]
  have l1:((strs (k::a::b::c::r)).length:Int)=(r.length:Int)+4:=by simp[strs];omega
  have l1' : (strs (k::a::b::c::r)).length=r.length+4:=by simp[strs]
  have g0:(strs (k::a::b::c::r))[0]?=some [.v (str k)]:=rfl
  have hu:RowsLen (strs (k::a::b::c::r)) 1=True:=by simp only[eq_iff_iff,iff_true];exact of_eq_true strs_rowsLen
  refine HCalls_bodyC (fn:=Tryz.f73) 85 [.cell 2 50] (by kernel_rfl) rfl rfl (by kernel_rfl) (HW.run 400 (by kernel_rfl) ?_)
  generalize strs (k::a::b::c::r)=rows at l1 l1' g0 hu⊢
  have c1:((rows.length:Int)=1)=False:=by simp only[eq_iff_iff,iff_false];omega
  have c2:((rows.length:Int)=2)=False:=by simp only[eq_iff_iff,iff_false];omega
  have c3:((rows.length:Int)=3)=False:=by simp only[eq_iff_iff,iff_false];omega
  have c4:((0:Int)<(rows.length:Int))=True:=by simp only[eq_iff_iff,iff_true];omega
  simp (config:={ decide:=true }) only[go_sem,Int.reduceToNat,Nat.reduceAdd,Nat.reduceSub,Nat.reduceMul,Nat.reduceBEq,reduceIte,reduceCtorEq,c1,c2,c3,c4,g0,hu]
  rfl
set_option maxHeartbeats 2000000 in
theorem opsGet (w:List (List UInt8)) (hl:∀s∈w,s.length≤1000000) (hn:w.length≤1000000):HFn Tryz.prog 56 [.sl (strs w)] (.tu [lineT (getB w).1,.v (.bool (getB w).2)]):=by
 refine HCalls_bodyC (fn:=Tryz.f56) 15 [.cell 2 50,.tmp 3] (by kernel_rfl) rfl rfl (by kernel_rfl) (HW.run 400 (by kernel_rfl) ?_)
 by_cases hw:w=[]
 ·subst hw
  have e0:strs []=[]:=rfl
  simp (config:={ decide:=true }) only[go_sem,Int.reduceToNat,Nat.reduceAdd,Nat.reduceSub,Nat.reduceMul,Nat.reduceBEq,reduceIte,reduceCtorEq,e0]
  rfl
 ·have hlen:((w.length:Nat):Int)≠0:=by
   cases w with
   | nil=>exact absurd rfl hw
   | cons x r=>simp;omega
  have hlen' : (((w.length:Nat):Int)=0)=False:=by simp only[eq_iff_iff,iff_false];exact hlen
  simp (config:={ decide:=true }) only[go_sem,Int.reduceToNat,Nat.reduceAdd,Nat.reduceSub,Nat.reduceMul,Nat.reduceBEq,reduceIte,reduceCtorEq,hlen']
  refine callX_fn 3 (guessPr w hw hl hn) (by simp only[go_sem]) rfl ?_
  simp (config:={ decide:=true }) only[go_sem,Int.reduceToNat,Nat.reduceAdd,Nat.reduceSub,Nat.reduceMul,Nat.reduceBEq,reduceIte,reduceCtorEq]
  refine callX_fn 3 (opsRight (guessB w).op (guessB w).rg (guessB w).loc (guessB w).lab (guessB w).n) (by simp only[go_sem]) rfl ?_
  unfold getB
  have hr:(guessB w).right=rightB (guessB w).op (guessB w).rg (guessB w).loc (guessB w).lab (guessB w).n:=rfl
  cases hc:rightB (guessB w).op (guessB w).rg (guessB w).loc (guessB w).lab (guessB w).n with
  | true =>
   simp (config:={ decide:=true }) only[go_sem,Int.reduceToNat,Nat.reduceAdd,Nat.reduceSub,Nat.reduceMul,Nat.reduceBEq,reduceIte,reduceCtorEq]
   rw[if_pos ⟨hw,hr.trans hc⟩]
  | false =>
   simp (config:={ decide:=true }) only[go_sem,Int.reduceToNat,Nat.reduceAdd,Nat.reduceSub,Nat.reduceMul,Nat.reduceBEq,reduceIte,reduceCtorEq]
   rw[if_neg (fun h=>by rw[hr,hc] at h;simp at h)]
   rfl
end Go.Proofs.YtmapdjdnnhlpiaaGreatDoor
namespace Go.Proofs.YtmapdjdnnhlpiaaGreatDoor
open Go.RowKit
set_option maxRecDepth 8000
def askedB (th:Int) (nm:List UInt8):Bool:=if th = -1 then nameB nm else decide (0≤th) && decide (th<3) && decide (0≤regB nm)
theorem opsAsked (th:Int) (nm:List UInt8) (n:Int):HFn Tryz.prog 72 [atomV th nm n] (.v (.bool (askedB th nm))):=by
 unfold askedB
 refine HCalls_body (fn:=Tryz.f72) 23 [2] (by kernel_rfl) rfl (by kernel_rfl) (HW.run 400 (by kernel_rfl) ?_)
 by_cases h1:th = -1
 ·simp (config:={ decide:=true }) only[go_sem,Int.reduceToNat,Nat.reduceAdd,Nat.reduceSub,Nat.reduceMul,Nat.reduceBEq,reduceIte,reduceCtorEq,h1]
  refine callX_fn 3 (namePr nm) (by simp only[go_sem]) rfl ?_
  simp (config:={ decide:=true }) only[go_sem,Int.reduceToNat,Nat.reduceAdd,Nat.reduceSub,Nat.reduceMul,Nat.reduceBEq,reduceIte,reduceCtorEq]
 ·by_cases h2:0≤th
  ·by_cases h3:th<3
   ·simp (config:={ decide:=true }) only[go_sem,Int.reduceToNat,Nat.reduceAdd,Nat.reduceSub,Nat.reduceMul,Nat.reduceBEq,reduceIte,reduceCtorEq,h1,h2,h3]
    refine callX_fn 3 (regPr nm) (by simp only[go_sem]) rfl ?_
    simp (config:={ decide:=true }) only[go_sem,Int.reduceToNat,Nat.reduceAdd,Nat.reduceSub,Nat.reduceMul,Nat.reduceBEq,reduceIte,reduceCtorEq]
   ·simp (config:={ decide:=true }) only[go_sem,Int.reduceToNat,Nat.reduceAdd,Nat.reduceSub,Nat.reduceMul,Nat.reduceBEq,reduceIte,reduceCtorEq,h1,h2,h3]
    simp[h1,h3]
  ·simp (config:={ decide:=true }) only[go_sem,Int.reduceToNat,Nat.reduceAdd,Nat.reduceSub,Nat.reduceMul,Nat.reduceBEq,reduceIte,reduceCtorEq,h1,h2]
   simp[h1,h2]
def wordA (th:Int) (nm:List UInt8) (n:Int):List UInt8 :=
 if askedB th nm=true then (if 0≤th then textB th++[58]++(nm++[61]++textB n) else nm++[61]++textB n) else []
structure AT where
 th:Int
 nm:List UInt8
 n:Int
 deriving DecidableEq
abbrev atomT (a:AT):HV:=atomV a.th a.nm a.n
def zeroA:AT:=⟨0,[],0⟩
def headA (left:List UInt8):Option (Int×List UInt8) :=
 if (Lib.cut left [58]).2.2=true then
  (if (numB (Lib.cut left [58]).1).2=true∧0≤(numB (Lib.cut left [58]).1).1 then some ((numB (Lib.cut left [58]).1).1,(Lib.cut left [58]).2.1) else none)
 else some (-1,left)
def atomB (s:List UInt8):AT×Bool :=
 match headA (Lib.cut s [61]).1 with
 | none=>(zeroA,false)
 | some (th,nm)=>if (numB (Lib.cut s [61]).2.1).2=true∧askedB th nm=true then (⟨th,nm,(numB (Lib.cut s [61]).2.1).1⟩,true) else (zeroA,false)
theorem cut_len (c:UInt8) (s:List UInt8):(Lib.cut s [c]).1.length≤s.length∧(Lib.cut s [c]).2.1.length≤s.length:=by
 rcases cut1 c s with ⟨p,r,rfl,_,h⟩ | ⟨_,h⟩
 ·rw[h];simp;omega
 ·rw[h];simp
set_option maxHeartbeats 4000000 in
theorem opsAtom (s:List UInt8) (hs:s.length≤1000000):HFn Tryz.prog 55 [.v (str s)] (.tu [atomT (atomB s).1,.v (.bool (atomB s).2)]):=by
 obtain ⟨l1,l2⟩:=cut_len 61 s
 obtain ⟨l3,l4⟩:=cut_len 58 (Lib.cut s [61]).1
 refine HCalls_bodyC (fn:=Tryz.f55) 62 [.cell 2 53,.tmp 3] (by kernel_rfl) rfl rfl (by kernel_rfl) (HW.run 400 (by kernel_rfl) ?_)
 simp (config:={ decide:=true }) only[go_sem,Int.reduceToNat,Nat.reduceAdd,Nat.reduceSub,Nat.reduceMul,Nat.reduceBEq,reduceIte,reduceCtorEq]
 refine callX_fn 3 (stringsCut s [61] (by omega)) (by simp only[go_sem]) rfl ?_
 simp (config:={ decide:=true }) only[go_sem,Int.reduceToNat,Nat.reduceAdd,Nat.reduceSub,Nat.reduceMul,Nat.reduceBEq,reduceIte,reduceCtorEq]
 refine callX_fn 3 (stringsCut (Lib.cut s [61]).1 [58] (by omega)) (by simp only[go_sem]) rfl ?_
 unfold atomB headA
 generalize Lib.cut s [61]=c1 at *
 obtain ⟨left,right,is0⟩:=c1
 generalize Lib.cut left [58]=c2 at *
 obtain ⟨thr,name,is1⟩:=c2
 simp only at l1 l2 l3 l4
 cases is1 with
 | true =>
  simp (config:={ decide:=true }) only[go_sem,Int.reduceToNat,Nat.reduceAdd,Nat.reduceSub,Nat.reduceMul,Nat.reduceBEq,reduceIte,reduceCtorEq]
  refine callX_fn 3 (numGet thr (by omega)) (by simp only[go_sem]) rfl ?_
  cases hn:(numB thr).2 with
  | false =>
   simp (config:={ decide:=true }) only[go_sem,Int.reduceToNat,Nat.reduceAdd,Nat.reduceSub,Nat.reduceMul,Nat.reduceBEq,reduceIte,reduceCtorEq]
   rfl
  | true =>
   by_cases hneg:(numB thr).1<0
   ·simp (config:={ decide:=true }) only[go_sem,Int.reduceToNat,Nat.reduceAdd,Nat.reduceSub,Nat.reduceMul,Nat.reduceBEq,reduceIte,reduceCtorEq,hneg]
    rw[if_neg (by omega:¬0≤(numB thr).1)]
    rfl
   ·simp (config:={ decide:=true }) only[go_sem,Int.reduceToNat,Nat.reduceAdd,Nat.reduceSub,Nat.reduceMul,Nat.reduceBEq,reduceIte,reduceCtorEq,hneg]
    refine callX_fn 3 (numGet right (by omega)) (by simp only[go_sem]) rfl ?_
    cases hr:(numB right).2 with
    | false =>
     simp (config:={ decide:=true }) only[go_sem,Int.reduceToNat,Nat.reduceAdd,Nat.reduceSub,Nat.reduceMul,Nat.reduceBEq,reduceIte,reduceCtorEq]
     rw[if_pos (by omega:0≤(numB thr).1)]
     rfl
    | true =>
     simp (config:={ decide:=true }) only[go_sem,Int.reduceToNat,Nat.reduceAdd,Nat.reduceSub,Nat.reduceMul,Nat.reduceBEq,reduceIte,reduceCtorEq]
     refine callX_fn 3 (opsAsked (numB thr).1 name (numB right).1) (by simp only[go_sem]) rfl ?_
     cases hq:askedB (numB thr).1 name with
     | false =>
      simp (config:={ decide:=true }) only[go_sem,Int.reduceToNat,Nat.reduceAdd,Nat.reduceSub,Nat.reduceMul,Nat.reduceBEq,reduceIte,reduceCtorEq]
      rw[if_pos (by omega:0≤(numB thr).1)]
      simp[hq,zeroA]
     | true =>
      simp (config:={ decide:=true }) only[go_sem,Int.reduceToNat,Nat.reduceAdd,Nat.reduceSub,Nat.reduceMul,Nat.reduceBEq,reduceIte,reduceCtorEq]
      rw[if_pos (by omega:0≤(numB thr).1)]
      simp[hq]
 | false =>
  simp (config:={ decide:=true }) only[go_sem,Int.reduceToNat,Nat.reduceAdd,Nat.reduceSub,Nat.reduceMul,Nat.reduceBEq,reduceIte,reduceCtorEq]
  refine callX_fn 3 (numGet right (by omega)) (by simp only[go_sem]) rfl ?_
  cases hr:(numB right).2 with
  | false =>
   simp (config:={ decide:=true }) only[go_sem,Int.reduceToNat,Nat.reduceAdd,Nat.reduceSub,Nat.reduceMul,Nat.reduceBEq,reduceIte,reduceCtorEq]
   rfl
  | true =>
   simp (config:={ decide:=true }) only[go_sem,Int.reduceToNat,Nat.reduceAdd,Nat.reduceSub,Nat.reduceMul,Nat.reduceBEq,reduceIte,reduceCtorEq]
   refine callX_fn 3 (opsAsked (-1) left (numB right).1) (by simp only[go_sem]) rfl ?_
   cases hq:askedB (-1) left with
   | false=>simp (config:={ decide:=true }) only[go_sem,Int.reduceToNat,Nat.reduceAdd,Nat.reduceSub,Nat.reduceMul,Nat.reduceBEq,reduceIte,reduceCtorEq];rfl
   | true=>simp (config:={ decide:=true }) only[go_sem,Int.reduceToNat,Nat.reduceAdd,Nat.reduceSub,Nat.reduceMul,Nat.reduceBEq,reduceIte,reduceCtorEq]
end Go.Proofs.YtmapdjdnnhlpiaaGreatDoor
namespace Go.Proofs.YtmapdjdnnhlpiaaGreatDoor
open Go.RowKit
set_option maxRecDepth 8000
theorem refHas (op:Int):HFn Tryz.prog 35 [.v (.int .i64 op)] (.tu [.v (.bool (hasReg op)),.v (.bool (hasLoc op)),.v (.bool (hasLab op)),.v (.bool (hasN op))]):=by
 by_cases h1:op=1∨op=2∨op=3∨op=4∨op=5∨op=7
 ·rcases h1 with rfl | rfl | rfl | rfl | rfl | rfl
  all_goals
   refine HCalls_body (fn:=Tryz.f35) 60 [2,3,4,5] (by kernel_rfl) rfl (by kernel_rfl) (HW.run 400 (by kernel_rfl) ?_)
   simp (config:={ decide:=true }) only[go_sem,Int.reduceToNat,Nat.reduceAdd,Nat.reduceSub,Nat.reduceMul,Nat.reduceBEq,reduceIte,reduceCtorEq]
   rfl
 ·have e1:¬op=1:=fun h=>h1 (by simp[h])
  have e2:¬op=2:=fun h=>h1 (by simp[h])
  have e3:¬op=3:=fun h=>h1 (by simp[h])
  have e4:¬op=4:=fun h=>h1 (by simp[h])
  have e5:¬op=5:=fun h=>h1 (by simp[h])
  have e7:¬op=7:=fun h=>h1 (by simp[h])
  refine HCalls_body (fn:=Tryz.f35) 60 [2,3,4,5] (by kernel_rfl) rfl (by kernel_rfl) (HW.run 400 (by kernel_rfl) ?_)
  have f1:hasReg op=false:=by simp[hasReg,e1,e2,e3,e5,e7]
  have f2:hasLoc op=false:=by simp[hasLoc,e2,e3,e4,e5]
  have f4:hasN op=false:=by simp[hasN,e1,e4,e7]
  by_cases h8:8≤op
  ·by_cases h11:op≤11
   ·simp (config:={ decide:=true }) only[go_sem,Int.reduceToNat,Nat.reduceAdd,Nat.reduceSub,Nat.reduceMul,Nat.reduceBEq,reduceIte,reduceCtorEq,e1,e2,e3,e4,e5,e7,h8,h11]
    simp[f1,f2,f4,hasLab,h8,h11]
   ·simp (config:={ decide:=true }) only[go_sem,Int.reduceToNat,Nat.reduceAdd,Nat.reduceSub,Nat.reduceMul,Nat.reduceBEq,reduceIte,reduceCtorEq,e1,e2,e3,e4,e5,e7,h8,h11]
    simp[f1,f2,f4,hasLab,h8,h11]
  ·simp (config:={ decide:=true }) only[go_sem,Int.reduceToNat,Nat.reduceAdd,Nat.reduceSub,Nat.reduceMul,Nat.reduceBEq,reduceIte,reduceCtorEq,e1,e2,e3,e4,e5,e7,h8]
   simp[f1,f2,f4,hasLab,h8]
set_option maxHeartbeats 4000000 in
theorem refRight (op:Int) (rg loc lab:List UInt8) (n:Int) (l1:rg.length≤1000000) (l2:loc.length≤1000000) (l3:lab.length≤1000000):HFn Tryz.prog 19 [lineV op rg loc lab n] (.v (.bool (rightB op rg loc lab n))):=by
 refine HCalls_body (fn:=Tryz.f19) 77 [2] (by kernel_rfl) rfl (by kernel_rfl) (HW.run 400 (by kernel_rfl) ?_)
 simp (config:={ decide:=true }) only[go_sem,Int.reduceToNat,Nat.reduceAdd,Nat.reduceSub,Nat.reduceMul,Nat.reduceBEq,reduceIte,reduceCtorEq]
 refine callX_fn 3 (refHas op) (by simp only[go_sem]) rfl ?_
 by_cases hlo:op<1
 ·simp (config:={ decide:=true }) only[go_sem,Int.reduceToNat,Nat.reduceAdd,Nat.reduceSub,Nat.reduceMul,Nat.reduceBEq,reduceIte,reduceCtorEq,hlo]
  have:rightB op rg loc lab n=false:=by unfold rightB;simp[show ¬1≤op by omega]
  rw[this]
 by_cases hhi:11<op
 ·simp (config:={ decide:=true }) only[go_sem,Int.reduceToNat,Nat.reduceAdd,Nat.reduceSub,Nat.reduceMul,Nat.reduceBEq,reduceIte,reduceCtorEq,hlo,hhi]
  have:rightB op rg loc lab n=false:=by unfold rightB;simp[show ¬op≤11 by omega]
  rw[this]
 have hr:rightB op rg loc lab n=rb (hasReg op) (hasLoc op) (hasLab op) (hasN op) (decide (0≤regB rg)) (decide (rg=[])) (nameB loc) (decide (loc=[])) (nameB lab) (decide (lab=[])) (decide (n=0)):=by
  unfold rightB
  simp[show 1≤op by omega,show op≤11 by omega]
 rw[hr]
 generalize hasReg op=fr
 generalize hasLoc op=fo
 generalize hasLab op=fa
 generalize hasN op=fn
 cases fr with
 | false =>
  by_cases hb:rg=[]
  ·simp (config:={ decide:=true }) only[go_sem,Int.reduceToNat,Nat.reduceAdd,Nat.reduceSub,Nat.reduceMul,Nat.reduceBEq,reduceIte,reduceCtorEq,hlo,hhi,hb]
   cases fo with
   | false =>
    by_cases hd:loc=[]
    ·simp (config:={ decide:=true }) only[go_sem,Int.reduceToNat,Nat.reduceAdd,Nat.reduceSub,Nat.reduceMul,Nat.reduceBEq,reduceIte,reduceCtorEq,hd]
     cases fa with
     | false =>
      by_cases hf:lab=[]
      ·simp (config:={ decide:=true }) only[go_sem,Int.reduceToNat,Nat.reduceAdd,Nat.reduceSub,Nat.reduceMul,Nat.reduceBEq,reduceIte,reduceCtorEq,hf]
       cases fn with
       | false =>
        by_cases hg:n=0
        ·simp (config:={ decide:=true }) only[go_sem,Int.reduceToNat,Nat.reduceAdd,Nat.reduceSub,Nat.reduceMul,Nat.reduceBEq,reduceIte,reduceCtorEq,hg]
         simp[rb,hg,hb,hd,hf]
        ·simp (config:={ decide:=true }) only[go_sem,Int.reduceToNat,Nat.reduceAdd,Nat.reduceSub,Nat.reduceMul,Nat.reduceBEq,reduceIte,reduceCtorEq,hg]
         simp[rb,hg]
       | true =>
        simp (config:={ decide:=true }) only[go_sem,Int.reduceToNat,Nat.reduceAdd,Nat.reduceSub,Nat.reduceMul,Nat.reduceBEq,reduceIte,reduceCtorEq]
        simp[rb,hb,hd,hf]
      ·simp (config:={ decide:=true }) only[go_sem,Int.reduceToNat,Nat.reduceAdd,Nat.reduceSub,Nat.reduceMul,Nat.reduceBEq,reduceIte,reduceCtorEq,hf]
       simp[rb,hf]
     | true =>
      simp (config:={ decide:=true }) only[go_sem,Int.reduceToNat,Nat.reduceAdd,Nat.reduceSub,Nat.reduceMul,Nat.reduceBEq,reduceIte,reduceCtorEq]
      refine callX_fn 3 (refName lab l3) (by simp only[go_sem]) rfl ?_
      cases he:nameB lab with
      | false =>
       simp (config:={ decide:=true }) only[go_sem,Int.reduceToNat,Nat.reduceAdd,Nat.reduceSub,Nat.reduceMul,Nat.reduceBEq,reduceIte,reduceCtorEq]
       simp[rb]
      | true =>
       simp (config:={ decide:=true }) only[go_sem,Int.reduceToNat,Nat.reduceAdd,Nat.reduceSub,Nat.reduceMul,Nat.reduceBEq,reduceIte,reduceCtorEq]
       cases fn with
       | false =>
        by_cases hg:n=0
        ·simp (config:={ decide:=true }) only[go_sem,Int.reduceToNat,Nat.reduceAdd,Nat.reduceSub,Nat.reduceMul,Nat.reduceBEq,reduceIte,reduceCtorEq,hg]
         simp[rb,hg,hb,hd]
        ·simp (config:={ decide:=true }) only[go_sem,Int.reduceToNat,Nat.reduceAdd,Nat.reduceSub,Nat.reduceMul,Nat.reduceBEq,reduceIte,reduceCtorEq,hg]
         simp[rb,hg]
       | true =>
        simp (config:={ decide:=true }) only[go_sem,Int.reduceToNat,Nat.reduceAdd,Nat.reduceSub,Nat.reduceMul,Nat.reduceBEq,reduceIte,reduceCtorEq]
        simp[rb,hb,hd]
    ·simp (config:={ decide:=true }) only[go_sem,Int.reduceToNat,Nat.reduceAdd,Nat.reduceSub,Nat.reduceMul,Nat.reduceBEq,reduceIte,reduceCtorEq,hd]
     simp[rb,hd]
   | true =>
    simp (config:={ decide:=true }) only[go_sem,Int.reduceToNat,Nat.reduceAdd,Nat.reduceSub,Nat.reduceMul,Nat.reduceBEq,reduceIte,reduceCtorEq]
    refine callX_fn 3 (refName loc l2) (by simp only[go_sem]) rfl ?_
    cases hc:nameB loc with
    | false =>
     simp (config:={ decide:=true }) only[go_sem,Int.reduceToNat,Nat.reduceAdd,Nat.reduceSub,Nat.reduceMul,Nat.reduceBEq,reduceIte,reduceCtorEq]
     simp[rb]
    | true =>
     simp (config:={ decide:=true }) only[go_sem,Int.reduceToNat,Nat.reduceAdd,Nat.reduceSub,Nat.reduceMul,Nat.reduceBEq,reduceIte,reduceCtorEq]
     cases fa with
     | false =>
      by_cases hf:lab=[]
      ·simp (config:={ decide:=true }) only[go_sem,Int.reduceToNat,Nat.reduceAdd,Nat.reduceSub,Nat.reduceMul,Nat.reduceBEq,reduceIte,reduceCtorEq,hf]
       cases fn with
       | false =>
        by_cases hg:n=0
        ·simp (config:={ decide:=true }) only[go_sem,Int.reduceToNat,Nat.reduceAdd,Nat.reduceSub,Nat.reduceMul,Nat.reduceBEq,reduceIte,reduceCtorEq,hg]
         simp[rb,hg,hb,hf]
        ·simp (config:={ decide:=true }) only[go_sem,Int.reduceToNat,Nat.reduceAdd,Nat.reduceSub,Nat.reduceMul,Nat.reduceBEq,reduceIte,reduceCtorEq,hg]
         simp[rb,hg]
       | true =>
        simp (config:={ decide:=true }) only[go_sem,Int.reduceToNat,Nat.reduceAdd,Nat.reduceSub,Nat.reduceMul,Nat.reduceBEq,reduceIte,reduceCtorEq]
        simp[rb,hb,hf]
      ·simp (config:={ decide:=true }) only[go_sem,Int.reduceToNat,Nat.reduceAdd,Nat.reduceSub,Nat.reduceMul,Nat.reduceBEq,reduceIte,reduceCtorEq,hf]
       simp[rb,hf]
     | true =>
      simp (config:={ decide:=true }) only[go_sem,Int.reduceToNat,Nat.reduceAdd,Nat.reduceSub,Nat.reduceMul,Nat.reduceBEq,reduceIte,reduceCtorEq]
      refine callX_fn 3 (refName lab l3) (by simp only[go_sem]) rfl ?_
      cases he:nameB lab with
      | false =>
       simp (config:={ decide:=true }) only[go_sem,Int.reduceToNat,Nat.reduceAdd,Nat.reduceSub,Nat.reduceMul,Nat.reduceBEq,reduceIte,reduceCtorEq]
       simp[rb]
      | true =>
       simp (config:={ decide:=true }) only[go_sem,Int.reduceToNat,Nat.reduceAdd,Nat.reduceSub,Nat.reduceMul,Nat.reduceBEq,reduceIte,reduceCtorEq]
       cases fn with
       | false =>
        by_cases hg:n=0
        ·simp (config:={ decide:=true }) only[go_sem,Int.reduceToNat,Nat.reduceAdd,Nat.reduceSub,Nat.reduceMul,Nat.reduceBEq,reduceIte,reduceCtorEq,hg]
         simp[rb,hg,hb]
        ·simp (config:={ decide:=true }) only[go_sem,Int.reduceToNat,Nat.reduceAdd,Nat.reduceSub,Nat.reduceMul,Nat.reduceBEq,reduceIte,reduceCtorEq,hg]
         simp[rb,hg]
       | true =>
        simp (config:={ decide:=true }) only[go_sem,Int.reduceToNat,Nat.reduceAdd,Nat.reduceSub,Nat.reduceMul,Nat.reduceBEq,reduceIte,reduceCtorEq]
        simp[rb,hb]
  ·simp (config:={ decide:=true }) only[go_sem,Int.reduceToNat,Nat.reduceAdd,Nat.reduceSub,Nat.reduceMul,Nat.reduceBEq,reduceIte,reduceCtorEq,hlo,hhi,hb]
   simp[rb,hb]
 | true =>
  simp (config:={ decide:=true }) only[go_sem,Int.reduceToNat,Nat.reduceAdd,Nat.reduceSub,Nat.reduceMul,Nat.reduceBEq,reduceIte,reduceCtorEq,hlo,hhi]
  refine callX_fn 3 (refReg rg) (by simp only[go_sem]) rfl ?_
  by_cases ha:regB rg<0
  ·have ha2:¬0≤regB rg:=by omega
   simp (config:={ decide:=true }) only[go_sem,Int.reduceToNat,Nat.reduceAdd,Nat.reduceSub,Nat.reduceMul,Nat.reduceBEq,reduceIte,reduceCtorEq,ha]
   simp[rb,ha2]
  ·have ha2:0≤regB rg:=by omega
   simp (config:={ decide:=true }) only[go_sem,Int.reduceToNat,Nat.reduceAdd,Nat.reduceSub,Nat.reduceMul,Nat.reduceBEq,reduceIte,reduceCtorEq,ha]
   cases fo with
   | false =>
    by_cases hd:loc=[]
    ·simp (config:={ decide:=true }) only[go_sem,Int.reduceToNat,Nat.reduceAdd,Nat.reduceSub,Nat.reduceMul,Nat.reduceBEq,reduceIte,reduceCtorEq,hd]
     cases fa with
     | false =>
      by_cases hf:lab=[]
      ·simp (config:={ decide:=true }) only[go_sem,Int.reduceToNat,Nat.reduceAdd,Nat.reduceSub,Nat.reduceMul,Nat.reduceBEq,reduceIte,reduceCtorEq,hf]
       cases fn with
       | false =>
        by_cases hg:n=0
        ·simp (config:={ decide:=true }) only[go_sem,Int.reduceToNat,Nat.reduceAdd,Nat.reduceSub,Nat.reduceMul,Nat.reduceBEq,reduceIte,reduceCtorEq,hg]
         simp[rb,hg,ha2,hd,hf]
        ·simp (config:={ decide:=true }) only[go_sem,Int.reduceToNat,Nat.reduceAdd,Nat.reduceSub,Nat.reduceMul,Nat.reduceBEq,reduceIte,reduceCtorEq,hg]
         simp[rb,hg]
       | true =>
        simp (config:={ decide:=true }) only[go_sem,Int.reduceToNat,Nat.reduceAdd,Nat.reduceSub,Nat.reduceMul,Nat.reduceBEq,reduceIte,reduceCtorEq]
        simp[rb,ha2,hd,hf]
      ·simp (config:={ decide:=true }) only[go_sem,Int.reduceToNat,Nat.reduceAdd,Nat.reduceSub,Nat.reduceMul,Nat.reduceBEq,reduceIte,reduceCtorEq,hf]
       simp[rb,hf]
     | true =>
      simp (config:={ decide:=true }) only[go_sem,Int.reduceToNat,Nat.reduceAdd,Nat.reduceSub,Nat.reduceMul,Nat.reduceBEq,reduceIte,reduceCtorEq]
      refine callX_fn 3 (refName lab l3) (by simp only[go_sem]) rfl ?_
      cases he:nameB lab with
      | false =>
       simp (config:={ decide:=true }) only[go_sem,Int.reduceToNat,Nat.reduceAdd,Nat.reduceSub,Nat.reduceMul,Nat.reduceBEq,reduceIte,reduceCtorEq]
       simp[rb]
      | true =>
       simp (config:={ decide:=true }) only[go_sem,Int.reduceToNat,Nat.reduceAdd,Nat.reduceSub,Nat.reduceMul,Nat.reduceBEq,reduceIte,reduceCtorEq]
       cases fn with
       | false =>
        by_cases hg:n=0
        ·simp (config:={ decide:=true }) only[go_sem,Int.reduceToNat,Nat.reduceAdd,Nat.reduceSub,Nat.reduceMul,Nat.reduceBEq,reduceIte,reduceCtorEq,hg]
         simp[rb,hg,ha2,hd]
        ·simp (config:={ decide:=true }) only[go_sem,Int.reduceToNat,Nat.reduceAdd,Nat.reduceSub,Nat.reduceMul,Nat.reduceBEq,reduceIte,reduceCtorEq,hg]
         simp[rb,hg]
       | true =>
        simp (config:={ decide:=true }) only[go_sem,Int.reduceToNat,Nat.reduceAdd,Nat.reduceSub,Nat.reduceMul,Nat.reduceBEq,reduceIte,reduceCtorEq]
        simp[rb,ha2,hd]
    ·simp (config:={ decide:=true }) only[go_sem,Int.reduceToNat,Nat.reduceAdd,Nat.reduceSub,Nat.reduceMul,Nat.reduceBEq,reduceIte,reduceCtorEq,hd]
     simp[rb,hd]
   | true =>
    simp (config:={ decide:=true }) only[go_sem,Int.reduceToNat,Nat.reduceAdd,Nat.reduceSub,Nat.reduceMul,Nat.reduceBEq,reduceIte,reduceCtorEq]
    refine callX_fn 3 (refName loc l2) (by simp only[go_sem]) rfl ?_
    cases hc:nameB loc with
    | false =>
     simp (config:={ decide:=true }) only[go_sem,Int.reduceToNat,Nat.reduceAdd,Nat.reduceSub,Nat.reduceMul,Nat.reduceBEq,reduceIte,reduceCtorEq]
     simp[rb]
    | true =>
     simp (config:={ decide:=true }) only[go_sem,Int.reduceToNat,Nat.reduceAdd,Nat.reduceSub,Nat.reduceMul,Nat.reduceBEq,reduceIte,reduceCtorEq]
     cases fa with
     | false =>
      by_cases hf:lab=[]
      ·simp (config:={ decide:=true }) only[go_sem,Int.reduceToNat,Nat.reduceAdd,Nat.reduceSub,Nat.reduceMul,Nat.reduceBEq,reduceIte,reduceCtorEq,hf]
       cases fn with
       | false =>
        by_cases hg:n=0
        ·simp (config:={ decide:=true }) only[go_sem,Int.reduceToNat,Nat.reduceAdd,Nat.reduceSub,Nat.reduceMul,Nat.reduceBEq,reduceIte,reduceCtorEq,hg]
         simp[rb,hg,ha2,hf]
        ·simp (config:={ decide:=true }) only[go_sem,Int.reduceToNat,Nat.reduceAdd,Nat.reduceSub,Nat.reduceMul,Nat.reduceBEq,reduceIte,reduceCtorEq,hg]
         simp[rb,hg]
       | true =>
        simp (config:={ decide:=true }) only[go_sem,Int.reduceToNat,Nat.reduceAdd,Nat.reduceSub,Nat.reduceMul,Nat.reduceBEq,reduceIte,reduceCtorEq]
        simp[rb,ha2,hf]
      ·simp (config:={ decide:=true }) only[go_sem,Int.reduceToNat,Nat.reduceAdd,Nat.reduceSub,Nat.reduceMul,Nat.reduceBEq,reduceIte,reduceCtorEq,hf]
       simp[rb,hf]
     | true =>
      simp (config:={ decide:=true }) only[go_sem,Int.reduceToNat,Nat.reduceAdd,Nat.reduceSub,Nat.reduceMul,Nat.reduceBEq,reduceIte,reduceCtorEq]
      refine callX_fn 3 (refName lab l3) (by simp only[go_sem]) rfl ?_
      cases he:nameB lab with
      | false =>
       simp (config:={ decide:=true }) only[go_sem,Int.reduceToNat,Nat.reduceAdd,Nat.reduceSub,Nat.reduceMul,Nat.reduceBEq,reduceIte,reduceCtorEq]
       simp[rb]
      | true =>
       simp (config:={ decide:=true }) only[go_sem,Int.reduceToNat,Nat.reduceAdd,Nat.reduceSub,Nat.reduceMul,Nat.reduceBEq,reduceIte,reduceCtorEq]
       cases fn with
       | false =>
        by_cases hg:n=0
        ·simp (config:={ decide:=true }) only[go_sem,Int.reduceToNat,Nat.reduceAdd,Nat.reduceSub,Nat.reduceMul,Nat.reduceBEq,reduceIte,reduceCtorEq,hg]
         simp[rb,hg,ha2]
        ·simp (config:={ decide:=true }) only[go_sem,Int.reduceToNat,Nat.reduceAdd,Nat.reduceSub,Nat.reduceMul,Nat.reduceBEq,reduceIte,reduceCtorEq,hg]
         simp[rb,hg]
       | true =>
        simp (config:={ decide:=true }) only[go_sem,Int.reduceToNat,Nat.reduceAdd,Nat.reduceSub,Nat.reduceMul,Nat.reduceBEq,reduceIte,reduceCtorEq]
        simp[rb,ha2]
theorem refAsked (th:Int) (nm:List UInt8) (n:Int) (hl:nm.length≤1000000):HFn Tryz.prog 20 [atomV th nm n] (.v (.bool (askedB th nm))):=by
 unfold askedB
 refine HCalls_body (fn:=Tryz.f20) 23 [2] (by kernel_rfl) rfl (by kernel_rfl) (HW.run 400 (by kernel_rfl) ?_)
 by_cases h1:th = -1
 ·simp (config:={ decide:=true }) only[go_sem,Int.reduceToNat,Nat.reduceAdd,Nat.reduceSub,Nat.reduceMul,Nat.reduceBEq,reduceIte,reduceCtorEq,h1]
  refine callX_fn 3 (refName nm hl) (by simp only[go_sem]) rfl ?_
  simp (config:={ decide:=true }) only[go_sem,Int.reduceToNat,Nat.reduceAdd,Nat.reduceSub,Nat.reduceMul,Nat.reduceBEq,reduceIte,reduceCtorEq]
 ·by_cases h2:0≤th
  ·by_cases h3:th<3
   ·simp (config:={ decide:=true }) only[go_sem,Int.reduceToNat,Nat.reduceAdd,Nat.reduceSub,Nat.reduceMul,Nat.reduceBEq,reduceIte,reduceCtorEq,h1,h2,h3]
    refine callX_fn 3 (refReg nm) (by simp only[go_sem]) rfl ?_
    simp (config:={ decide:=true }) only[go_sem,Int.reduceToNat,Nat.reduceAdd,Nat.reduceSub,Nat.reduceMul,Nat.reduceBEq,reduceIte,reduceCtorEq]
   ·simp (config:={ decide:=true }) only[go_sem,Int.reduceToNat,Nat.reduceAdd,Nat.reduceSub,Nat.reduceMul,Nat.reduceBEq,reduceIte,reduceCtorEq,h1,h2,h3]
    simp[h1,h3]
  ·simp (config:={ decide:=true }) only[go_sem,Int.reduceToNat,Nat.reduceAdd,Nat.reduceSub,Nat.reduceMul,Nat.reduceBEq,reduceIte,reduceCtorEq,h1,h2]
   simp[h1,h2]
theorem asked_minus {th:Int} {nm:List UInt8} (h:askedB th nm=true):th = -1∨0≤th:=by
 unfold askedB at h
 split at h
 ·exact .inl (by assumption)
 ·simp only[Bool.and_eq_true,decide_eq_true_eq] at h
  exact .inr h.1.1
theorem refWord (th:Int) (nm:List UInt8) (n:Int) (h1:inI th) (h2:inI n) (h3:nm.length≤1000000):HFn Tryz.prog 31 [atomV th nm n] (.v (str (wordA th nm n))):=by
 unfold wordA
 refine HCalls_body (fn:=Tryz.f31) 24 [2] (by kernel_rfl) rfl (by kernel_rfl) (HW.run 400 (by kernel_rfl) ?_)
 simp (config:={ decide:=true }) only[go_sem,Int.reduceToNat,Nat.reduceAdd,Nat.reduceSub,Nat.reduceMul,Nat.reduceBEq,reduceIte,reduceCtorEq]
 refine callX_fn 3 (refAsked th nm n h3) (by simp only[go_sem]) rfl ?_
 cases ha:askedB th nm with
 | false =>
  simp (config:={ decide:=true }) only[go_sem,Int.reduceToNat,Nat.reduceAdd,Nat.reduceSub,Nat.reduceMul,Nat.reduceBEq,reduceIte,reduceCtorEq]
 | true =>
  have l1:=textB_length h1
  have l2:=textB_length h2
  simp (config:={ decide:=true }) only[go_sem,Int.reduceToNat,Nat.reduceAdd,Nat.reduceSub,Nat.reduceMul,Nat.reduceBEq,reduceIte,reduceCtorEq]
  refine HW.quiet 80 follows (by kernel_rfl) ?_
  simp (config:={ decide:=true }) only[go_sem,Int.reduceToNat,Nat.reduceAdd,Nat.reduceSub,Nat.reduceMul,Nat.reduceBEq,reduceIte,reduceCtorEq,List.length_append]
  refine ⟨by omega,?_⟩
  refine callQ_fn 3 (refText n h2) (by simp only[go_sem]) rfl rfl ?_
  by_cases ht:th = -1
  ·subst ht
   simp (config:={ decide:=true }) only[go_sem,Int.reduceToNat,Nat.reduceAdd,Nat.reduceSub,Nat.reduceMul,Nat.reduceBEq,reduceIte,reduceCtorEq,List.length_append]
   omega
  ·have ht' : 0≤th:=by rcases asked_minus ha with h | h;exact absurd h ht;exact h
   simp (config:={ decide:=true }) only[go_sem,Int.reduceToNat,Nat.reduceAdd,Nat.reduceSub,Nat.reduceMul,Nat.reduceBEq,reduceIte,reduceCtorEq,ht,ht',List.length_append]
   refine ⟨by omega,?_⟩
   refine callX_fn 3 (refText th h1) (by simp only[go_sem]) rfl ?_
   simp (config:={ decide:=true }) only[go_sem,Int.reduceToNat,Nat.reduceAdd,Nat.reduceSub,Nat.reduceMul,Nat.reduceBEq,reduceIte,reduceCtorEq,List.length_append]
   omega
end Go.Proofs.YtmapdjdnnhlpiaaGreatDoor
namespace Go.Proofs.YtmapdjdnnhlpiaaGreatDoor
open Go.RowKit
set_option maxRecDepth 8000
theorem ops_all {op:Int} (h:1≤op∧op≤11):op=1∨op=2∨op=3∨op=4∨op=5∨op=6∨op=7∨op=8∨op=9∨op=10∨op=11:=by omega
set_option maxHeartbeats 4000000 in
theorem refLineWords (op:Int) (rg loc lab:List UInt8) (n:Int) (l1:rg.length≤1000000) (l2:loc.length≤1000000) (l3:lab.length≤1000000) (hn:inI n):HFn Tryz.prog 30 [lineV op rg loc lab n] (owStrs (lineW op rg loc lab n)):=by
 unfold lineW
 cases hr:rightB op rg loc lab n with
 | false =>
  rw[if_neg (by simp)]
  refine own_nil ?_
  refine HCalls_body (fn:=Tryz.f30) 76 [2] (by kernel_rfl) rfl (by kernel_rfl) (HW.run 400 (by kernel_rfl) ?_)
  simp (config:={ decide:=true }) only[go_sem,Int.reduceToNat,Nat.reduceAdd,Nat.reduceSub,Nat.reduceMul,Nat.reduceBEq,reduceIte,reduceCtorEq]
  refine callX_fn 3 (refRight op rg loc lab n l1 l2 l3) (by simp only[go_sem]) rfl ?_
  simp (config:={ decide:=true }) only[go_sem,Int.reduceToNat,Nat.reduceAdd,Nat.reduceSub,Nat.reduceMul,Nat.reduceBEq,reduceIte,reduceCtorEq,hr]
 | true =>
  rw[if_pos rfl]
  rcases ops_all (rightB_op hr) with rfl | rfl | rfl | rfl | rfl | rfl | rfl | rfl | rfl | rfl | rfl
  ·refine HCalls_body (fn:=Tryz.f30) 76 [2] (by kernel_rfl) rfl (by kernel_rfl) (HW.run 400 (by kernel_rfl) ?_)
   simp (config:={ decide:=true }) only[go_sem,Int.reduceToNat,Nat.reduceAdd,Nat.reduceSub,Nat.reduceMul,Nat.reduceBEq,reduceIte,reduceCtorEq]
   refine callX_fn 3 (refRight 1 rg loc lab n l1 l2 l3) (by simp only[go_sem]) rfl ?_
   simp (config:={ decide:=true }) only[go_sem,Int.reduceToNat,Nat.reduceAdd,Nat.reduceSub,Nat.reduceMul,Nat.reduceBEq,reduceIte,reduceCtorEq,hr,List.length_append]
   refine ⟨by omega,by omega,?_⟩
   refine HW.anyOrder 80 5 follows (by kernel_rfl) ?_
   simp (config:={ decide:=true }) only[go_sem,Int.reduceToNat,Nat.reduceAdd,Nat.reduceSub,Nat.reduceMul,Nat.reduceBEq,reduceIte,reduceCtorEq]
   refine callQ_fn 3 (refText n hn) (by simp only[go_sem]) rfl rfl ?_
   simp (config:={ decide:=true }) only[go_sem,Int.reduceToNat,Nat.reduceAdd,Nat.reduceSub,Nat.reduceMul,Nat.reduceBEq,reduceIte,reduceCtorEq]
   rfl
  ·refine HCalls_body (fn:=Tryz.f30) 76 [2] (by kernel_rfl) rfl (by kernel_rfl) (HW.run 400 (by kernel_rfl) ?_)
   simp (config:={ decide:=true }) only[go_sem,Int.reduceToNat,Nat.reduceAdd,Nat.reduceSub,Nat.reduceMul,Nat.reduceBEq,reduceIte,reduceCtorEq]
   refine callX_fn 3 (refRight 2 rg loc lab n l1 l2 l3) (by simp only[go_sem]) rfl ?_
   simp (config:={ decide:=true }) only[go_sem,Int.reduceToNat,Nat.reduceAdd,Nat.reduceSub,Nat.reduceMul,Nat.reduceBEq,reduceIte,reduceCtorEq,hr,List.length_append]
   refine ⟨by omega,by omega,?_⟩
   rfl
  ·refine HCalls_body (fn:=Tryz.f30) 76 [2] (by kernel_rfl) rfl (by kernel_rfl) (HW.run 400 (by kernel_rfl) ?_)
   simp (config:={ decide:=true }) only[go_sem,Int.reduceToNat,Nat.reduceAdd,Nat.reduceSub,Nat.reduceMul,Nat.reduceBEq,reduceIte,reduceCtorEq]
   refine callX_fn 3 (refRight 3 rg loc lab n l1 l2 l3) (by simp only[go_sem]) rfl ?_
   simp (config:={ decide:=true }) only[go_sem,Int.reduceToNat,Nat.reduceAdd,Nat.reduceSub,Nat.reduceMul,Nat.reduceBEq,reduceIte,reduceCtorEq,hr,List.length_append]
   refine ⟨by omega,by omega,?_⟩
   rfl
  ·refine HCalls_body (fn:=Tryz.f30) 76 [2] (by kernel_rfl) rfl (by kernel_rfl) (HW.run 400 (by kernel_rfl) ?_)
   simp (config:={ decide:=true }) only[go_sem,Int.reduceToNat,Nat.reduceAdd,Nat.reduceSub,Nat.reduceMul,Nat.reduceBEq,reduceIte,reduceCtorEq]
   refine callX_fn 3 (refRight 4 rg loc lab n l1 l2 l3) (by simp only[go_sem]) rfl ?_
   simp (config:={ decide:=true }) only[go_sem,Int.reduceToNat,Nat.reduceAdd,Nat.reduceSub,Nat.reduceMul,Nat.reduceBEq,reduceIte,reduceCtorEq,hr,List.length_append]
   refine ⟨by omega,by omega,?_⟩
   refine callX_fn 3 (refText n hn) (by simp only[go_sem]) rfl ?_
   simp (config:={ decide:=true }) only[go_sem,Int.reduceToNat,Nat.reduceAdd,Nat.reduceSub,Nat.reduceMul,Nat.reduceBEq,reduceIte,reduceCtorEq]
   rfl
  ·refine HCalls_body (fn:=Tryz.f30) 76 [2] (by kernel_rfl) rfl (by kernel_rfl) (HW.run 400 (by kernel_rfl) ?_)
   simp (config:={ decide:=true }) only[go_sem,Int.reduceToNat,Nat.reduceAdd,Nat.reduceSub,Nat.reduceMul,Nat.reduceBEq,reduceIte,reduceCtorEq]
   refine callX_fn 3 (refRight 5 rg loc lab n l1 l2 l3) (by simp only[go_sem]) rfl ?_
   simp (config:={ decide:=true }) only[go_sem,Int.reduceToNat,Nat.reduceAdd,Nat.reduceSub,Nat.reduceMul,Nat.reduceBEq,reduceIte,reduceCtorEq,hr,List.length_append]
   refine ⟨by omega,by omega,?_⟩
   rfl
  ·refine HCalls_body (fn:=Tryz.f30) 76 [2] (by kernel_rfl) rfl (by kernel_rfl) (HW.run 400 (by kernel_rfl) ?_)
   simp (config:={ decide:=true }) only[go_sem,Int.reduceToNat,Nat.reduceAdd,Nat.reduceSub,Nat.reduceMul,Nat.reduceBEq,reduceIte,reduceCtorEq]
   refine callX_fn 3 (refRight 6 rg loc lab n l1 l2 l3) (by simp only[go_sem]) rfl ?_
   simp (config:={ decide:=true }) only[go_sem,Int.reduceToNat,Nat.reduceAdd,Nat.reduceSub,Nat.reduceMul,Nat.reduceBEq,reduceIte,reduceCtorEq,hr,List.length_append]
   refine ⟨by omega,by omega,?_⟩
   rfl
  ·refine HCalls_body (fn:=Tryz.f30) 76 [2] (by kernel_rfl) rfl (by kernel_rfl) (HW.run 400 (by kernel_rfl) ?_)
   simp (config:={ decide:=true }) only[go_sem,Int.reduceToNat,Nat.reduceAdd,Nat.reduceSub,Nat.reduceMul,Nat.reduceBEq,reduceIte,reduceCtorEq]
   refine callX_fn 3 (refRight 7 rg loc lab n l1 l2 l3) (by simp only[go_sem]) rfl ?_
   simp (config:={ decide:=true }) only[go_sem,Int.reduceToNat,Nat.reduceAdd,Nat.reduceSub,Nat.reduceMul,Nat.reduceBEq,reduceIte,reduceCtorEq,hr,List.length_append]
   refine ⟨by omega,by omega,?_⟩
   refine HW.anyOrder 80 5 follows (by kernel_rfl) ?_
   simp (config:={ decide:=true }) only[go_sem,Int.reduceToNat,Nat.reduceAdd,Nat.reduceSub,Nat.reduceMul,Nat.reduceBEq,reduceIte,reduceCtorEq]
   refine callQ_fn 3 (refText n hn) (by simp only[go_sem]) rfl rfl ?_
   simp (config:={ decide:=true }) only[go_sem,Int.reduceToNat,Nat.reduceAdd,Nat.reduceSub,Nat.reduceMul,Nat.reduceBEq,reduceIte,reduceCtorEq]
   rfl
  ·refine HCalls_body (fn:=Tryz.f30) 76 [2] (by kernel_rfl) rfl (by kernel_rfl) (HW.run 400 (by kernel_rfl) ?_)
   simp (config:={ decide:=true }) only[go_sem,Int.reduceToNat,Nat.reduceAdd,Nat.reduceSub,Nat.reduceMul,Nat.reduceBEq,reduceIte,reduceCtorEq]
   refine callX_fn 3 (refRight 8 rg loc lab n l1 l2 l3) (by simp only[go_sem]) rfl ?_
   simp (config:={ decide:=true }) only[go_sem,Int.reduceToNat,Nat.reduceAdd,Nat.reduceSub,Nat.reduceMul,Nat.reduceBEq,reduceIte,reduceCtorEq,hr,List.length_append]
   refine ⟨by omega,by omega,?_⟩
   rfl
  ·refine HCalls_body (fn:=Tryz.f30) 76 [2] (by kernel_rfl) rfl (by kernel_rfl) (HW.run 400 (by kernel_rfl) ?_)
   simp (config:={ decide:=true }) only[go_sem,Int.reduceToNat,Nat.reduceAdd,Nat.reduceSub,Nat.reduceMul,Nat.reduceBEq,reduceIte,reduceCtorEq]
   refine callX_fn 3 (refRight 9 rg loc lab n l1 l2 l3) (by simp only[go_sem]) rfl ?_
   simp (config:={ decide:=true }) only[go_sem,Int.reduceToNat,Nat.reduceAdd,Nat.reduceSub,Nat.reduceMul,Nat.reduceBEq,reduceIte,reduceCtorEq,hr,List.length_append]
   refine ⟨by omega,by omega,?_⟩
   rfl
  ·refine HCalls_body (fn:=Tryz.f30) 76 [2] (by kernel_rfl) rfl (by kernel_rfl) (HW.run 400 (by kernel_rfl) ?_)
   simp (config:={ decide:=true }) only[go_sem,Int.reduceToNat,Nat.reduceAdd,Nat.reduceSub,Nat.reduceMul,Nat.reduceBEq,reduceIte,reduceCtorEq]
   refine callX_fn 3 (refRight 10 rg loc lab n l1 l2 l3) (by simp only[go_sem]) rfl ?_
   simp (config:={ decide:=true }) only[go_sem,Int.reduceToNat,Nat.reduceAdd,Nat.reduceSub,Nat.reduceMul,Nat.reduceBEq,reduceIte,reduceCtorEq,hr,List.length_append]
   refine ⟨by omega,by omega,?_⟩
   rfl
  ·refine HCalls_body (fn:=Tryz.f30) 76 [2] (by kernel_rfl) rfl (by kernel_rfl) (HW.run 400 (by kernel_rfl) ?_)
   simp (config:={ decide:=true }) only[go_sem,Int.reduceToNat,Nat.reduceAdd,Nat.reduceSub,Nat.reduceMul,Nat.reduceBEq,reduceIte,reduceCtorEq]
   refine callX_fn 3 (refRight 11 rg loc lab n l1 l2 l3) (by simp only[go_sem]) rfl ?_
   simp (config:={ decide:=true }) only[go_sem,Int.reduceToNat,Nat.reduceAdd,Nat.reduceSub,Nat.reduceMul,Nat.reduceBEq,reduceIte,reduceCtorEq,hr,List.length_append]
   refine ⟨by omega,by omega,by omega,?_⟩
   rfl
end Go.Proofs.YtmapdjdnnhlpiaaGreatDoor
namespace Go.Proofs.YtmapdjdnnhlpiaaGreatDoor
open Go.RowKit
section
variable {P:Program}
theorem HCalls.shut {f:FuncId} {H:Heap} {args:List HV} {Q:HV→Heap→Prop} (h:HCalls P f H args Q) (hnm:∀r H',Q r H'→H=[]∧H'=[]):HCalls P f H args (fun r H'=>∃r0,Q r0 H'∧r=fzo r0):=by
 refine ⟨h.1,fun Z G FP w vals hi ha=>Calls.mono (h.2 Z G FP w vals hi ha) ?_⟩
 rintro e w' ⟨v,r,H',Z',G',FP',fr,rfl,hQ,hlen,hi',hr,hnd,hfr1,hfr2,hG,hE⟩
 obtain ⟨rfl,rfl⟩:=hnm r H' hQ
 refine ⟨v,fzo r,[],fun b=>Z' b∨b∈fr,G',FP',[],rfl,⟨r,hQ,rfl⟩,rfl,?_,?_,by simp,by simp,by simp,hG,⟨hE.os,hE.tape,hE.output,hE.size,hE.keep,fun b h=>.inl (hE.zle b h),fun b hb=>?_,hE.fnew⟩⟩
 ·refine hi'.zmore (fun b hb=>.inl hb) (fun b hb=>?_) (fun id b hb hz=>?_)
  ·rcases hb with hb | hb
   ·exact hi'.zlt b hb
   ·exact (hfr1 b hb).2.1
  ·rcases hz with hz | hz
   ·exact hi'.zfp id b hb hz
   ·exact (hfr1 b hz).2.2 id hb
 ·exact RV.nil_keep (fun _ _=>rfl) (fun _ h=>h) (nil_GLe G') (fzo_spec (Z':=fun b=>Z' b∨b∈fr) r G' v fr ⟨fun b hb=>.inl hb,fun b hb=>.inr hb⟩ hr)
 ·rcases hb with hb | hb
  ·exact hE.znew b hb
  ·rcases hfr2 b hb with h | h
   ·exact .inr (.inl h)
   ·exact .inr (.inr h)
theorem HFn.shut {f:FuncId} {args:List HV} {R R' : HV} (h:HFn P f args R) (hR:fzo R=R'):HFn P f args R':=by
 subst hR
 have h' : HFn P f args R:=h
 refine ⟨h'.1,fun Z G FP w vals hi ha=>Calls.mono (h'.2 Z G FP w vals hi ha) ?_⟩
 rintro e w' ⟨v,r,H',Z',G',FP',fr,rfl,rfl,hlen,hi',hr,hnd,hfr1,hfr2,hG,hE⟩
 refine ⟨v,fzo r,H',fun b=>Z' b∨b∈fr,G',FP',[],rfl,rfl,hlen,?_,?_,by simp,by simp,by simp,hG,⟨hE.os,hE.tape,hE.output,hE.size,hE.keep,fun b h=>.inl (hE.zle b h),fun b hb=>?_,hE.fnew⟩⟩
 ·refine hi'.zmore (fun b hb=>.inl hb) (fun b hb=>?_) (fun id b hb hz=>?_)
  ·rcases hb with hb | hb
   ·exact hi'.zlt b hb
   ·exact (hfr1 b hb).2.1
  ·rcases hz with hz | hz
   ·exact hi'.zfp id b hb hz
   ·exact (hfr1 b hz).2.2 id hb
 ·exact RV.nil_keep (fun _ _=>rfl) (fun _ h=>h) (nil_GLe G') (fzo_spec (Z':=fun b=>Z' b∨b∈fr) r G' v fr ⟨fun b hb=>.inl hb,fun b hb=>.inr hb⟩ hr)
 ·rcases hb with hb | hb
  ·exact hE.znew b hb
  ·rcases hfr2 b hb with h | h
   ·exact .inr (.inl h)
   ·exact .inr (.inr h)
theorem HCalls.plain {f:FuncId} {args:List HV} {R:HV} {H:Heap} (h:HFn P f args R) (hnm:nmL 0 args=true):HCalls P f H args (fun r H'=>r=R∧H'=H):=by
 refine ⟨h.1,fun Z G FP w vals hi ha=>?_⟩
 have ha' : RL Z [] w args vals []:=by
  have:=nmL_spec args 0 G vals [] hnm ha
  simpa using this
 refine Calls.mono (h.2 Z [] _ w vals (HInv.empty hi.zlt hi.glob) ha') ?_
 rintro e w' ⟨v,r,H',Z',G',FP',fr,rfl,rfl,hlen,hi',hr,hnd,hfr1,hfr2,hG,hE⟩
 have hk:∀b,b<w.heap.size→w'.heap[b]?=w.heap[b]?:=fun b hb=>hE.keep b hb (by simp)
 have hnew:∀b∈fr,w.heap.size≤b:=fun b hb=>by
  rcases hfr2 b hb with h | ⟨id,h⟩
  ·exact h
  ·simp at h
 have hznew:∀b,Z' b→Z b∨w.heap.size≤b:=fun b hb=>by
  rcases hE.znew b hb with h | h | ⟨id,h⟩
  ·exact .inl h
  ·exact .inr h
  ·simp at h
 have hH' : H'=[]:=List.eq_nil_of_length_eq_zero hlen
 subst hH'
 have hG' : G'=[]:=List.eq_nil_of_length_eq_zero hi'.len
 subst hG'
 refine ⟨v,r,H,Z',G,FP,fr,rfl,⟨rfl,rfl⟩,rfl,?_,RV.keep (fun _ _=>rfl) (fun _ h=>h) (nil_GLe G) r v fr (fun _ _=>rfl) hr,hnd,fun b hb=>?_,fun b hb=>.inl (hnew b hb),GLe.refl _,⟨hE.os,hE.tape,hE.output,hE.size,fun b hb _=>hk b hb,hE.zle,fun b hb=>?_,fun id b hb=>.inr ⟨id,hb⟩⟩⟩
 ·refine (hi.keep hE.size (fun b hb=>hk b (by
   rcases hb with hb | ⟨id,hb⟩
   ·exact hi.zlt b hb
   ·exact hi.flt id b hb))).zmore hE.zle hi'.zlt (fun id b hb hz=>?_)
  rcases hznew b hz with h | h
  ·exact hi.zfp id b hb h
  ·have:=hi.flt id b hb;omega
 ·refine ⟨(hfr1 b hb).1,(hfr1 b hb).2.1,fun id hc=>?_⟩
  have:=hi.flt id b hc;have:=hnew b hb;omega
 ·rcases hznew b hb with h | h
  ·exact .inl h
  ·exact .inr (.inl h)
section
variable {k:List Item→KS} {all l:List Oper} {d:Option Nat} {r:List Item} {T:Nat→HV} {H:Heap}
theorem callX_nm {fid:Nat} {args args' : List HV} {R:HV} (spec:HFn P fid args' R) (hargs:args=args') (hnm:nmL 0 args=true) (h:k (.ops all l::r) (updO T d (nameV R H).1) (nameV R H).2):callX k P fid H args all d l r T:=by
 subst hargs
 exact ⟨_,HCalls.plain spec hnm,fun x H' hx _=>by obtain ⟨rfl,rfl⟩:=hx;exact h⟩
end
def endF (P:Program) (rs:List ResultVar) (m:Nat) (Q:HV→Prop) (e:Exit) (T:Nat→HV) (H:Heap):Prop :=
 match e with
 | .normal=>retK P rs T H fun vs H'=>Q (fz m H' (retVs vs))
 | .ret=>retK P rs T H fun vs H'=>Q (fz m H' (retVs vs))
 | _=>False
theorem HFn_bodyF {f:FuncId} {fn:Func} {c:Code} {args:List HV} {R:HV} (m:Nat) (N:Nat) (rs:List ResultVar) (hf:P.funcs[f]?=some fn) (hb:fn.body=some c) (hres:fn.results.toList=rs) (hok:fnOkC fn N rs args.length=true)
  (h:HW P N 0 c (endF P rs m (fun x=>x=R)) (T0 args) []):HFn P f args R:=by
 simp only[fnOkC,Bool.and_eq_true,beq_iff_eq,Bool.not_eq_true'] at hok
 obtain ⟨⟨⟨hname,hNN⟩,hrlt⟩,hN0⟩:=hok
 subst hNN
 have hN:args.length≤fn.ntmps:=Nat.le_of_ble_eq_true hN0
 have hrlt:∀r∈rs,resTmp r<fn.ntmps:=fun i hi=>by simpa using List.all_eq_true.1 hrlt i hi
 have hne:¬fn.name = "runtime.NumGoroutine" :=by simpa using hname
 refine ⟨fun vals w=>by simp[callFunc,hf,hne,hb],fun Z G FP w vals hi ha=>?_⟩
 refine callsIn_wide.1 (callsIn_of_wp_marks (F:=Fence.wide) (n:=0) hf hb trivial ?_)
 have hlen:=RL_length _ _ _ ha
 have hsz:(vals.toArray++Array.replicate (fn.ntmps-vals.toArray.size) undef).size=fn.ntmps:=by simp;omega
 have hst:St fn.ntmps w.heap.size Z G FP [] (T0 args) [] { tmps:=vals.toArray++Array.replicate (fn.ntmps-vals.toArray.size) undef,defers:=[] } w :=
  ⟨hi,hsz,T0_spec fn.ntmps ha,rfl,by simp,by simp⟩
 have hG0:G=[]:=List.eq_nil_of_length_eq_zero hi.len
 refine wpIn_mono (h none 0 w.heap.size Z G FP [] _ w ⟨Nat.le_refl _,by simp⟩ (by omega) hst) ?_
 rintro e a' w' ⟨T',H',Z',G',FP',ds',hend,hs',hG',hE'⟩
 have he:e=.normal∨e=.ret:=by cases e <;> simp[endF] at hend <;> simp
 have hend' : retK P rs T' H' fun vs H''=>fz m H'' (retVs vs)=R:=by rcases he with rfl | rfl <;> exact hend
 have goal:LeavesInM Fence.wide 0 P fn a'.tmps (Post Z G FP [] w (fun r _=>r=R)) a'.defers .returning w':=by
  rw[hs'.defers]
  refine leaves_marks (ro:=none) ds' w' hs'.dsn (fun d hd=>(hs'.dsat d hd).2.1) ?_
  intro w2 ho ht hout hsz2 hk
  have hkeep:∀b,(Z' b∨∃id,b∈FP' id)→w2.heap[b]?=w'.heap[b]?:=by
   intro b hb
   refine hk b fun hc=>?_
   obtain ⟨_,_,h3,h4⟩:=hs'.dsat b hc
   rcases hb with hb | ⟨id,hb⟩
   ·exact h3 hb
   ·exact h4 id hb
  have hi2:HInv Z' G' FP' H' w2:=hs'.inv.keep (by omega) hkeep
  obtain ⟨vs,ys,H2,G2,FP2,r1,r2,r3,r4,hi3,hG2,hE3⟩:=run_retK rs H' _ G' FP' hend' hrlt hi2 (fun i hi'=>RV.nil_keep (fun b hb=>hkeep b (.inl hb)) (fun _ h=>h) (GLe.refl _) (hs'.tmps i hi'))
  obtain ⟨v,hrun,hv⟩:=run_results (fn:=fn) hres r1 r3
  refine ⟨v,hrun,?_⟩
  have hE2:Evo Z FP w Z' FP2 w2:=by
   have:Evo Z FP w Z' FP' w2:=by
    refine ⟨ho.trans hE'.os,ht.trans hE'.tape,hout.trans hE'.output,by rw[hsz2];exact hE'.size,fun b hb hf=>?_,hE'.zle,hE'.znew,hE'.fnew⟩
    rw[hk b (fun hc=>by have:=(hs'.dsat b hc).1;omega)]
    exact hE'.keep b hb hf
   exact this.trans hE3
  have hzlt:∀b,Zall Z' FP2 b→b<w2.heap.size:=by
   rintro b (hb | ⟨id,hb⟩)
   ·exact hi3.zlt b hb
   ·exact hi3.flt id b hb
  have hfz:=fz_spec hi3 m _ v [] (by simp) hv
  refine ⟨v,_,[],Zall Z' FP2,[],fun _=>[],[],rfl,r2,rfl,HInv.empty hzlt (hi3.glob.keep (fun b hb=>.inl hb) (fun _ _=>rfl)),hfz,by simp,by simp,by simp,?_,?_⟩
  ·subst hG0;exact GLe.refl _
  ·refine ⟨hE2.os,hE2.tape,hE2.output,hE2.size,hE2.keep,fun b hb=>.inl (hE2.zle b hb),fun b hb=>?_,fun id b hb=>by simp at hb⟩
   rcases hb with hb | ⟨id,hb⟩
   ·exact hE2.znew b hb
   ·rcases hE2.fnew id b hb with h | h
    ·exact .inr (.inl h)
    ·exact .inr (.inr h)
 rcases he with rfl | rfl <;> exact goal
section
variable {L:Nat} {T:Nat→HV} {H:Heap} {Q:HV→Prop} {m:Nat} {rs:List ResultVar}
theorem endF_ret:endF P rs m Q .ret T H=retK P rs T H fun vs H'=>Q (fz m H' (retVs vs)):=rfl
theorem endF_normal:endF P rs m Q .normal T H=retK P rs T H fun vs H'=>Q (fz m H' (retVs vs)):=rfl
end
end
attribute [go_sem] endF_ret endF_normal
end Go.Proofs.YtmapdjdnnhlpiaaGreatDoor
namespace Go.Proofs.YtmapdjdnnhlpiaaGreatDoor
open Go.RowKit
def isW:HV→Bool
 | .v _=>true
 | _=>false
section
variable {α:Type} {f:α→List HV} {n:Nat}
theorem nzL_allW:∀{l:List HV},l.all isW=true→nzL l=true
 | [],_=>rfl
 | h::t,hl=>by
  simp only[List.all_cons,Bool.and_eq_true] at hl
  have:nz h=true:=by
   cases h <;> first | rfl | (have:=hl.1;simp[isW] at this)
  simp only[nzL,this,nzL_allW hl.2,Bool.and_self]
theorem vals_nzR (h:∀a,(f a).all isW=true):∀l:List α,nzR (l.map f)=true
 | []=>rfl
 | a::t=>by simp only[List.map_cons,nzR,nzL_allW (h a),vals_nzR h t,Bool.and_self]
theorem fz_tu {k:Nat} {H:Heap} {cs:List HV}:fz (k+1) H (.tu cs)=.tu (cs.map (fz k H)):=rfl
end
attribute [go_sem] fz_tu
end Go.Proofs.YtmapdjdnnhlpiaaGreatDoor
namespace Go.Proofs.YtmapdjdnnhlpiaaGreatDoor
open Go.RowKit
section
variable {α:Type} [DecidableEq α]
def getM (kv:List (α×Int)) (k:α):Int:=((kv.find? fun e=>decide (k=e.1)).map (·.2)).getD 0
def inM (kv:List (α×Int)) (k:α):Bool:=kv.any fun e=>decide (k=e.1)
def setM (kv:List (α×Int)) (k:α) (v:Int):List (α×Int) :=
 match kv with
 | []=>[(k,v)]
 | e::r=>if k=e.1 then (k,v)::r else e::setM r k v
def entM (kv:List (α×Int)) (k:α):List (α×Int):=if inM kv k=true then kv else kv++[(k,0)]
def idxM (kv:List (α×Int)) (k:α):Nat:=(kv.findIdx fun e=>decide (k=e.1))
def esL (kf:α→Value):Nat→List (α×Int)→List MapEntry
 | _,[]=>[]
 | n,e::r=>⟨kf e.1,.int .i64 e.2,n⟩::esL kf (n+1) r
def esG (kf:α→Value) (kv:List (α×Int)):Array MapEntry:=(esL kf 0 kv).toArray
def mapG (kf:α→Value) (kv:List (α×Int)):HObj:=mapObj (esG kf kv) kv.length
def findI (k:α):List (α×Int)→Nat→Option (Nat×Value)
 | [],_=>none
 | e::r,i=>if k=e.1 then some (i,.int .i64 e.2) else findI k r (i+1)
variable {kf:α→Value} (hk:∀x y,keq (kf x) (kf y)=some (decide (x=y)))
include hk
theorem findV_esL (k:α):∀(kv:List (α×Int)) (n i:Nat),findV (kf k) (esL kf n kv) i=some (findI k kv i)
 | [],_,_=>rfl
 | e::r,n,i=>by
  simp only[esL,findV,hk,Option.bind_some,findI,decide_eq_true_eq,findV_esL k r (n+1) (i+1)]
  split <;> rfl
omit hk in
theorem findI_get (k:α):∀(kv:List (α×Int)) (i:Nat),((findI k kv i).map (·.2)).getD (.int .i64 0)=.int .i64 (getM kv k)∧(findI k kv i).isSome=inM kv k
 | [],_=>⟨rfl,rfl⟩
 | e::r,i=>by
  have ih:=findI_get k r (i+1)
  simp only[findI,getM,inM,List.find?_cons,List.any_cons] at ih⊢
  by_cases h:k=e.1
  ·simp[h]
  ·simpa [h] using ih
theorem lookV_esG (k:α) (kv:List (α×Int)):lookV (esG kf kv) (kf k) (.int .i64 0)=some (.int .i64 (getM kv k),inM kv k):=by
 unfold lookV esG
 rw[List.toList_toArray,findV_esL hk]
 simp only[Option.map_some,(findI_get k kv 0).1,(findI_get k kv 0).2]
omit hk in
theorem esL_append:∀(kv r:List (α×Int)) (n:Nat),esL kf n (kv++r)=esL kf n kv++esL kf (n+kv.length) r
 | [],r,n=>by simp[esL]
 | e::l,r,n=>by simp only[List.cons_append,esL,esL_append l r (n+1),List.length_cons];rw[show n+1+l.length=n+(l.length+1) by omega]
omit hk in
theorem esL_length:∀(kv:List (α×Int)) (n:Nat),(esL kf n kv).length=kv.length
 | [],_=>rfl
 | e::r,n=>by simp[esL,esL_length r]
omit hk in
theorem setM_none (k:α) (v:Int):∀(kv:List (α×Int)) (i:Nat),findI k kv i=none→setM kv k v=kv++[(k,v)]
 | [],_,_=>rfl
 | e::r,i,h=>by
  simp only[findI] at h
  split at h
  ·cases h
  ·rename_i hne;simp only[setM,if_neg hne,setM_none k v r (i+1) h,List.cons_append]
omit hk in
theorem setM_some (k:α) (v:Int):∀(kv:List (α×Int)) (n i j:Nat) (x:Value),findI k kv i=some (i+j,x)→(esL kf n kv).modify j (fun e=>{ e with key:=kf k,val:=.int .i64 v })=esL kf n (setM kv k v)∧(setM kv k v).length=kv.length
 | [],n,i,j,x,h=>by simp[findI] at h
 | e::r,n,i,j,x,h=>by
  simp only[findI] at h
  split at h
  ·rename_i he
   have:j=0:=by simp at h;omega
   subst this
   simp only[esL,setM,if_pos he,List.modify_zero_cons,List.length_cons,and_self]
  ·rename_i hne
   cases j with
   | zero =>
    exfalso
    have key:∀(l:List (α×Int)) (m:Nat),∀q y,findI k l m=some (q,y)→m≤q:=by
     intro l
     induction l with
     | nil=>intro m q y h;simp[findI] at h
     | cons a l ih =>
      intro m q y h
      simp only[findI] at h
      split at h
      ·simp at h;omega
      ·have:=ih _ _ _ h;omega
    have:=key _ _ _ _ h
    omega
   | succ j =>
    have:=setM_some k v r (n+1) (i+1) j x (by rw[show i+1+j=i+(j+1) by omega];exact h)
    simp only[esL,setM,if_neg hne,List.modify_succ_cons,this.1,List.length_cons,this.2,and_self]
theorem putO_esG (k:α) (v:Int) (kv:List (α×Int)):putO (esG kf kv) kv.length (kf k) (.int .i64 v)=some (mapG kf (setM kv k v)):=by
 unfold putO
 have e:(esG kf kv).toList=esL kf 0 kv:=by unfold esG;rw[List.toList_toArray]
 rw[e,findV_esL hk]
 simp only[Option.map_some,Option.some.injEq]
 cases h:findI k kv 0 with
 | none =>
  simp only[putE]
  rw[setM_none k v kv 0 h]
  unfold mapG
  have:(esG kf kv).push ⟨kf k,.int .i64 v,kv.length⟩=esG kf (kv++[(k,v)]):=by
   apply Array.ext'
   simp[esG,esL_append,esL]
  rw[this];simp
 | some r =>
  obtain ⟨j,x⟩:=r
  obtain ⟨h1,h2⟩:=setM_some (kf:=kf) k v kv 0 0 j x (by rw[Nat.zero_add];exact h)
  simp only[putE]
  unfold mapG
  rw[h2]
  have:(esG kf kv).modify j (fun e=>{ e with key:=kf k,val:=.int .i64 v })=esG kf (setM kv k v):=by
   apply Array.ext'
   rw[Array.toList_modify,e,h1];simp[esG]
  rw[this]
end
abbrev kI (x:Int):Value:=.int .i64 x
abbrev kP (x:Int×Int):Value:=.agg #[.int .i64 x.1,.int .i64 x.2]
def mapI (kv:List (Int×Int)):HObj:=mapG kI kv
def mapP (kv:List ((Int×Int)×Int)):HObj:=mapG kP kv
theorem mapOf_I {kv:List (Int×Int)}:mapOf (mapI kv)=some (esG kI kv,kv.length):=rfl
theorem mapOf_P {kv:List ((Int×Int)×Int)}:mapOf (mapP kv)=some (esG kP kv,kv.length):=rfl
theorem lookV_I {kv:List (Int×Int)} {k:Int}:lookV (esG kI kv) (.int .i64 k) (.int .i64 0)=some (.int .i64 (getM kv k),inM kv k):=lookV_esG (fun _ _=>keq_int) k kv
theorem lookV_P {kv:List ((Int×Int)×Int)} {a b:Int}:lookV (esG kP kv) (.agg #[.int .i64 a,.int .i64 b]) (.int .i64 0)=some (.int .i64 (getM kv (a,b)),inM kv (a,b)):=lookV_esG (kf:=kP) (fun _ _=>keq_ag2) (a,b) kv
theorem putO_I {kv:List (Int×Int)} {k v:Int}:putO (esG kI kv) kv.length (.int .i64 k) (.int .i64 v)=some (mapI (setM kv k v)):=putO_esG (fun _ _=>keq_int) k v kv
theorem putO_P {kv:List ((Int×Int)×Int)} {a b v:Int}:putO (esG kP kv) kv.length (.agg #[.int .i64 a,.int .i64 b]) (.int .i64 v)=some (mapP (setM kv (a,b) v)):=putO_esG (kf:=kP) (fun _ _=>keq_ag2) (a,b) v kv
attribute [go_sem] mapOf_I mapOf_P lookV_I lookV_P putO_I putO_P
end Go.Proofs.YtmapdjdnnhlpiaaGreatDoor
namespace Go.Proofs.YtmapdjdnnhlpiaaGreatDoor
open Go.RowKit
section
variable {α:Type} [DecidableEq α]
theorem getM_setM' (kv:List (α×Int)) (k:α) (v:Int) (j:α):getM (setM kv k v) j=if j=k then v else getM kv j:=by
 induction kv with
 | nil =>
  simp only[setM,getM,List.find?_cons,List.find?_nil]
  by_cases h:j=k <;> simp[h]
 | cons e r ih =>
  unfold setM
  by_cases h:k=e.1
  ·rw[if_pos h]
   simp only[getM,List.find?_cons]
   by_cases h2:j=k
   ·simp[h2]
   ·simp[h2,h▸h2]
  ·rw[if_neg h]
   simp only[getM,List.find?_cons] at ih⊢
   by_cases h2:j=e.1
   ·have:j≠k:=fun e'=>h (by rw[←e',h2])
    simp[h2,h2▸this]
   ·simp only[h2,decide_false] at ih⊢
    exact ih
def foldC (kv:List (α×Int)) (l:List α):List (α×Int):=l.foldl (fun kv n=>setM kv n (getM kv n+1)) kv
theorem foldC_cons (kv:List (α×Int)) (x:α) (l:List α):foldC kv (x::l)=foldC (setM kv x (getM kv x+1)) l:=rfl
theorem getM_foldC (n:α):∀(g:List α) (kv:List (α×Int)),getM (foldC kv g) n=getM kv n+((g.filter fun x=>decide (x=n)).length:Int)
 | [],kv=>by simp[foldC]
 | x::g,kv=>by
  rw[foldC_cons,getM_foldC n g,getM_setM']
  by_cases h:n=x
  ·subst h;simp;omega
  ·simp[h,Ne.symm h]
theorem getM_nil' (n:α):getM ([]:List (α×Int)) n=0:=rfl
theorem getM_entM (kv:List (α×Int)) (k j:α):getM (entM kv k) j=getM kv j:=by
 unfold entM
 split
 ·rfl
 ·rename_i h
  unfold getM
  rw[List.find?_append]
  cases hf:kv.find? (fun e=>decide (j=e.1)) with
  | some e=>rfl
  | none =>
   simp only[List.find?_cons,List.find?_nil,Option.none_or]
   by_cases hj:j=k <;> simp[hj]
variable {kf:α→Value} (hk:∀x y,keq (kf x) (kf y)=some (decide (x=y)))
theorem findI_idx (k:α):∀(kv:List (α×Int)) (i:Nat),findI k kv i=if inM kv k=true then some (i+idxM kv k,.int .i64 (getM kv k)) else none
 | [],i=>by simp[findI,inM]
 | e::r,i=>by
  have ih:=findI_idx k r (i+1)
  by_cases h:k=e.1
  ·have h1:inM (e::r) k=true:=by simp[inM,h]
   have h2:idxM (e::r) k=0:=by simp[idxM,List.findIdx_cons,h]
   have h3:getM (e::r) k=e.2:=by simp[getM,h]
   rw[h1,h2,h3]
   simp[findI,h]
  ·have h1:inM (e::r) k=inM r k:=by simp[inM,h]
   have h2:idxM (e::r) k=idxM r k+1:=by simp[idxM,List.findIdx_cons,h]
   have h3:getM (e::r) k=getM r k:=by simp[getM,List.find?_cons,h]
   rw[h1,h2,h3]
   simp only[findI,if_neg h]
   rw[ih,show i+1+idxM r k=i+(idxM r k+1) by omega]
theorem idxM_lt {kv:List (α×Int)} {k:α} (h:inM kv k=true):idxM kv k<kv.length:=by
 unfold idxM inM at *
 exact List.findIdx_lt_length_of_exists (by simpa [List.any_eq_true] using h)
theorem idxM_no {kv:List (α×Int)} {k:α} (h:inM kv k=false):idxM kv k=kv.length:=by
 unfold idxM inM at *
 refine List.findIdx_eq_length.2 fun x hx=>?_
 have:=List.any_eq_false.1 h x hx
 simpa using this
theorem esL_born:∀(kv:List (α×Int)) (n i:Nat),i<kv.length→((esL kf n kv)[i]?).map (·.born)=some (n+i)
 | [],n,i,h=>by simp at h
 | e::r,n,0,h=>by simp[esL]
 | e::r,n,i+1,h=>by
  simp only[esL,List.getElem?_cons_succ]
  rw[esL_born r (n+1) i (by simpa using h)]
  congr 1;omega
theorem esL_modify_key (k:α):∀(kv:List (α×Int)) (n i:Nat),(kv[i]?).map (·.1)=some k→(esL kf n kv).modify i (fun e=>{ e with key:=kf k })=esL kf n kv
 | [],n,i,h=>by simp at h
 | e::r,n,0,h=>by
  simp only[List.getElem?_cons_zero,Option.map_some,Option.some.injEq] at h
  simp[esL,h]
 | e::r,n,i+1,h=>by
  simp only[List.getElem?_cons_succ] at h
  simp only[esL,List.modify_succ_cons]
  rw[esL_modify_key k r (n+1) i h]
theorem idxM_key {kv:List (α×Int)} {k:α} (h:inM kv k=true):(kv[idxM kv k]?).map (·.1)=some k:=by
 have hl:=idxM_lt h
 have:=List.findIdx_getElem (w:=(hl:kv.findIdx (fun e=>decide (k=e.1))<kv.length))
 rw[List.getElem?_eq_getElem hl]
 simp only[decide_eq_true_eq] at this
 simp only[Option.map_some,Option.some.injEq]
 exact this.symm
include hk
theorem entO_esG (k:α) (kv:List (α×Int)):entO (esG kf kv) kv.length (kf k) (.int .i64 0)=some (.int .i64 (getM kv k),idxM kv k,mapG kf (entM kv k)):=by
 unfold entO
 have e:(esG kf kv).toList=esL kf 0 kv:=by unfold esG;rw[List.toList_toArray]
 rw[e,findV_esL hk,findI_idx]
 cases h:inM kv k with
 | true =>
  simp only[if_true,Option.map_some,entV,entE,Nat.zero_add,entM,h]
  have h1:((esG kf kv)[idxM kv k]?).map (·.born)=some (idxM kv k):=by
   rw[←Array.getElem?_toList,e,esL_born kv 0 _ (idxM_lt h),Nat.zero_add]
  rw[h1]
  have h2:(esG kf kv).modify (idxM kv k) (fun e=>{ e with key:=kf k })=esG kf kv:=by
   apply Array.ext'
   rw[Array.toList_modify,e,esL_modify_key k kv 0 _ (idxM_key h)]
  rw[h2];rfl
 | false =>
  have hg:getM kv k=0:=by
   unfold getM
   rw[List.find?_eq_none.2 fun x hx=>by
    have:=List.any_eq_false.1 h x hx
    simpa using this]
   rfl
  simp only[Bool.false_eq_true,if_false,Option.map_some,Option.map_none,entV,entE,entM,h,hg,idxM_no h]
  have:(esG kf kv).push ⟨kf k,.int .i64 0,kv.length⟩=esG kf (kv++[(k,0)]):=by
   apply Array.ext'
   simp[esG,esL_append,esL]
  rw[this]
  unfold mapG
  simp
omit hk
theorem esL_find:∀(kv:List (α×Int)) (n i:Nat),i<kv.length→(esL kf n kv).findIdx? (fun e=>((e.born:Int) == ((n+i:Nat):Int)))=some i
 | [],n,i,h=>by simp at h
 | e::r,n,0,h=>by simp[esL,List.findIdx?_cons]
 | e::r,n,i+1,h=>by
  simp only[esL,List.findIdx?_cons]
  have:((n:Int) == ((n+(i+1):Nat):Int))=false:=by
   rw[beq_eq_false_iff_ne];omega
  rw[this]
  have ih:=esL_find r (n+1) i (by simpa using h)
  rw[show n+1+i=n+(i+1) by omega] at ih
  simp only[Bool.false_eq_true,if_false]
  rw[ih];rfl
theorem esL_store (k:α) (v:Int):∀(kv:List (α×Int)) (n:Nat),inM kv k=true→(esL kf n kv).modify (idxM kv k) (fun e=>{ e with val:=.int .i64 v })=esL kf n (setM kv k v)
 | [],n,h=>by simp[inM] at h
 | e::r,n,h=>by
  unfold setM
  by_cases he:k=e.1
  ·have:idxM (e::r) k=0:=by unfold idxM;simp[List.findIdx_cons,he]
   rw[this,if_pos he]
   simp[esL,he]
  ·have:idxM (e::r) k=idxM r k+1:=by unfold idxM;simp[List.findIdx_cons,he]
   rw[this,if_neg he]
   simp only[esL,List.modify_succ_cons]
   rw[esL_store k v r (n+1) (by simpa [inM,he] using h)]
theorem setM_len {k:α} {v:Int}:∀{kv:List (α×Int)},inM kv k=true→(setM kv k v).length=kv.length
 | [],h=>by simp[inM] at h
 | e::r,h=>by
  unfold setM
  by_cases he:k=e.1
  ·rw[if_pos he];simp
  ·rw[if_neg he]
   simp only[List.length_cons]
   rw[setM_len (by simpa [inM,he] using h)]
theorem inM_entM (kv:List (α×Int)) (k:α):inM (entM kv k) k=true:=by
 unfold entM
 split
 ·assumption
 ·simp[inM]
theorem idxM_entM (kv:List (α×Int)) (k:α):idxM (entM kv k) k=idxM kv k:=by
 unfold entM
 split
 ·rfl
 ·rename_i h
  have h:inM kv k=false:=by simpa using h
  rw[idxM_no h]
  unfold idxM
  rw[List.findIdx_append]
  have h1:kv.findIdx (fun e=>decide (k=e.1))=kv.length:=idxM_no h
  rw[h1,if_neg (by omega)]
  simp
theorem setM_entM (kv:List (α×Int)) (k:α) (v:Int):setM (entM kv k) k v=setM kv k v:=by
 unfold entM
 split
 ·rfl
 ·rename_i h
  have h:inM kv k=false:=by simpa using h
  induction kv with
  | nil=>simp[setM]
  | cons e r ih =>
   simp only[inM,List.any_cons,Bool.or_eq_false_iff,decide_eq_false_iff_not] at h
   simp only[List.cons_append,setM,if_neg h.1]
   rw[ih (by unfold inM;rw[h.2];simp) h.2]
theorem stoO_esG (k:α) (v:Int) (kv:List (α×Int)):stoO (esG kf (entM kv k)) (entM kv k).length ((idxM kv k:Nat):Int) (.int .i64 v)=some (mapG kf (setM kv k v)):=by
 unfold stoO
 rw[←idxM_entM kv k,←setM_entM kv k]
 have hin:=inM_entM kv k
 generalize entM kv k=m at hin
 have e:(esG kf m).toList=esL kf 0 m:=by unfold esG;rw[List.toList_toArray]
 have h1:=esL_find (kf:=kf) m 0 (idxM m k) (idxM_lt hin)
 rw[Nat.zero_add] at h1
 have h3:(esG kf m).findIdx? (fun e=>((e.born:Int) == ((idxM m k:Nat):Int)))=some (idxM m k):=by
  rw[←h1,←e]
  obtain ⟨l⟩:=esG kf m
  simp
 rw[h3]
 simp only[Option.map_some,Option.some.injEq]
 unfold mapG
 rw[setM_len hin]
 have h2:(esG kf m).modify (idxM m k) (fun e=>{ e with val:=.int .i64 v })=esG kf (setM m k v):=by
  apply Array.ext'
  rw[Array.toList_modify,e,esL_store k v m 0 hin];simp[esG]
 rw[h2]
end
theorem entO_P {kv:List ((Int×Int)×Int)} {a b:Int}:entO (esG kP kv) kv.length (.agg #[.int .i64 a,.int .i64 b]) (.int .i64 0)=some (.int .i64 (getM kv (a,b)),idxM kv (a,b),mapP (entM kv (a,b))):=entO_esG (kf:=kP) (fun _ _=>keq_ag2) (a,b) kv
theorem entO_I {kv:List (Int×Int)} {a:Int}:entO (esG kI kv) kv.length (.int .i64 a) (.int .i64 0)=some (.int .i64 (getM kv a),idxM kv a,mapI (entM kv a)):=entO_esG (kf:=kI) (fun _ _=>keq_int) a kv
theorem stoO_P {kv:List ((Int×Int)×Int)} {k:Int×Int} {v:Int}:stoO (esG kP (entM kv k)) (entM kv k).length ((idxM kv k:Nat):Int) (.int .i64 v)=some (mapP (setM kv k v)):=stoO_esG k v kv
theorem stoO_I {kv:List (Int×Int)} {k:Int} {v:Int}:stoO (esG kI (entM kv k)) (entM kv k).length ((idxM kv k:Nat):Int) (.int .i64 v)=some (mapI (setM kv k v)):=stoO_esG k v kv
theorem getM_entP {kv:List ((Int×Int)×Int)} {k j:Int×Int}:getM (entM kv k) j=getM kv j:=getM_entM kv k j
theorem getM_entI {kv:List (Int×Int)} {k j:Int}:getM (entM kv k) j=getM kv j:=getM_entM kv k j
theorem nmR_mapI {kv:List (Int×Int)} {m:Nat}:nmR m (mapI kv).rows=true:=rfl
theorem nmR_mapP {kv:List ((Int×Int)×Int)} {m:Nat}:nmR m (mapP kv).rows=true:=rfl
attribute [go_sem] nmR_mapI nmR_mapP entO_P entO_I stoO_P stoO_I getM_entP getM_entI
end Go.Proofs.YtmapdjdnnhlpiaaGreatDoor
namespace Go.Proofs.YtmapdjdnnhlpiaaGreatDoor
open Go.RowKit
abbrev kS (x:List UInt8):Value:=str x
def mapS (kv:List (List UInt8×Int)):HObj:=mapG kS kv
theorem keq_strS (x y:List UInt8):keq (kS x) (kS y)=some (decide (x=y)):=rfl
theorem mapOf_S {kv:List (List UInt8×Int)}:mapOf (mapS kv)=some (esG kS kv,kv.length):=rfl
theorem lookV_S {kv:List (List UInt8×Int)} {k:List UInt8}:lookV (esG kS kv) (str k) (.int .i64 0)=some (.int .i64 (getM kv k),inM kv k):=lookV_esG (kf:=kS) keq_strS k kv
theorem putO_S {kv:List (List UInt8×Int)} {k:List UInt8} {v:Int}:putO (esG kS kv) kv.length (str k) (.int .i64 v)=some (mapS (setM kv k v)):=putO_esG (kf:=kS) keq_strS k v kv
theorem entO_S {kv:List (List UInt8×Int)} {a:List UInt8}:entO (esG kS kv) kv.length (str a) (.int .i64 0)=some (.int .i64 (getM kv a),idxM kv a,mapS (entM kv a)):=entO_esG (kf:=kS) keq_strS a kv
theorem stoO_S {kv:List (List UInt8×Int)} {k:List UInt8} {v:Int}:stoO (esG kS (entM kv k)) (entM kv k).length ((idxM kv k:Nat):Int) (.int .i64 v)=some (mapS (setM kv k v)):=stoO_esG k v kv
theorem getM_entS {kv:List (List UInt8×Int)} {k j:List UInt8}:getM (entM kv k) j=getM kv j:=getM_entM kv k j
theorem nmR_mapS {kv:List (List UInt8×Int)} {m:Nat}:nmR m (mapS kv).rows=true:=rfl
attribute [go_sem] nmR_mapS mapOf_S lookV_S putO_S entO_S stoO_S getM_entS
end Go.Proofs.YtmapdjdnnhlpiaaGreatDoor
namespace Go.Proofs.YtmapdjdnnhlpiaaGreatDoor
open Go.RowKit
set_option maxRecDepth 8000
structure Fl where
 name:List UInt8
 init:List (List UInt8×Int)
 thr:List (List LT)
 all:Bool
 cond:List AT
 deriving DecidableEq
def lnrow (x:LT):List HV:=[.v (.int .i64 x.op),.v (str x.rg),.v (str x.loc),.v (str x.lab),.v (.int .i64 x.n)]
def lns (l:List LT):List (List HV):=l.map lnrow
theorem lns_flat:Plain lnrow 5:=⟨fun _=>rfl,fun _=>rfl⟩
theorem lns_nil:lns []=[]:=rfl
theorem lns_append {a b:List LT}:lns a++lns b=lns (a++b):=by simp[lns]
theorem lns_length {l:List LT}:(lns l).length=l.length:=by simp[lns]
theorem lns_get {l:List LT} {i:Nat}:(lns l)[i]?=l[i]?.map lnrow:=by simp[lns]
theorem lns_drop {l:List LT} {i:Nat}:(lns l).drop i=lns (l.drop i):=by simp[lns,List.map_drop]
theorem lns_take {l:List LT} {i:Nat}:(lns l).take i=lns (l.take i):=by simp[lns,List.map_take]
theorem lns_rowsLen {l:List LT}:RowsLen (lns l) 5=True:=lns_flat.rowsLen l
theorem lns_tvs {l:List LT}:tvs (lns l).flatten=true:=lns_flat.tvs l
theorem lns_nmR {l:List LT} {m:Nat}:nmR m (lns l)=true:=lns_flat.nmR l
theorem lns_fz {l:List LT} {k:Nat} {H:Heap}:(lns l).map (fun r=>r.map (fz k H))=lns l:=lns_flat.fz l
theorem lns_fzoR {l:List LT}:fzoR (lns l)=lns l:=lns_flat.fzoR l
theorem lns_nzR {l:List LT}:nzR (lns l)=true:=vals_nzR (fun _=>rfl) l
attribute [go_sem] lns_nil lns_append lns_length lns_get lns_drop lns_take lns_rowsLen lns_tvs lns_nmR lns_fz lns_fzoR lns_nzR lnrow
def crow (x:List UInt8×Int):List HV:=[.v (str x.1),.v (.int .i64 x.2)]
def cls (l:List (List UInt8×Int)):List (List HV):=l.map crow
theorem cls_flat:Plain crow 2:=⟨fun _=>rfl,fun _=>rfl⟩
theorem cls_nil:cls []=[]:=rfl
theorem cls_append {a b:List (List UInt8×Int)}:cls a++cls b=cls (a++b):=by simp[cls]
theorem cls_length {l:List (List UInt8×Int)}:(cls l).length=l.length:=by simp[cls]
theorem cls_get {l:List (List UInt8×Int)} {i:Nat}:(cls l)[i]?=l[i]?.map crow:=by simp[cls]
theorem cls_drop {l:List (List UInt8×Int)} {i:Nat}:(cls l).drop i=cls (l.drop i):=by simp[cls,List.map_drop]
theorem cls_take {l:List (List UInt8×Int)} {i:Nat}:(cls l).take i=cls (l.take i):=by simp[cls,List.map_take]
theorem cls_rowsLen {l:List (List UInt8×Int)}:RowsLen (cls l) 2=True:=cls_flat.rowsLen l
theorem cls_tvs {l:List (List UInt8×Int)}:tvs (cls l).flatten=true:=cls_flat.tvs l
theorem cls_nmR {l:List (List UInt8×Int)} {m:Nat}:nmR m (cls l)=true:=cls_flat.nmR l
theorem cls_fz {l:List (List UInt8×Int)} {k:Nat} {H:Heap}:(cls l).map (fun r=>r.map (fz k H))=cls l:=cls_flat.fz l
theorem cls_fzoR {l:List (List UInt8×Int)}:fzoR (cls l)=cls l:=cls_flat.fzoR l
theorem cls_nzR {l:List (List UInt8×Int)}:nzR (cls l)=true:=vals_nzR (fun _=>rfl) l
attribute [go_sem] cls_nil cls_append cls_length cls_get cls_drop cls_take cls_rowsLen cls_tvs cls_nmR cls_fz cls_fzoR cls_nzR crow
def arow (x:AT):List HV:=[.v (.int .i64 x.th),.v (str x.nm),.v (.int .i64 x.n)]
def ats (l:List AT):List (List HV):=l.map arow
theorem ats_flat:Plain arow 3:=⟨fun _=>rfl,fun _=>rfl⟩
theorem ats_nil:ats []=[]:=rfl
theorem ats_append {a b:List AT}:ats a++ats b=ats (a++b):=by simp[ats]
theorem ats_length {l:List AT}:(ats l).length=l.length:=by simp[ats]
theorem ats_get {l:List AT} {i:Nat}:(ats l)[i]?=l[i]?.map arow:=by simp[ats]
theorem ats_drop {l:List AT} {i:Nat}:(ats l).drop i=ats (l.drop i):=by simp[ats,List.map_drop]
theorem ats_take {l:List AT} {i:Nat}:(ats l).take i=ats (l.take i):=by simp[ats,List.map_take]
theorem ats_rowsLen {l:List AT}:RowsLen (ats l) 3=True:=ats_flat.rowsLen l
theorem ats_tvs {l:List AT}:tvs (ats l).flatten=true:=ats_flat.tvs l
theorem ats_nmR {l:List AT} {m:Nat}:nmR m (ats l)=true:=ats_flat.nmR l
theorem ats_fz {l:List AT} {k:Nat} {H:Heap}:(ats l).map (fun r=>r.map (fz k H))=ats l:=ats_flat.fz l
theorem ats_fzoR {l:List AT}:fzoR (ats l)=ats l:=ats_flat.fzoR l
theorem ats_nzR {l:List AT}:nzR (ats l)=true:=vals_nzR (fun _=>rfl) l
attribute [go_sem] ats_nil ats_append ats_length ats_get ats_drop ats_take ats_rowsLen ats_tvs ats_nmR ats_fz ats_fzoR ats_nzR arow
def irow (x:Int):List HV:=[.v (.int .i64 x)]
def ints (l:List Int):List (List HV):=l.map irow
theorem ints_flat:Plain irow 1:=⟨fun _=>rfl,fun _=>rfl⟩
theorem ints_nil:ints []=[]:=rfl
theorem ints_append {a b:List Int}:ints a++ints b=ints (a++b):=by simp[ints]
theorem ints_length {l:List Int}:(ints l).length=l.length:=by simp[ints]
theorem ints_get {l:List Int} {i:Nat}:(ints l)[i]?=l[i]?.map irow:=by simp[ints]
theorem ints_drop {l:List Int} {i:Nat}:(ints l).drop i=ints (l.drop i):=by simp[ints,List.map_drop]
theorem ints_take {l:List Int} {i:Nat}:(ints l).take i=ints (l.take i):=by simp[ints,List.map_take]
theorem ints_rowsLen {l:List Int}:RowsLen (ints l) 1=True:=ints_flat.rowsLen l
theorem ints_tvs {l:List Int}:tvs (ints l).flatten=true:=ints_flat.tvs l
theorem ints_nmR {l:List Int} {m:Nat}:nmR m (ints l)=true:=ints_flat.nmR l
theorem ints_fz {l:List Int} {k:Nat} {H:Heap}:(ints l).map (fun r=>r.map (fz k H))=ints l:=ints_flat.fz l
theorem ints_fzoR {l:List Int}:fzoR (ints l)=ints l:=ints_flat.fzoR l
theorem ints_nzR {l:List Int}:nzR (ints l)=true:=vals_nzR (fun _=>rfl) l
attribute [go_sem] ints_nil ints_append ints_length ints_get ints_drop ints_take ints_rowsLen ints_tvs ints_nmR ints_fz ints_fzoR ints_nzR irow
def tdrow (x:List LT):List HV:=[.sl (lns x)]
def tds (l:List (List LT)):List (List HV):=l.map tdrow
theorem tds_flat:Plain tdrow 1:=⟨fun _=>rfl,fun _=>rfl⟩
theorem tds_nil:tds []=[]:=rfl
theorem tds_append {a b:List (List LT)}:tds a++tds b=tds (a++b):=by simp[tds]
theorem tds_length {l:List (List LT)}:(tds l).length=l.length:=by simp[tds]
theorem tds_get {l:List (List LT)} {i:Nat}:(tds l)[i]?=l[i]?.map tdrow:=by simp[tds]
theorem tds_drop {l:List (List LT)} {i:Nat}:(tds l).drop i=tds (l.drop i):=by simp[tds,List.map_drop]
theorem tds_take {l:List (List LT)} {i:Nat}:(tds l).take i=tds (l.take i):=by simp[tds,List.map_take]
theorem tds_rowsLen {l:List (List LT)}:RowsLen (tds l) 1=True:=tds_flat.rowsLen l
theorem tds_tvs {l:List (List LT)}:tvs (tds l).flatten=true:=tds_flat.tvs l
theorem tds_nmR {l:List (List LT)} {m:Nat}:nmR m (tds l)=true:=tds_flat.nmR l
theorem tds_fz {l:List (List LT)} {k:Nat} {H:Heap}:(tds l).map (fun r=>r.map (fz k H))=tds l:=tds_flat.fz l
theorem tds_fzoR {l:List (List LT)}:fzoR (tds l)=tds l:=tds_flat.fzoR l
attribute [go_sem] tds_nil tds_append tds_length tds_get tds_drop tds_take tds_rowsLen tds_tvs tds_nmR tds_fz tds_fzoR tdrow
abbrev fileH (f:Fl):HV:=.ag [.v (str f.name),.sl (cls f.init),.sl (tds f.thr),.v (.bool f.all),.sl (ats f.cond)]
def noFl:Fl:=⟨[],[],[],false,[]⟩
theorem lns_snocL {l:List LT} {a:Int} {b c d:List UInt8} {e:Int}:lns l++[[.v (.int .i64 a),.v (str b),.v (str c),.v (str d),.v (.int .i64 e)]]=lns (l++[⟨a,b,c,d,e⟩]):=by simp[lns,lnrow]
theorem cls_snocL {l:List (List UInt8×Int)} {a:List UInt8} {b:Int}:cls l++[[.v (str a),.v (.int .i64 b)]]=cls (l++[(a,b)]):=by simp[cls,crow]
theorem ats_snocL {l:List AT} {a:Int} {b:List UInt8} {c:Int}:ats l++[[.v (.int .i64 a),.v (str b),.v (.int .i64 c)]]=ats (l++[⟨a,b,c⟩]):=by simp[ats,arow]
theorem ints_snocL {l:List Int} {x:Int}:ints l++[[.v (.int .i64 x)]]=ints (l++[x]):=by simp[ints,irow]
def lwrow (x:List Int):List HV:=[.sl (ints x)]
def lws (l:List (List Int)):List (List HV):=l.map lwrow
theorem lws_flat:Plain lwrow 1:=⟨fun _=>rfl,fun _=>rfl⟩
theorem lws_nil:lws []=[]:=rfl
theorem lws_append {a b:List (List Int)}:lws a++lws b=lws (a++b):=by simp[lws]
theorem lws_length {l:List (List Int)}:(lws l).length=l.length:=by simp[lws]
theorem lws_get {l:List (List Int)} {i:Nat}:(lws l)[i]?=l[i]?.map lwrow:=by simp[lws]
theorem lws_drop {l:List (List Int)} {i:Nat}:(lws l).drop i=lws (l.drop i):=by simp[lws,List.map_drop]
theorem lws_take {l:List (List Int)} {i:Nat}:(lws l).take i=lws (l.take i):=by simp[lws,List.map_take]
theorem lws_rowsLen {l:List (List Int)}:RowsLen (lws l) 1=True:=lws_flat.rowsLen l
theorem lws_tvs {l:List (List Int)}:tvs (lws l).flatten=true:=lws_flat.tvs l
theorem lws_nmR {l:List (List Int)} {m:Nat}:nmR m (lws l)=true:=lws_flat.nmR l
theorem lws_fz {l:List (List Int)} {k:Nat} {H:Heap}:(lws l).map (fun r=>r.map (fz k H))=lws l:=lws_flat.fz l
theorem lws_fzoR {l:List (List Int)}:fzoR (lws l)=lws l:=lws_flat.fzoR l
attribute [go_sem] lws_nil lws_append lws_length lws_get lws_drop lws_take lws_rowsLen lws_tvs lws_nmR lws_fz lws_fzoR lwrow
attribute [go_sem] lns_snocL cls_snocL ats_snocL ints_snocL
end Go.Proofs.YtmapdjdnnhlpiaaGreatDoor
namespace Go.Proofs.YtmapdjdnnhlpiaaGreatDoor
open Go.RowKit
set_option maxRecDepth 8000
def ltS (a b:List UInt8):Bool:=Op.bytesLess a b
def leS (a b:List UInt8):Bool:=Op.bytesLess a b || decide (a=b)
section
variable {P:Program}
theorem binRes_slss {t:TypeId} {c:Bool} {a b:List UInt8}:binRes P .lss t c (.v (str a)) (.v (str b))=some (.bool (ltS a b)):=rfl
theorem binRes_sleq {t:TypeId} {c:Bool} {a b:List UInt8}:binRes P .leq t c (.v (str a)) (.v (str b))=some (.bool (leS a b)):=rfl
end
theorem keyIs_strS {x:List UInt8}:keyIs Tryz.prog 9 (str x)=True:=eq_true (show kindIs Tryz.prog 9 4=true by kernel_rfl)
theorem keqS {x:List UInt8}:(keq (str x) (str x)=some true)=True:=by rw[show keq (str x) (str x)=some (decide (x=x)) from rfl];simp
attribute [go_sem] binRes_slss binRes_sleq keyIs_strS keqS
section
variable {α:Type} [DecidableEq α]
theorem foldC_snoc (kv:List (α×Int)) (l:List α) (x:α):foldC kv (l++[x])=setM (foldC kv l) x (getM (foldC kv l) x+1):=by simp[foldC,List.foldl_append]
theorem getM_foldC0 (l:List α) (x:α):0≤getM (foldC [] l) x∧getM (foldC [] l) x≤l.length:=by
 rw[getM_foldC,getM_nil']
 have:=List.length_filter_le (fun y=>decide (y=x)) l
 omega
theorem setM_keys (k:α) (v:Int) (x:α):∀kv:List (α×Int),x∈(setM kv k v).map (·.1)↔x∈kv.map (·.1)∨x=k
 | []=>by simp[setM]
 | e::r=>by
  unfold setM
  split
  ·rename_i h;subst h;simp;grind
  ·have:=setM_keys k v x r
   simp only[List.map_cons,List.mem_cons,this]
   grind
theorem setM_nodup (k:α) (v:Int):∀kv:List (α×Int),(kv.map (·.1)).Nodup→((setM kv k v).map (·.1)).Nodup
 | [],_=>by simp[setM]
 | e::r,h=>by
  simp only[List.map_cons,List.nodup_cons] at h
  unfold setM
  split
  ·rename_i hk;subst hk;simpa using h
  ·rename_i hk
   simp only[List.map_cons,List.nodup_cons]
   refine ⟨fun hm=>?_,setM_nodup k v r h.2⟩
   rcases (setM_keys k v e.1 r).1 hm with h1 | h1
   ·exact h.1 h1
   ·exact hk h1.symm
theorem foldC_nodup:∀(l:List α) (kv:List (α×Int)),(kv.map (·.1)).Nodup→((foldC kv l).map (·.1)).Nodup
 | [],_,h=>h
 | x::l,kv,h=>by rw[foldC_cons];exact foldC_nodup l _ (setM_nodup x _ kv h)
theorem foldC_keys (x:α):∀(l:List α) (kv:List (α×Int)),x∈(foldC kv l).map (·.1)↔x∈kv.map (·.1)∨x∈l
 | [],kv=>by simp[foldC]
 | y::l,kv=>by
  rw[foldC_cons,foldC_keys x l,setM_keys]
  simp only[List.mem_cons]
  grind
theorem setM_len_le' (k:α) (v:Int):∀kv:List (α×Int),(setM kv k v).length≤kv.length+1
 | []=>by simp[setM]
 | e::r=>by
  unfold setM
  split
  ·simp
  ·have:=setM_len_le' k v r
   simp;omega
theorem foldC_len:∀(l:List α) (kv:List (α×Int)),(foldC kv l).length≤kv.length+l.length
 | [],kv=>by simp[foldC]
 | y::l,kv=>by
  rw[foldC_cons]
  have h1:=foldC_len l (setM kv y (getM kv y+1))
  have h2:=setM_len_le' y (getM kv y+1) kv
  simp only[List.length_cons];omega
end
def labN (s:List UInt8) (l:List LT):Nat:=(l.filter fun x=>decide (x.op=11) && decide (x.lab=s)).length
def mrkN (l:List LT):Nat:=(l.filter fun x=>decide (x.op=11)).length
def fenN (l:List LT):Nat:=(l.filter fun x=>decide (x.op=6)).length
def insN (l:List LT):Nat:=(l.filter fun x=>decide (x.op≠6) && decide (x.op≠11)).length
def fenB (l:List LT):Bool:=match l.getLast? with | some x=>decide (x.op=6) | none=>false
def lineE (a:List LT) (x:LT) (b:List LT):Int :=
 if x.right=false then 11
 else if x.op=11∧0<labN x.lab a then 21
 else if x.op=6∧fenB a=true then 23
 else if 8≤x.op∧x.op≤10∧labN x.lab b=0 then 22
 else if (x.op≠6∧x.op≠11∧8≤insN a)∨(x.op=11∧8≤mrkN a) then 5
 else 0
def thrE (a:List LT):List LT→Option (Nat×Int)
 | []=>none
 | x::b=>if lineE a x b=0 then thrE (a++[x]) b else some (a.length,lineE a x b)
def iniE (last:List UInt8):List (List UInt8×Int)→Int
 | []=>0
 | c::r=>if nameB c.1=false then 22 else if leS c.1 last=true then 21 else iniE c.1 r
def headE (f:Fl):Int :=
 if nameB f.name=false then 22
 else if iniE [] f.init≠0 then iniE [] f.init
 else if f.thr.length<1∨3<f.thr.length then 5 else 0
def conE (n i:Nat):List AT→Option (Nat×Int)
 | []=>none
 | a::r=>if 6≤i then some (i,5) else if askedB a.th a.nm=false then some (i,1) else if (n:Int)≤a.th then some (i,22) else conE n (i+1) r
def locL (f:Fl):List (List UInt8) :=
 f.init.map (·.1)++(f.thr.flatMap fun l=>(l.map (·.loc)).filter fun s=>decide (s≠[]))++((f.cond.filter fun a=>decide (a.th = -1)).map (·.nm))
end Go.Proofs.YtmapdjdnnhlpiaaGreatDoor
namespace Go.Proofs.YtmapdjdnnhlpiaaGreatDoor
open Go.RowKit
section
variable {P:Program} {H:Heap}
theorem rop_congr {T T' : Nat→HV} {op:Op} (h:∀x∈op.operands.toList,hev T x=hev T' x):rop P T H op=rop P T' H op:=by
 have h1:∀x,x∈op.operands→hev T x=hev T' x:=fun x hx=>h x (by simpa using hx)
 clear h
 unfold rop
 split <;> simp only[Op.operands,Call.operands] at h1
 case h_6 t parts =>
  have e:parts.toList.map (fun p=>(p.1,hev T p.2))=parts.toList.map (fun p=>(p.1,hev T' p.2)):=by
   apply List.map_congr_left
   intro p hp
   rw[h1 p.2 (by simp;exact ⟨p.1,by simpa using hp⟩)]
  simp only[e]
 case h_7 t len parts =>
  have hp:∀p∈parts.toList,hev T p.2=hev T' p.2:=fun p hp=>h1 p.2 (by simp;exact ⟨p.1,by simpa using hp⟩)
  have e1:∀n (l:List (Nat×Operand)),(∀p∈l,hev T p.2=hev T' p.2)→PartsOk T n l=PartsOk T' n l:=by
   intro n l
   induction l with
   | nil=>intro _;rfl
   | cons p l ih =>
    intro hp
    simp only[PartsOk]
    rw[hp p (by simp),ih (fun q hq=>hp q (by simp[hq]))]
  have e2:parts.toList.map (fun p=>cellsH (hev T p.2))=parts.toList.map (fun p=>cellsH (hev T' p.2)):=by
   apply List.map_congr_left
   intro p hq
   rw[hp p hq]
  simp only[rbuildSlice,e2,e1 _ _ hp]
 case h_15 f first cs =>
  split
  ·have e:cs.toList.map (hev T)=cs.toList.map (hev T'):=hevs_congr fun x hx=>h1 x (by simp;simpa using hx)
   simp only[e]
  ·rename_i y
   have e:cs.toList.map (hev T)=cs.toList.map (hev T'):=hevs_congr fun x hx=>h1 x (by simp;exact .inr (by simpa using hx))
   simp only[e,h1 y (by simp)]
  ·rfl
 case h_19 t x lo hi _ _ =>
  have e1:lo.map (hev T)=lo.map (hev T'):=by cases lo with
   | none=>rfl
   | some y=>simp only[Option.map_some,h1 y (by simp)]
  have e2:hi.map (hev T)=hi.map (hev T'):=by cases hi with
   | none=>rfl
   | some y=>simp only[Option.map_some,h1 y (by simp)]
  simp only[e1,e2,h1 x (by simp)]
 all_goals first
  | rfl
  | (rename_i x;simp only[h1 x (by simp)];done)
  | (rename_i x _;simp only[h1 x (by simp)];done)
  | (rename_i x y _;simp only[h1 x (by simp),h1 y (by simp)];done)
  | (rename_i x y;simp only[h1 x (by simp),h1 y (by simp)];done)
  | (rename_i x y z;simp only[h1 x (by simp),h1 y (by simp),h1 z (by simp)];done)
  | (rename_i x y _ _;simp only[h1 x (by simp),h1 y (by simp)];done)
  | (rename_i x y z;simp only[h1 y (by simp),h1 z (by simp)];done)
  | (rename_i t x y;simp only[h1 x (by simp),h1 y (by simp)];done)
section step
variable {N L:Nat} {k:List Item→KS} {all l:List Oper} {r:List Item} {T T' : Nat→HV} {o:Oper} {B:Nat} {Z:Nat→Prop} {G:List (Option OG)} {FP:Nat→List Nat} {ds:List Nat} {a:Act} {w:World} {ro:Option Nat} {mm:Nat}
end step
section go
variable {N L m mm B:Nat} {ro:Option Nat} {all:List Oper} {Q:Exit→KS}
theorem take_dst {m:Nat} {all:List Oper} {j t:Nat} (hj:dstAt (all.take m) j=some t):∃oj,all[j]?=some oj∧oj.dst=some t∧j<m:=by
 unfold dstAt at hj
 cases hx:(all.take m)[j]? with
 | none=>rw[hx] at hj;cases hj
 | some oj =>
  rw[hx] at hj
  have hlt:=(List.getElem?_eq_some_iff.1 hx).1
  rw[List.length_take] at hlt
  rw[List.getElem?_take,if_pos (by omega)] at hx
  exact ⟨oj,hx,hj,by omega⟩
end go
end
end Go.Proofs.YtmapdjdnnhlpiaaGreatDoor
