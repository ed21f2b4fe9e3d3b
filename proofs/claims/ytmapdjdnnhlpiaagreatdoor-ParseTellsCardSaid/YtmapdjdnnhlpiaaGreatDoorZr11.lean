/- Parts of the proof: Md, Nd, HiDc. -/
import Derived.Test.YtmapdjdnnhlpiaaGreatDoorZr09
import Derived.Test.YtmapdjdnnhlpiaaGreatDoorZr10
set_option linter.unusedSectionVars false
set_option linter.unusedVariables false
set_option linter.unusedSimpArgs false
namespace Go.Proofs.YtmapdjdnnhlpiaaGreatDoor
open Go.RowKit
set_option maxRecDepth 8000
def lrow (l:LT):List HV:=[.v (.int .i64 l.op),.v (str l.rg),.v (str l.loc),.v (str l.lab),.v (.int .i64 l.n)]
def candB:List (List UInt8)→List LT
 | [k]=>[⟨6,[],[],[],0⟩,⟨11,[],[],innerB k [] [58],0⟩]
 | [_,l]=>[⟨8,[],[],l,0⟩,⟨9,[],[],l,0⟩,⟨10,[],[],l,0⟩]
 | [_,a,b]=>[⟨1,a,[],[],(numB b).1⟩,⟨2,a,innerB b [91] [93],[],0⟩,⟨3,b,innerB a [91] [93],[],0⟩,⟨4,[],innerB a [91] [93],[],(numB b).1⟩,⟨5,b,innerB a [91] [93],[],0⟩,⟨7,a,[],[],(numB b).1⟩]
 | _=>[]
def LT.words (l:LT):List (List UInt8):=lineW l.op l.rg l.loc l.lab l.n
def goodB (w:List (List UInt8)) (l:LT):Bool:=l.right && decide (l.words=w)
def refGetB (w:List (List UInt8)):LT×Bool :=
 match (candB w).find? (goodB w) with
 | some l=>(l,true)
 | none=>(zeroL,false)
structure LT.Ok (l:LT):Prop where
 rg:l.rg.length≤1000000
 loc:l.loc.length≤1000000
 lab:l.lab.length≤1000000
 n:inI l.n
theorem innerB_len (s a b:List UInt8):(innerB s a b).length≤s.length:=by
 unfold innerB;split
 ·simp;omega
 ·simp
theorem numB_inI (s:List UInt8):inI (numB s).1:=by
 cases h:(numB s).2 with
 | true=>exact (numB_true h).1
 | false=>rw[numB_false h];decide
theorem cand_ok {w:List (List UInt8)} (hl:∀s∈w,s.length≤1000000):∀l∈candB w,l.Ok:=by
 have h0:inI 0:=by decide
 match w with
 | []=>intro l h;simp[candB] at h
 | [k] =>
  have hk:=hl k (by simp)
  have:=innerB_len k [] [58]
  intro l h
  simp only[candB,List.mem_cons,List.not_mem_nil,or_false] at h
  rcases h with rfl | rfl <;> exact ⟨by simp,by simp,by simp only[List.length_nil];omega,h0⟩
 | [k,l'] =>
  have hk:=hl l' (by simp)
  intro l h
  simp only[candB,List.mem_cons,List.not_mem_nil,or_false] at h
  rcases h with rfl | rfl | rfl <;> exact ⟨by simp,by simp,hk,h0⟩
 | [k,a,b] =>
  have ha:=hl a (by simp)
  have hb:=hl b (by simp)
  have h1:=innerB_len a [91] [93]
  have h2:=innerB_len b [91] [93]
  have h3:=numB_inI b
  intro l h
  simp only[candB,List.mem_cons,List.not_mem_nil,or_false] at h
  rcases h with rfl | rfl | rfl | rfl | rfl | rfl <;> first | exact ⟨by simp only[List.length_nil];omega,by simp only[List.length_nil];omega,by simp,h3⟩ | exact ⟨by simp only[List.length_nil];omega,by simp only[List.length_nil];omega,by simp,h0⟩
 | _::_::_::_::_=>intro l h;simp[candB] at h
theorem find_at {α:Type} {p:α→Bool} {l:List α} {i:Nat} {x:α} (hx:l[i]?=some x) (hp:p x=true) (hn:∀(j:Nat) y,j<i→l[j]?=some y→p y=false):l.find? p=some x:=by
 induction l generalizing i with
 | nil=>simp at hx
 | cons y t ih =>
  cases i with
  | zero=>simp at hx;subst hx;simp[hp]
  | succ i =>
   have h0:=hn 0 y (by omega) rfl
   simp only[List.find?_cons,h0]
   exact ih (by simpa using hx) (fun j z hj hz=>hn (j+1) z (by omega) (by simpa using hz))
theorem find_none' {α:Type} {p:α→Bool} {l:List α} (hn:∀(j:Nat) y,l[j]?=some y→p y=false):l.find? p=none:=by
 rw[List.find?_eq_none]
 intro x hx
 obtain ⟨j,hj⟩:=List.mem_iff_getElem?.1 hx
 simp[hn j x hj]
theorem lrow_nm {m:Nat} {cs:List LT}:nmR m (cs.map lrow)=true:=by
 induction cs with
 | nil=>rfl
 | cons c cs ih=>simp[nmR,nmL,nm,lrow,ih]
theorem lrow_rowsLen {cs:List LT}:RowsLen (cs.map lrow) 5=True:=by
 simp only[RowsLen,List.mem_map,eq_iff_iff,iff_true]
 rintro r ⟨c,_,rfl⟩;rfl
def GetJ (w:List (List UInt8)) (cs:List LT) (μ:Nat) (T:Nat→HV) (H:Heap):Prop:=∃(i:Nat),μ=cs.length-i∧i≤cs.length∧(∀(j:Nat) y,j<i→cs[j]?=some y→goodB w y=false)∧T 0=.sl (strs w)∧T 2=.pt 0 1 0 0∧T 3=.v (.bool false)∧T 4=.hd 2 0 cs.length∧T 9=.v (.int .i64 i)∧
  H=[some ⟨50,5,[lrow zeroL]⟩,some ⟨50,5,cs.map lrow⟩,some ⟨50,5,cs.map lrow⟩]
theorem lineW_len {op:Int} {rg loc lab:List UInt8} {n:Int} (l1:rg.length≤1000000) (l2:loc.length≤1000000) (l3:lab.length≤1000000) (hn:inI n):(lineW op rg loc lab n).length≤1000000:=by
 unfold lineW
 split
 ·unfold wordsO
  repeat' split
  all_goals simp
 ·simp
set_option maxHeartbeats 8000000 in
theorem refLineGet1 (k:List UInt8) (hk:k.length≤1000000):HFn Tryz.prog 69 [.sl (strs [k])] (.tu [lineT (refGetB [k]).1,.v (.bool (refGetB [k]).2)]):=by
 have hok:=cand_ok (w:=[k]) (by simpa using hk)
 have e:.sl [[.v (str k)]]=HV.sl (strs [k]):=rfl
 unfold refGetB
 rw[←e]
 refine HCalls_bodyC (fn:=Tryz.f69) 114 [.cell 2 50,.tmp 3] (by kernel_rfl) rfl rfl (by kernel_rfl) (HW.run 400 (by kernel_rfl) ?_)
 simp (config:={ decide:=true }) only[go_sem,Int.reduceToNat,Nat.reduceAdd,Nat.reduceSub,Nat.reduceMul,Nat.reduceBEq,reduceIte,reduceCtorEq]
 refine callX_fn 3 (refInner k [] [58] hk (by simp) (by simp)) (by simp only[go_sem]) rfl ?_
 simp (config:={ decide:=true }) only[go_sem,Int.reduceToNat,Nat.reduceAdd,Nat.reduceSub,Nat.reduceMul,Nat.reduceBEq,reduceIte,reduceCtorEq]
 generalize hw:[k]=w at *
 have hcs:candB w=[⟨6,[],[],[],0⟩,⟨11,[],[],innerB k [] [58],0⟩]:=by rw[←hw];rfl
 have hcl:(candB w).length≤6:=by rw[hcs];simp
 refine HW.loopG (GetJ w (candB w)) ((candB w).length) ⟨_,_,Ghost.refl,0,rfl,by omega,by intro j y hj;omega,?_,rfl,rfl,?_,rfl,?_⟩ ?_
 ·rw[e];rfl
 ·rw[hcs];rfl
 ·rw[hcs];rfl
 ·generalize candB w=cs at *
  rintro μ T H ⟨i,rfl,hi,hno,h0,h2,h3,h4,h9,rfl⟩
  refine HW.run 400 (by kernel_rfl) ?_
  by_cases hlt:i<cs.length
  ·have hlt' : ((i:Nat):Int)<(cs.length:Int):=by omega
   have hx:cs[i]?=some cs[i]:=List.getElem?_eq_getElem hlt
   have hxm:(cs.map lrow)[i]?=some [.v (.int .i64 cs[i].op),.v (str cs[i].rg),.v (str cs[i].loc),.v (str cs[i].lab),.v (.int .i64 cs[i].n)]:=by rw[List.getElem?_map,hx];rfl
   obtain ⟨k1,k2,k3,k4⟩:=hok cs[i] (List.getElem_mem hlt)
   generalize hci:cs[i]=c at *
   have next:goodB w c=false→∀(j:Nat) y,j<i+1→cs[j]?=some y→goodB w y=false:=by
    intro hg j y hj hy
    rcases Nat.lt_or_ge j i with h | h
    ·exact hno j y h hy
    ·have:j=i:=by omega
     subst this;rw[hx] at hy;cases hy
     exact hg
   simp (config:={ decide:=true }) only[go_sem,Int.reduceToNat,Nat.reduceAdd,Nat.reduceSub,Nat.reduceMul,Nat.reduceBEq,reduceIte,reduceCtorEq,h0,h2,h3,h4,h9,hlt',hxm,lrow_rowsLen,List.length_map]
   refine callX_fn 3 (refRight c.op c.rg c.loc c.lab c.n k1 k2 k3) (by simp only[go_sem]) rfl ?_
   cases hr:rightB c.op c.rg c.loc c.lab c.n with
   | false =>
    simp (config:={ decide:=true }) only[go_sem,Int.reduceToNat,Nat.reduceAdd,Nat.reduceSub,Nat.reduceMul,Nat.reduceBEq,reduceIte,reduceCtorEq,h0,h2,h3,h4,h9,List.length_map]
    refine ⟨_,_,Ghost.refl,cs.length-(i+1),by omega,i+1,rfl,by omega,next (by simp[goodB,LT.right,hr]),?_,?_,?_,?_,?_,rfl⟩
    all_goals first | (simp (config:={ decide:=true }) only[go_sem,Nat.reduceBEq,reduceIte,h0,h2,h3,h4];done) | (simp (config:={ decide:=true }) only[go_sem,Nat.reduceBEq,reduceIte];rw[w64 (by omega) (by omega)];rfl)
   | true =>
    simp (config:={ decide:=true }) only[go_sem,Int.reduceToNat,Nat.reduceAdd,Nat.reduceSub,Nat.reduceMul,Nat.reduceBEq,reduceIte,reduceCtorEq,h0,h2,h3,h4,h9,hlt',hxm,lrow_rowsLen,List.length_map]
    refine callX_fn 3 (refLineWords c.op c.rg c.loc c.lab c.n k1 k2 k3 k4) (by simp only[go_sem]) nz_owStrs ?_
    simp (config:={ decide:=true }) only[go_sem,Int.reduceToNat,Nat.reduceAdd,Nat.reduceSub,Nat.reduceMul,Nat.reduceBEq,reduceIte,reduceCtorEq,h0,h2,h3,h4,h9,owStrs]
    refine callX_fn 3 (refSame (lineW c.op c.rg c.loc c.lab c.n) w (lineW_len k1 k2 k3 k4)) (by simp only[go_sem]) rfl ?_
    by_cases hq:lineW c.op c.rg c.loc c.lab c.n=w
    ·have hq' : decide (lineW c.op c.rg c.loc c.lab c.n=w)=true:=by simp[hq]
     have hg:goodB w c=true:=by simp[goodB,LT.right,LT.words,hr,hq]
     simp (config:={ decide:=true }) only[go_sem,Int.reduceToNat,Nat.reduceAdd,Nat.reduceSub,Nat.reduceMul,Nat.reduceBEq,reduceIte,reduceCtorEq,h0,h2,h3,h4,h9,hlt',hq',hxm,lrow_rowsLen,List.length_map,lrow]
     rw[find_at hx hg hno]
    ·have hq' : decide (lineW c.op c.rg c.loc c.lab c.n=w)=false:=by simp[hq]
     have hg:goodB w c=false:=by simp[goodB,LT.right,LT.words,hr,hq]
     simp (config:={ decide:=true }) only[go_sem,Int.reduceToNat,Nat.reduceAdd,Nat.reduceSub,Nat.reduceMul,Nat.reduceBEq,reduceIte,reduceCtorEq,h0,h2,h3,h4,h9,hlt',hq',hxm,lrow_rowsLen,List.length_map]
     refine ⟨_,_,Ghost.trunc [0,2,3,4,9] 3 (by omega) ?_ ?_,cs.length-(i+1),by omega,i+1,rfl,by omega,next hg,?_,?_,?_,?_,?_,rfl⟩
     ·simp (config:={ decide:=true }) only[go_sem,Nat.reduceBEq,reduceIte,h0,h2,h3,h4]
     ·simp (config:={ decide:=true }) only[go_sem,Nat.reduceBEq,reduceIte,lrow_nm,lrow]
     all_goals first | (simp (config:={ decide:=true }) only[go_sem,Nat.reduceBEq,reduceIte,h0,h2,h3,h4];done) | (simp (config:={ decide:=true }) only[go_sem,Nat.reduceBEq,reduceIte];rw[w64 (by omega) (by omega)];rfl)
  ·have hlt' : ¬((i:Nat):Int)<(cs.length:Int):=by omega
   have hil:i=cs.length:=by omega
   simp (config:={ decide:=true }) only[go_sem,Int.reduceToNat,Nat.reduceAdd,Nat.reduceSub,Nat.reduceMul,Nat.reduceBEq,reduceIte,reduceCtorEq,h0,h2,h3,h4,h9,hlt',lrow_rowsLen,List.length_map,lrow]
   rw[find_none' fun j y hy=>hno j y (by have:=(List.getElem?_eq_some_iff.1 hy).1;omega) hy]
   rfl
set_option maxHeartbeats 8000000 in
theorem refLineGet2 (k l:List UInt8) (hk:k.length≤1000000) (hl:l.length≤1000000):HFn Tryz.prog 69 [.sl (strs [k,l])] (.tu [lineT (refGetB [k,l]).1,.v (.bool (refGetB [k,l]).2)]):=by
 have hok:=cand_ok (w:=[k,l]) (by intro s hs;simp at hs;rcases hs with rfl | rfl <;> assumption)
 have e:.sl [[.v (str k)],[.v (str l)]]=HV.sl (strs [k,l]):=rfl
 unfold refGetB
 rw[←e]
 refine HCalls_bodyC (fn:=Tryz.f69) 114 [.cell 2 50,.tmp 3] (by kernel_rfl) rfl rfl (by kernel_rfl) (HW.run 400 (by kernel_rfl) ?_)
 simp (config:={ decide:=true }) only[go_sem,Int.reduceToNat,Nat.reduceAdd,Nat.reduceSub,Nat.reduceMul,Nat.reduceBEq,reduceIte,reduceCtorEq]
 refine HW.anyLate 80 13 follows (by kernel_rfl) (by decide) ?_
 simp (config:={ decide:=true }) only[go_sem,Int.reduceToNat,Nat.reduceAdd,Nat.reduceSub,Nat.reduceMul,Nat.reduceBEq,reduceIte,reduceCtorEq]
 generalize hw:[k,l]=w at *
 have hcs:candB w=[⟨8,[],[],l,0⟩,⟨9,[],[],l,0⟩,⟨10,[],[],l,0⟩]:=by rw[←hw];rfl
 have hcl:(candB w).length≤6:=by rw[hcs];simp
 refine HW.loopG (GetJ w (candB w)) ((candB w).length) ⟨_,_,Ghost.refl,0,rfl,by omega,by intro j y hj;omega,?_,rfl,rfl,?_,rfl,?_⟩ ?_
 ·rw[e];rfl
 ·rw[hcs];rfl
 ·rw[hcs];rfl
 ·generalize candB w=cs at *
  rintro μ T H ⟨i,rfl,hi,hno,h0,h2,h3,h4,h9,rfl⟩
  refine HW.run 400 (by kernel_rfl) ?_
  by_cases hlt:i<cs.length
  ·have hlt' : ((i:Nat):Int)<(cs.length:Int):=by omega
   have hx:cs[i]?=some cs[i]:=List.getElem?_eq_getElem hlt
   have hxm:(cs.map lrow)[i]?=some [.v (.int .i64 cs[i].op),.v (str cs[i].rg),.v (str cs[i].loc),.v (str cs[i].lab),.v (.int .i64 cs[i].n)]:=by rw[List.getElem?_map,hx];rfl
   obtain ⟨k1,k2,k3,k4⟩:=hok cs[i] (List.getElem_mem hlt)
   generalize hci:cs[i]=c at *
   have next:goodB w c=false→∀(j:Nat) y,j<i+1→cs[j]?=some y→goodB w y=false:=by
    intro hg j y hj hy
    rcases Nat.lt_or_ge j i with h | h
    ·exact hno j y h hy
    ·have:j=i:=by omega
     subst this;rw[hx] at hy;cases hy
     exact hg
   simp (config:={ decide:=true }) only[go_sem,Int.reduceToNat,Nat.reduceAdd,Nat.reduceSub,Nat.reduceMul,Nat.reduceBEq,reduceIte,reduceCtorEq,h0,h2,h3,h4,h9,hlt',hxm,lrow_rowsLen,List.length_map]
   refine callX_fn 3 (refRight c.op c.rg c.loc c.lab c.n k1 k2 k3) (by simp only[go_sem]) rfl ?_
   cases hr:rightB c.op c.rg c.loc c.lab c.n with
   | false =>
    simp (config:={ decide:=true }) only[go_sem,Int.reduceToNat,Nat.reduceAdd,Nat.reduceSub,Nat.reduceMul,Nat.reduceBEq,reduceIte,reduceCtorEq,h0,h2,h3,h4,h9,List.length_map]
    refine ⟨_,_,Ghost.refl,cs.length-(i+1),by omega,i+1,rfl,by omega,next (by simp[goodB,LT.right,hr]),?_,?_,?_,?_,?_,rfl⟩
    all_goals first | (simp (config:={ decide:=true }) only[go_sem,Nat.reduceBEq,reduceIte,h0,h2,h3,h4];done) | (simp (config:={ decide:=true }) only[go_sem,Nat.reduceBEq,reduceIte];rw[w64 (by omega) (by omega)];rfl)
   | true =>
    simp (config:={ decide:=true }) only[go_sem,Int.reduceToNat,Nat.reduceAdd,Nat.reduceSub,Nat.reduceMul,Nat.reduceBEq,reduceIte,reduceCtorEq,h0,h2,h3,h4,h9,hlt',hxm,lrow_rowsLen,List.length_map]
    refine callX_fn 3 (refLineWords c.op c.rg c.loc c.lab c.n k1 k2 k3 k4) (by simp only[go_sem]) nz_owStrs ?_
    simp (config:={ decide:=true }) only[go_sem,Int.reduceToNat,Nat.reduceAdd,Nat.reduceSub,Nat.reduceMul,Nat.reduceBEq,reduceIte,reduceCtorEq,h0,h2,h3,h4,h9,owStrs]
    refine callX_fn 3 (refSame (lineW c.op c.rg c.loc c.lab c.n) w (lineW_len k1 k2 k3 k4)) (by simp only[go_sem]) rfl ?_
    by_cases hq:lineW c.op c.rg c.loc c.lab c.n=w
    ·have hq' : decide (lineW c.op c.rg c.loc c.lab c.n=w)=true:=by simp[hq]
     have hg:goodB w c=true:=by simp[goodB,LT.right,LT.words,hr,hq]
     simp (config:={ decide:=true }) only[go_sem,Int.reduceToNat,Nat.reduceAdd,Nat.reduceSub,Nat.reduceMul,Nat.reduceBEq,reduceIte,reduceCtorEq,h0,h2,h3,h4,h9,hlt',hq',hxm,lrow_rowsLen,List.length_map,lrow]
     rw[find_at hx hg hno]
    ·have hq' : decide (lineW c.op c.rg c.loc c.lab c.n=w)=false:=by simp[hq]
     have hg:goodB w c=false:=by simp[goodB,LT.right,LT.words,hr,hq]
     simp (config:={ decide:=true }) only[go_sem,Int.reduceToNat,Nat.reduceAdd,Nat.reduceSub,Nat.reduceMul,Nat.reduceBEq,reduceIte,reduceCtorEq,h0,h2,h3,h4,h9,hlt',hq',hxm,lrow_rowsLen,List.length_map]
     refine ⟨_,_,Ghost.trunc [0,2,3,4,9] 3 (by omega) ?_ ?_,cs.length-(i+1),by omega,i+1,rfl,by omega,next hg,?_,?_,?_,?_,?_,rfl⟩
     ·simp (config:={ decide:=true }) only[go_sem,Nat.reduceBEq,reduceIte,h0,h2,h3,h4]
     ·simp (config:={ decide:=true }) only[go_sem,Nat.reduceBEq,reduceIte,lrow_nm,lrow]
     all_goals first | (simp (config:={ decide:=true }) only[go_sem,Nat.reduceBEq,reduceIte,h0,h2,h3,h4];done) | (simp (config:={ decide:=true }) only[go_sem,Nat.reduceBEq,reduceIte];rw[w64 (by omega) (by omega)];rfl)
  ·have hlt' : ¬((i:Nat):Int)<(cs.length:Int):=by omega
   have hil:i=cs.length:=by omega
   simp (config:={ decide:=true }) only[go_sem,Int.reduceToNat,Nat.reduceAdd,Nat.reduceSub,Nat.reduceMul,Nat.reduceBEq,reduceIte,reduceCtorEq,h0,h2,h3,h4,h9,hlt',lrow_rowsLen,List.length_map,lrow]
   rw[find_none' fun j y hy=>hno j y (by have:=(List.getElem?_eq_some_iff.1 hy).1;omega) hy]
   rfl
set_option maxHeartbeats 8000000 in
theorem refLineGet3 (k a b:List UInt8) (hk:k.length≤1000000) (ha:a.length≤1000000) (hb:b.length≤1000000):HFn Tryz.prog 69 [.sl (strs [k,a,b])] (.tu [lineT (refGetB [k,a,b]).1,.v (.bool (refGetB [k,a,b]).2)]):=by
 have hok:=cand_ok (w:=[k,a,b]) (by intro s hs;simp at hs;rcases hs with rfl | rfl | rfl <;> assumption)
 have e:.sl [[.v (str k)],[.v (str a)],[.v (str b)]]=HV.sl (strs [k,a,b]):=rfl
 unfold refGetB
 rw[←e]
 refine HCalls_bodyC (fn:=Tryz.f69) 114 [.cell 2 50,.tmp 3] (by kernel_rfl) rfl rfl (by kernel_rfl) (HW.run 400 (by kernel_rfl) ?_)
 simp (config:={ decide:=true }) only[go_sem,Int.reduceToNat,Nat.reduceAdd,Nat.reduceSub,Nat.reduceMul,Nat.reduceBEq,reduceIte,reduceCtorEq]
 refine callX_fn 3 (refGet b hb) (by simp only[go_sem]) rfl ?_
 simp (config:={ decide:=true }) only[go_sem,Int.reduceToNat,Nat.reduceAdd,Nat.reduceSub,Nat.reduceMul,Nat.reduceBEq,reduceIte,reduceCtorEq]
 refine callX_fn 3 (refInner a [91] [93] ha (by simp) (by simp)) (by simp only[go_sem]) rfl ?_
 simp (config:={ decide:=true }) only[go_sem,Int.reduceToNat,Nat.reduceAdd,Nat.reduceSub,Nat.reduceMul,Nat.reduceBEq,reduceIte,reduceCtorEq]
 refine callX_fn 3 (refInner b [91] [93] hb (by simp) (by simp)) (by simp only[go_sem]) rfl ?_
 simp (config:={ decide:=true }) only[go_sem,Int.reduceToNat,Nat.reduceAdd,Nat.reduceSub,Nat.reduceMul,Nat.reduceBEq,reduceIte,reduceCtorEq]
 refine HW.anyLate 80 29 follows (by kernel_rfl) (by decide) ?_
 simp (config:={ decide:=true }) only[go_sem,Int.reduceToNat,Nat.reduceAdd,Nat.reduceSub,Nat.reduceMul,Nat.reduceBEq,reduceIte,reduceCtorEq]
 generalize hw:[k,a,b]=w at *
 have hcs:candB w=[⟨1,a,[],[],(numB b).1⟩,⟨2,a,innerB b [91] [93],[],0⟩,⟨3,b,innerB a [91] [93],[],0⟩,⟨4,[],innerB a [91] [93],[],(numB b).1⟩,⟨5,b,innerB a [91] [93],[],0⟩,⟨7,a,[],[],(numB b).1⟩]:=by rw[←hw];rfl
 have hcl:(candB w).length≤6:=by rw[hcs];simp
 refine HW.loopG (GetJ w (candB w)) ((candB w).length) ⟨_,_,Ghost.refl,0,rfl,by omega,by intro j y hj;omega,?_,rfl,rfl,?_,rfl,?_⟩ ?_
 ·rw[e];rfl
 ·rw[hcs];rfl
 ·rw[hcs];rfl
 ·generalize candB w=cs at *
  rintro μ T H ⟨i,rfl,hi,hno,h0,h2,h3,h4,h9,rfl⟩
  refine HW.run 400 (by kernel_rfl) ?_
  by_cases hlt:i<cs.length
  ·have hlt' : ((i:Nat):Int)<(cs.length:Int):=by omega
   have hx:cs[i]?=some cs[i]:=List.getElem?_eq_getElem hlt
   have hxm:(cs.map lrow)[i]?=some [.v (.int .i64 cs[i].op),.v (str cs[i].rg),.v (str cs[i].loc),.v (str cs[i].lab),.v (.int .i64 cs[i].n)]:=by rw[List.getElem?_map,hx];rfl
   obtain ⟨k1,k2,k3,k4⟩:=hok cs[i] (List.getElem_mem hlt)
   generalize hci:cs[i]=c at *
   have next:goodB w c=false→∀(j:Nat) y,j<i+1→cs[j]?=some y→goodB w y=false:=by
    intro hg j y hj hy
    rcases Nat.lt_or_ge j i with h | h
    ·exact hno j y h hy
    ·have:j=i:=by omega
     subst this;rw[hx] at hy;cases hy
     exact hg
   simp (config:={ decide:=true }) only[go_sem,Int.reduceToNat,Nat.reduceAdd,Nat.reduceSub,Nat.reduceMul,Nat.reduceBEq,reduceIte,reduceCtorEq,h0,h2,h3,h4,h9,hlt',hxm,lrow_rowsLen,List.length_map]
   refine callX_fn 3 (refRight c.op c.rg c.loc c.lab c.n k1 k2 k3) (by simp only[go_sem]) rfl ?_
   cases hr:rightB c.op c.rg c.loc c.lab c.n with
   | false =>
    simp (config:={ decide:=true }) only[go_sem,Int.reduceToNat,Nat.reduceAdd,Nat.reduceSub,Nat.reduceMul,Nat.reduceBEq,reduceIte,reduceCtorEq,h0,h2,h3,h4,h9,List.length_map]
    refine ⟨_,_,Ghost.refl,cs.length-(i+1),by omega,i+1,rfl,by omega,next (by simp[goodB,LT.right,hr]),?_,?_,?_,?_,?_,rfl⟩
    all_goals first | (simp (config:={ decide:=true }) only[go_sem,Nat.reduceBEq,reduceIte,h0,h2,h3,h4];done) | (simp (config:={ decide:=true }) only[go_sem,Nat.reduceBEq,reduceIte];rw[w64 (by omega) (by omega)];rfl)
   | true =>
    simp (config:={ decide:=true }) only[go_sem,Int.reduceToNat,Nat.reduceAdd,Nat.reduceSub,Nat.reduceMul,Nat.reduceBEq,reduceIte,reduceCtorEq,h0,h2,h3,h4,h9,hlt',hxm,lrow_rowsLen,List.length_map]
    refine callX_fn 3 (refLineWords c.op c.rg c.loc c.lab c.n k1 k2 k3 k4) (by simp only[go_sem]) nz_owStrs ?_
    simp (config:={ decide:=true }) only[go_sem,Int.reduceToNat,Nat.reduceAdd,Nat.reduceSub,Nat.reduceMul,Nat.reduceBEq,reduceIte,reduceCtorEq,h0,h2,h3,h4,h9,owStrs]
    refine callX_fn 3 (refSame (lineW c.op c.rg c.loc c.lab c.n) w (lineW_len k1 k2 k3 k4)) (by simp only[go_sem]) rfl ?_
    by_cases hq:lineW c.op c.rg c.loc c.lab c.n=w
    ·have hq' : decide (lineW c.op c.rg c.loc c.lab c.n=w)=true:=by simp[hq]
     have hg:goodB w c=true:=by simp[goodB,LT.right,LT.words,hr,hq]
     simp (config:={ decide:=true }) only[go_sem,Int.reduceToNat,Nat.reduceAdd,Nat.reduceSub,Nat.reduceMul,Nat.reduceBEq,reduceIte,reduceCtorEq,h0,h2,h3,h4,h9,hlt',hq',hxm,lrow_rowsLen,List.length_map,lrow]
     rw[find_at hx hg hno]
    ·have hq' : decide (lineW c.op c.rg c.loc c.lab c.n=w)=false:=by simp[hq]
     have hg:goodB w c=false:=by simp[goodB,LT.right,LT.words,hr,hq]
     simp (config:={ decide:=true }) only[go_sem,Int.reduceToNat,Nat.reduceAdd,Nat.reduceSub,Nat.reduceMul,Nat.reduceBEq,reduceIte,reduceCtorEq,h0,h2,h3,h4,h9,hlt',hq',hxm,lrow_rowsLen,List.length_map]
     refine ⟨_,_,Ghost.trunc [0,2,3,4,9] 3 (by omega) ?_ ?_,cs.length-(i+1),by omega,i+1,rfl,by omega,next hg,?_,?_,?_,?_,?_,rfl⟩
     ·simp (config:={ decide:=true }) only[go_sem,Nat.reduceBEq,reduceIte,h0,h2,h3,h4]
     ·simp (config:={ decide:=true }) only[go_sem,Nat.reduceBEq,reduceIte,lrow_nm,lrow]
     all_goals first | (simp (config:={ decide:=true }) only[go_sem,Nat.reduceBEq,reduceIte,h0,h2,h3,h4];done) | (simp (config:={ decide:=true }) only[go_sem,Nat.reduceBEq,reduceIte];rw[w64 (by omega) (by omega)];rfl)
  ·have hlt' : ¬((i:Nat):Int)<(cs.length:Int):=by omega
   have hil:i=cs.length:=by omega
   simp (config:={ decide:=true }) only[go_sem,Int.reduceToNat,Nat.reduceAdd,Nat.reduceSub,Nat.reduceMul,Nat.reduceBEq,reduceIte,reduceCtorEq,h0,h2,h3,h4,h9,hlt',lrow_rowsLen,List.length_map,lrow]
   rw[find_none' fun j y hy=>hno j y (by have:=(List.getElem?_eq_some_iff.1 hy).1;omega) hy]
   rfl
set_option maxHeartbeats 4000000 in
theorem refLineGet0 (w:List (List UInt8)) (h1:w.length≠1) (h2:w.length≠2) (h3:w.length≠3) (hn:w.length≤1000000):HFn Tryz.prog 69 [.sl (strs w)] (.tu [lineT (refGetB w).1,.v (.bool (refGetB w).2)]):=by
 have hc:candB w=[]:=by
  match w,h1,h2,h3 with
  | [],_,_,_=>rfl
  | [_],h,_,_=>simp at h
  | [_,_],_,h,_=>simp at h
  | [_,_,_],_,_,h=>simp at h
  | _::_::_::_::_,_,_,_=>rfl
 have hr:refGetB w=(zeroL,false):=by unfold refGetB;rw[hc];rfl
 rw[hr]
 have e1:((w.length:Nat):Int)≠1:=by omega
 have e2:((w.length:Nat):Int)≠2:=by omega
 have e3:((w.length:Nat):Int)≠3:=by omega
 refine HCalls_bodyC (fn:=Tryz.f69) 114 [.cell 2 50,.tmp 3] (by kernel_rfl) rfl rfl (by kernel_rfl) (HW.run 400 (by kernel_rfl) ?_)
 simp (config:={ decide:=true }) only[go_sem,Int.reduceToNat,Nat.reduceAdd,Nat.reduceSub,Nat.reduceMul,Nat.reduceBEq,reduceIte,reduceCtorEq,e1,e2,e3]
 refine HW.loopG (fun μ T H=>T 0=.sl (strs w)∧T 2=.pt 0 1 0 0∧T 3=.v (.bool false)∧T 4=.v (.slice none 0 0)∧T 9=.v (.int .i64 0)∧H=[some ⟨50,5,[lrow zeroL]⟩]) 1 ⟨_,_,Ghost.refl,rfl,rfl,rfl,rfl,rfl,rfl⟩ ?_
 rintro μ T H ⟨h0,h2,h3,h4,h9,rfl⟩
 refine HW.run 400 (by kernel_rfl) ?_
 simp (config:={ decide:=true }) only[go_sem,Int.reduceToNat,Nat.reduceAdd,Nat.reduceSub,Nat.reduceMul,Nat.reduceBEq,reduceIte,reduceCtorEq,h0,h2,h3,h4,h9,lrow]
 rfl
theorem refLineGet (w:List (List UInt8)) (hl:∀s∈w,s.length≤1000000) (hn:w.length≤1000000):HFn Tryz.prog 69 [.sl (strs w)] (.tu [lineT (refGetB w).1,.v (.bool (refGetB w).2)]):=by
 match w,hl,hn with
 | [k],hl,hn=>exact refLineGet1 k (hl k (by simp))
 | [k,l],hl,hn=>exact refLineGet2 k l (hl k (by simp)) (hl l (by simp))
 | [k,a,b],hl,hn=>exact refLineGet3 k a b (hl k (by simp)) (hl a (by simp)) (hl b (by simp))
 | [],hl,hn=>exact refLineGet0 [] (by simp) (by simp) (by simp) hn
 | k::a::b::c::r,hl,hn=>exact refLineGet0 _ (by simp) (by simp) (by simp) hn
end Go.Proofs.YtmapdjdnnhlpiaaGreatDoor
namespace Go.Proofs.YtmapdjdnnhlpiaaGreatDoor
open Go.RowKit
set_option maxRecDepth 8000
def headR (p:List UInt8) (n:Int):AT :=
 if 2<p.length∧p[1]?=some 58 then ⟨((p.headD 0).toNat:Int)-48,p.drop 2,n⟩ else ⟨-1,p,n⟩
def refAtomB (s:List UInt8):AT×Bool :=
 if (Lib.cut s [61]).2.2=true∧(numB (Lib.cut s [61]).2.1).2=true∧wordA (headR (Lib.cut s [61]).1 (numB (Lib.cut s [61]).2.1).1).th (headR (Lib.cut s [61]).1 (numB (Lib.cut s [61]).2.1).1).nm (numB (Lib.cut s [61]).2.1).1=s
 then (headR (Lib.cut s [61]).1 (numB (Lib.cut s [61]).2.1).1,true) else (zeroA,false)
theorem cut_at {s:List UInt8} {c:UInt8} {i:Nat} (h:s[i]?=some c) (hn:∀j,j<i→s[j]?≠some c):Lib.cut s [c]=(s.take i,s.drop (i+1),true):=by
 rcases cut1 c s with ⟨p,r,rfl,hp,hc⟩ | ⟨hno,_⟩
 ·have hl:p.length=i:=by
   rcases Nat.lt_trichotomy p.length i with h' | h' | h'
   ·exact absurd (by simp) (hn p.length h')
   ·exact h'
   ·rw[List.getElem?_append_left h'] at h
    exact absurd (List.mem_of_getElem? h) hp
  subst hl
  rw[hc];simp
 ·exact absurd (List.mem_of_getElem? h) hno
theorem cut_none {s:List UInt8} {c:UInt8} (hn:∀j,j<s.length→s[j]?≠some c):(Lib.cut s [c]).2.2=false:=by
 rcases cut1 c s with ⟨p,r,rfl,hp,hc⟩ | ⟨hno,hc⟩
 ·exact absurd (by simp) (hn p.length (by simp))
 ·rw[hc]
theorem byte_61 {b:UInt8}:((b.toNat:Int)=61)=(b=61):=by
 have:((61:UInt8).toNat:Int)=61:=rfl
 rw[←this,byteEq]
theorem byte_58 {b:UInt8}:((b.toNat:Int)=58)=(b=58):=by
 have:((58:UInt8).toNat:Int)=58:=rfl
 rw[←this,byteEq]
set_option maxHeartbeats 8000000 in
theorem refAtom (s:List UInt8) (hs:s.length≤1000000):HFn Tryz.prog 84 [.v (str s)] (.tu [atomT (refAtomB s).1,.v (.bool (refAtomB s).2)]):=by
 refine HCalls_bodyC (fn:=Tryz.f84) 59 [.cell 2 53,.tmp 3] (by kernel_rfl) rfl rfl (by kernel_rfl) (HW.run 400 (by kernel_rfl) ?_)
 simp (config:={ decide:=true }) only[go_sem,Int.reduceToNat,Nat.reduceAdd,Nat.reduceSub,Nat.reduceMul,Nat.reduceBEq,reduceIte,reduceCtorEq]
 refine HW.loopG (fun μ T H=>∃(i:Nat),μ=s.length-i∧i≤s.length∧(∀j,j<i→s[j]?≠some 61)∧T 0=.v (str s)∧T 2=.pt 0 1 0 0∧T 3=.v (.bool false)∧T 4=.v (.int .i64 i)∧
  H=[some ⟨53,3,[[.v (.int .i64 0),.v (str []),.v (.int .i64 0)]]⟩]) s.length ⟨_,_,Ghost.refl,0,rfl,by omega,by intro j hj;omega,rfl,rfl,rfl,rfl,rfl⟩ ?_
 rintro μ T H ⟨i,rfl,hi,hno,h0,h2,h3,h4,rfl⟩
 refine HW.run 400 (by kernel_rfl) ?_
 by_cases hlt:i<s.length
 ·have hlt' : (i:Int)<(s.length:Int):=by omega
  have hx:s[i]?=some s[i]:=List.getElem?_eq_getElem hlt
  by_cases hq:s[i]=61
  ·have hq' : ((s[i].toNat:Int)=61)=True:=by rw[byte_61];simp[hq]
   have w1:IntKind.i64.wrap ((i:Int)+1)=(i:Int)+1:=w64 (by omega) (by omega)
   have t1:((i:Int)+1).toNat=i+1:=by omega
   have hcut:=cut_at (by rw[hx,hq]) hno
   have hrl:(s.drop (i+1)).length≤1000000:=by rw[List.length_drop];omega
   simp (config:={ decide:=true }) only[go_sem,Int.reduceToNat,Nat.reduceAdd,Nat.reduceSub,Nat.reduceMul,Nat.reduceBEq,reduceIte,reduceCtorEq,h0,h2,h3,h4,hlt',hx,hq',w1,t1,List.take_length]
   refine ⟨by omega,?_⟩
   refine callX_fn 3 (refGet (s.drop (i+1)) hrl) (by simp only[go_sem]) rfl ?_
   have hpl:(s.take i).length=i:=by rw[List.length_take];omega
   have hnl:inI (numB (s.drop (i+1))).1:=numB_inI _
   have key:∀(a:AT),headR (s.take i) (numB (s.drop (i+1))).1=a→refAtomB s=if (numB (s.drop (i+1))).2=true∧wordA a.th a.nm (numB (s.drop (i+1))).1=s then (a,true) else (zeroA,false):=by
    intro a ha
    unfold refAtomB
    rw[hcut]
    simp only[ha,true_and]
   by_cases hc:2<i∧(s.take i)[1]?=some 58
   ·obtain ⟨hc1,hc2⟩:=hc
    have hc1' : ((2:Int)<(i:Int))=True:=by simp only[eq_iff_iff,iff_true];omega
    obtain ⟨x0,hx0⟩:∃x0,(s.take i)[0]?=some x0:=⟨_,List.getElem?_eq_getElem (by omega)⟩
    have hh:(s.take i).headD 0=x0:=by rw[List.headD_eq_head?_getD,List.head?_eq_getElem?,hx0];rfl
    have hx0l:=x0.toNat_lt
    have w2:IntKind.i64.wrap (IntKind.i64.wrap (x0.toNat:Int)-48)=(x0.toNat:Int)-48:=by
     rw[w64 (x:=(x0.toNat:Int)) (by omega) (by omega),w64 (by omega) (by omega)]
    have e58:((58:UInt8).toNat:Int)=58:=rfl
    have hth:inI ((x0.toNat:Int)-48):=by unfold inI;omega
    have htt:(s.take i).take i=s.take i:=by rw[List.take_take,Nat.min_self]
    have hnm:((s.take i).drop 2).length≤1000000:=by rw[List.length_drop];omega
    rw[key ⟨(x0.toNat:Int)-48,(s.take i).drop 2,(numB (s.drop (i+1))).1⟩ (by unfold headR;rw[hpl,if_pos ⟨hc1,hc2⟩,hh])]
    cases hn:(numB (s.drop (i+1))).2 with
    | false =>
     rw[if_neg (by simp)]
     simp (config:={ decide:=true }) only[go_sem,Int.reduceToNat,Nat.reduceAdd,Nat.reduceSub,Nat.reduceMul,Nat.reduceBEq,reduceIte,reduceCtorEq,h0,h2,h3,h4,hlt',hx,hq',w1,t1,hpl,hc1',hc2,hx0,w2,e58,htt]
     exact ⟨by omega,by omega,rfl⟩
    | true =>
     simp (config:={ decide:=true }) only[go_sem,Int.reduceToNat,Nat.reduceAdd,Nat.reduceSub,Nat.reduceMul,Nat.reduceBEq,reduceIte,reduceCtorEq,h0,h2,h3,h4,hlt',hx,hq',w1,t1,hpl,hc1',hc2,hx0,w2,e58,List.take_length,htt]
     refine ⟨by omega,by omega,?_⟩
     refine callX_fn 3 (refWord ((x0.toNat:Int)-48) ((s.take i).drop 2) (numB (s.drop (i+1))).1 hth hnl hnm) (by simp only[go_sem]) rfl ?_
     by_cases hw:wordA ((x0.toNat:Int)-48) ((s.take i).drop 2) (numB (s.drop (i+1))).1=s
     ·rw[if_pos hw]
      simp (config:={ decide:=true }) only[go_sem,Int.reduceToNat,Nat.reduceAdd,Nat.reduceSub,Nat.reduceMul,Nat.reduceBEq,reduceIte,reduceCtorEq,h0,h2,h3,h4,hw]
      all_goals rfl
     ·rw[if_neg hw]
      simp (config:={ decide:=true }) only[go_sem,Int.reduceToNat,Nat.reduceAdd,Nat.reduceSub,Nat.reduceMul,Nat.reduceBEq,reduceIte,reduceCtorEq,h0,h2,h3,h4,hw]
      all_goals rfl
   ·have hth:inI (-1):=by decide
    have hnm:(s.take i).length≤1000000:=by omega
    rw[key ⟨-1,s.take i,(numB (s.drop (i+1))).1⟩ (by unfold headR;rw[hpl,if_neg hc])]
    by_cases hc1:2<i
    ·have hc1' : ((2:Int)<(i:Int))=True:=by simp only[eq_iff_iff,iff_true];omega
     obtain ⟨x1,hx1⟩:∃x1,(s.take i)[1]?=some x1:=⟨_,List.getElem?_eq_getElem (by omega)⟩
     have hx1' : ((x1.toNat:Int)=58)=False:=by rw[byte_58];simp only[eq_iff_iff,iff_false];intro h;exact hc ⟨hc1,by rw[hx1,h]⟩
     cases hn:(numB (s.drop (i+1))).2 with
     | false =>
      rw[if_neg (by simp)]
      simp (config:={ decide:=true }) only[go_sem,Int.reduceToNat,Nat.reduceAdd,Nat.reduceSub,Nat.reduceMul,Nat.reduceBEq,reduceIte,reduceCtorEq,h0,h2,h3,h4,hlt',hx,hq',w1,t1,hpl,hc1',hx1,hx1']
      exact ⟨by omega,rfl⟩
     | true =>
      simp (config:={ decide:=true }) only[go_sem,Int.reduceToNat,Nat.reduceAdd,Nat.reduceSub,Nat.reduceMul,Nat.reduceBEq,reduceIte,reduceCtorEq,h0,h2,h3,h4,hlt',hx,hq',w1,t1,hpl,hc1',hx1,hx1']
      refine ⟨by omega,?_⟩
      refine callX_fn 3 (refWord (-1) (s.take i) (numB (s.drop (i+1))).1 hth hnl hnm) (by simp only[go_sem]) rfl ?_
      by_cases hw:wordA (-1) (s.take i) (numB (s.drop (i+1))).1=s
      ·rw[if_pos hw]
       simp (config:={ decide:=true }) only[go_sem,Int.reduceToNat,Nat.reduceAdd,Nat.reduceSub,Nat.reduceMul,Nat.reduceBEq,reduceIte,reduceCtorEq,h0,h2,h3,h4,hw]
       all_goals rfl
      ·rw[if_neg hw]
       simp (config:={ decide:=true }) only[go_sem,Int.reduceToNat,Nat.reduceAdd,Nat.reduceSub,Nat.reduceMul,Nat.reduceBEq,reduceIte,reduceCtorEq,h0,h2,h3,h4,hw]
       all_goals rfl
    ·have hc1' : ((2:Int)<(i:Int))=False:=by simp only[eq_iff_iff,iff_false];omega
     cases hn:(numB (s.drop (i+1))).2 with
     | false =>
      rw[if_neg (by simp)]
      simp (config:={ decide:=true }) only[go_sem,Int.reduceToNat,Nat.reduceAdd,Nat.reduceSub,Nat.reduceMul,Nat.reduceBEq,reduceIte,reduceCtorEq,h0,h2,h3,h4,hlt',hx,hq',w1,t1,hpl,hc1']
      exact ⟨by omega,rfl⟩
     | true =>
      simp (config:={ decide:=true }) only[go_sem,Int.reduceToNat,Nat.reduceAdd,Nat.reduceSub,Nat.reduceMul,Nat.reduceBEq,reduceIte,reduceCtorEq,h0,h2,h3,h4,hlt',hx,hq',w1,t1,hpl,hc1']
      refine ⟨by omega,?_⟩
      refine callX_fn 3 (refWord (-1) (s.take i) (numB (s.drop (i+1))).1 hth hnl hnm) (by simp only[go_sem]) rfl ?_
      by_cases hw:wordA (-1) (s.take i) (numB (s.drop (i+1))).1=s
      ·rw[if_pos hw]
       simp (config:={ decide:=true }) only[go_sem,Int.reduceToNat,Nat.reduceAdd,Nat.reduceSub,Nat.reduceMul,Nat.reduceBEq,reduceIte,reduceCtorEq,h0,h2,h3,h4,hw]
       all_goals rfl
      ·rw[if_neg hw]
       simp (config:={ decide:=true }) only[go_sem,Int.reduceToNat,Nat.reduceAdd,Nat.reduceSub,Nat.reduceMul,Nat.reduceBEq,reduceIte,reduceCtorEq,h0,h2,h3,h4,hw]
       all_goals rfl
  ·have hq' : ((s[i].toNat:Int)=61)=False:=by rw[byte_61];simp[hq]
   simp (config:={ decide:=true }) only[go_sem,Int.reduceToNat,Nat.reduceAdd,Nat.reduceSub,Nat.reduceMul,Nat.reduceBEq,reduceIte,reduceCtorEq,h0,h2,h3,h4,hlt',hx,hq']
   refine ⟨_,_,Ghost.refl,s.length-(i+1),by omega,i+1,rfl,by omega,?_,?_,?_,?_,?_,rfl⟩
   ·intro j hj hjs
    rcases Nat.lt_or_ge j i with h | h
    ·exact hno j h hjs
    ·have:j=i:=by omega
     subst this;rw[hx] at hjs;exact hq (Option.some.inj hjs)
   all_goals first | (simp (config:={ decide:=true }) only[go_sem,Nat.reduceBEq,reduceIte,h0,h2,h3];done) | (simp (config:={ decide:=true }) only[go_sem,Nat.reduceBEq,reduceIte];rw[w64 (by omega) (by omega)];rfl)
 ·have hlt' : ¬(i:Int)<(s.length:Int):=by omega
  have hil:i=s.length:=by omega
  simp (config:={ decide:=true }) only[go_sem,Int.reduceToNat,Nat.reduceAdd,Nat.reduceSub,Nat.reduceMul,Nat.reduceBEq,reduceIte,reduceCtorEq,h0,h2,h3,h4,hlt']
  have hcf:=cut_none (s:=s) (c:=61) (by rw[←hil];exact hno)
  unfold refAtomB
  rw[if_neg (fun h=>by rw[hcf] at h;simp at h)]
  rfl
end Go.Proofs.YtmapdjdnnhlpiaaGreatDoor
namespace Go.Proofs.YtmapdjdnnhlpiaaGreatDoor
open Go.RowKit
set_option maxRecDepth 8000
theorem let_head {b:UInt8} (h:letB b=true):97≤b.toNat∧b.toNat≤122:=by
 simpa [letB] using h
theorem regB_head {s:List UInt8} (h:0≤regB s):∃b r,s=b::r∧97≤b.toNat∧b.toNat≤122:=by
 unfold regB at h
 split at h
 ·rename_i e;subst e;exact ⟨_,_,rfl,by decide,by decide⟩
 ·split at h
  ·rename_i e;subst e;exact ⟨_,_,rfl,by decide,by decide⟩
  ·split at h
   ·rename_i e;subst e;exact ⟨_,_,rfl,by decide,by decide⟩
   ·split at h
    ·rename_i e;subst e;exact ⟨_,_,rfl,by decide,by decide⟩
    ·omega
theorem nameB_hd {s:List UInt8} (h:nameB s=true):∃b r,s=b::r∧97≤b.toNat∧b.toNat≤122:=by
 cases s with
 | nil=>simp[nameB,headB] at h
 | cons b r =>
  refine ⟨b,r,rfl,?_⟩
  simp only[nameB,headB,Bool.and_eq_true] at h
  exact let_head h.1.1.1.1
theorem isDig_iff {b:UInt8}:isDig b=true↔48≤b.toNat∧b.toNat≤57:=by simp[isDig]
theorem numB_high {b:UInt8} {r:List UInt8} (h:58≤b.toNat):numB (b::r)=(0,false):=by
 have h45:b≠45:=by rintro rfl;revert h;decide
 rw[numB_pos (by simp only[List.head?_cons,ne_eq,Option.some.injEq];exact h45),if_neg]
 rintro ⟨hc,-⟩
 have hd:=(canonB_digs hc).1
 simp only[List.all_cons,Bool.and_eq_true] at hd
 have:=isDig_iff.mp hd.1
 omega
theorem insB_at (l:List UInt8):insB (atB l)=l:=by
 have h1:(atB l).getLast?=some 93:=by
  show ([91]++l++[93]:List UInt8).getLast?=some 93
  rw[List.getLast?_append];rfl
 have h2:(atB l).length=l.length+2:=by simp[atB]
 have h3:(atB l).head?=some 91:=rfl
 unfold insB
 rw[if_pos ⟨by omega,h3,h1⟩,h2]
 show ((l++[93]):List UInt8).take (l.length+2-2)=l
 rw[Nat.add_sub_cancel,List.take_left]
theorem insB_low {b:UInt8} {r:List UInt8} (h:b≠91):insB (b::r)=[]:=by
 unfold insB
 rw[if_neg]
 rintro ⟨_,h1,_⟩
 exact h (by simpa using h1)
theorem at_insB {s:List UInt8} (h:insB s≠[]):atB (insB s)=s:=by
 unfold insB at h⊢
 by_cases hc:2≤s.length∧s.head?=some 91∧s.getLast?=some 93
 ·obtain ⟨h1,h2,h3⟩:=hc
  rw[if_pos ⟨h1,h2,h3⟩]
  rcases s with _ | ⟨x,t⟩
  ·simp at h1
  ·obtain rfl:x=91:=by simpa using h2
   rcases List.eq_nil_or_concat t with rfl | ⟨u,y,rfl⟩
   ·simp at h1
   ·rw[List.concat_eq_append] at h1 h2 h3⊢
    have:(91::(u++[y]):List UInt8).getLast?=some y:=by
     rw[show (91::(u++[y]):List UInt8)=(91::u)++[y] from rfl,List.getLast?_append];rfl
    rw[this] at h3
    obtain rfl:y=93:=Option.some.inj h3
    have hl:(91::(u++[93]):List UInt8).length-2=u.length:=by simp
    rw[hl]
    show ([91]:List UInt8)++((u++[93]):List UInt8).take u.length++[93]=91::(u++[93])
    rw[List.take_left];rfl
 ·rw[if_neg hc] at h;exact absurd rfl h
theorem sufB_colon (l:List UInt8):sufB (l++[58]) [58]=true:=by
 rw[sufB_one,List.getLast?_append];rfl
theorem suf_colon {k:List UInt8} (h:sufB k [58]=true):k.take (k.length-1)++[58]=k:=by
 simp only[sufB,Bool.and_eq_true,decide_eq_true_eq] at h
 have:=List.take_append_drop (k.length-1) k
 have h2:=h.2
 simp only[List.length_singleton] at h2
 rw[h2] at this
 exact this
inductive Right:LT→Prop
 | imm (rg n):0≤regB rg→Right ⟨1,rg,[],[],n⟩
 | load (rg loc):0≤regB rg→nameB loc=true→Right ⟨2,rg,loc,[],0⟩
 | store (rg loc):0≤regB rg→nameB loc=true→Right ⟨3,rg,loc,[],0⟩
 | put (loc n):nameB loc=true→Right ⟨4,[],loc,[],n⟩
 | xchg (rg loc):0≤regB rg→nameB loc=true→Right ⟨5,rg,loc,[],0⟩
 | fence:Right ⟨6,[],[],[],0⟩
 | cmp (rg n):0≤regB rg→Right ⟨7,rg,[],[],n⟩
 | jmp (lab):nameB lab=true→Right ⟨8,[],[],lab,0⟩
 | je (lab):nameB lab=true→Right ⟨9,[],[],lab,0⟩
 | jne (lab):nameB lab=true→Right ⟨10,[],[],lab,0⟩
 | label (lab):nameB lab=true→Right ⟨11,[],[],lab,0⟩
theorem reg_nil:(decide (0≤regB []))=false:=by decide
theorem name_nil:nameB []=false:=by decide
theorem right_iff (l:LT):l.right=true↔Right l:=by
 constructor
 ·intro h
  obtain ⟨op,rg,loc,lab,n⟩:=l
  have ho:rightB op rg loc lab n=true:=h
  rcases ops_all (rightB_op ho) with h' | h' | h' | h' | h' | h' | h' | h' | h' | h' | h' <;> subst h' <;>
   simp only[rightB,rb,hasReg,hasLoc,hasLab,hasN,decide_eq_true_eq,Int.reduceEq,Int.reduceLE,decide_false,decide_true,Bool.or_false,Bool.or_true,Bool.false_or,Bool.true_or,Bool.not_false,Bool.not_true,Bool.false_and,Bool.true_and,Bool.and_true,Bool.and_eq_true] at ho
  ·obtain ⟨⟨⟨⟨h1,-⟩,h2⟩,-⟩,h3⟩:=ho;subst h2;subst h3;exact .imm _ _ h1
  ·obtain ⟨⟨⟨⟨h1,h2⟩,-⟩,h3⟩,h4⟩:=ho;subst h3;subst h4;exact .load _ _ h1 h2
  ·obtain ⟨⟨⟨⟨h1,h2⟩,-⟩,h3⟩,h4⟩:=ho;subst h3;subst h4;exact .store _ _ h1 h2
  ·obtain ⟨⟨⟨⟨-,h1⟩,h2⟩,-⟩,h3⟩:=ho;subst h1;subst h3;exact .put _ _ h2
  ·obtain ⟨⟨⟨⟨h1,h2⟩,-⟩,h3⟩,h4⟩:=ho;subst h3;subst h4;exact .xchg _ _ h1 h2
  ·obtain ⟨⟨⟨⟨⟨⟨-,h1⟩,-⟩,h2⟩,-⟩,h3⟩,h4⟩:=ho;subst h1;subst h2;subst h3;subst h4;exact .fence
  ·obtain ⟨⟨⟨⟨h1,-⟩,h2⟩,-⟩,h3⟩:=ho;subst h2;subst h3;exact .cmp _ _ h1
  ·obtain ⟨⟨⟨⟨⟨-,h1⟩,-⟩,h2⟩,h3⟩,h4⟩:=ho;subst h1;subst h2;subst h4;exact .jmp _ h3
  ·obtain ⟨⟨⟨⟨⟨-,h1⟩,-⟩,h2⟩,h3⟩,h4⟩:=ho;subst h1;subst h2;subst h4;exact .je _ h3
  ·obtain ⟨⟨⟨⟨⟨-,h1⟩,-⟩,h2⟩,h3⟩,h4⟩:=ho;subst h1;subst h2;subst h4;exact .jne _ h3
  ·obtain ⟨⟨⟨⟨⟨-,h1⟩,-⟩,h2⟩,h3⟩,h4⟩:=ho;subst h1;subst h2;subst h4;exact .label _ h3
 ·intro h
  cases h <;> simp_all [LT.right,rightB,rb,hasReg,hasLoc,hasLab,hasN,reg_nil,name_nil]
theorem zero_wrong:zeroL.right=false:=by decide
theorem guess_words {l:LT} (h:Right l) (hn:inI l.n):guessB (wordsO l.op l.rg l.loc l.lab l.n)=l:=by
 cases h with
 | imm rg n h1 =>
  obtain ⟨b,r,rfl,hb1,hb2⟩:=regB_head h1
  show moveB (b::r) (textB n)=_
  unfold moveB
  rw[insB_low (by rintro rfl;revert hb1;decide),numB_text hn];rfl
 | load rg loc h1 h2 =>
  obtain ⟨b,r,rfl,hb1,hb2⟩:=regB_head h1
  show moveB (b::r) (atB loc)=_
  unfold moveB
  rw[insB_low (by rintro rfl;revert hb1;decide),insB_at,show atB loc=91::(loc++[93]) from rfl,numB_high (by decide)];rfl
 | store rg loc h1 h2 =>
  obtain ⟨b,r,rfl,hb1,hb2⟩:=regB_head h1
  obtain ⟨c,r',rfl,hc1,hc2⟩:=nameB_hd h2
  show moveB (atB (c::r')) (b::r)=_
  unfold moveB
  rw[insB_at,numB_high (by omega)];rfl
 | put loc n h2 =>
  obtain ⟨c,r',rfl,hc1,hc2⟩:=nameB_hd h2
  show moveB (atB (c::r')) (textB n)=_
  unfold moveB
  rw[insB_at,numB_text hn];rfl
 | xchg rg loc h1 h2 =>
  show (⟨5,rg,insB (atB loc),[],0⟩:LT)=_
  rw[insB_at]
 | fence=>decide
 | cmp rg n h1 =>
  show (if (numB (textB n)).2=true then (⟨7,rg,[],[],(numB (textB n)).1⟩:LT) else zeroL)=_
  rw[numB_text hn];rfl
 | jmp lab h=>rfl
 | je lab h=>rfl
 | jne lab h=>rfl
 | label lab h =>
  show guessB [lab++[58]]=_
  simp only[guessB,sufB_colon,if_true,List.length_append,List.length_singleton,Nat.add_sub_cancel,List.take_left']
theorem words_ne (l:LT):wordsO l.op l.rg l.loc l.lab l.n≠[]:=by
 unfold wordsO
 repeat' split
 all_goals simp
theorem get_words {l:LT} (h:l.right=true) (hn:inI l.n):getB l.words=(l,true):=by
 have hr:=(right_iff l).mp h
 have hw:l.words=wordsO l.op l.rg l.loc l.lab l.n:=if_pos h
 unfold getB
 rw[hw,guess_words hr hn,if_pos ⟨words_ne l,h⟩]
theorem words_get {w:List (List UInt8)} {l:LT} (h:getB w=(l,true)):l.right=true∧l.words=w∧inI l.n:=by
 unfold getB at h
 by_cases hc:w≠[]∧(guessB w).right=true
 ·rw[if_pos hc] at h
  obtain ⟨rfl,-⟩:=Prod.mk.inj h
  refine ⟨hc.2,?_⟩
  have hw:(guessB w).words=wordsO (guessB w).op (guessB w).rg (guessB w).loc (guessB w).lab (guessB w).n:=if_pos hc.2
  rw[hw]
  have hr:=hc.2
  have hz:∀{p:Prop},zeroL.right=true→p:=by intro p hh;rw[zero_wrong] at hh;exact absurd hh (by simp)
  have h0:inI 0:=by decide
  match w with
  | []=>exact absurd rfl hc.1
  | [k] =>
   simp only[guessB] at hr⊢
   by_cases h1:sufB k [58]=true
   ·rw[if_pos h1];exact ⟨by show [k.take (k.length-1)++[58]]=[k];rw[suf_colon h1],h0⟩
   ·rw[if_neg h1] at hr⊢
    by_cases h2:k=mfenceB
    ·rw[if_pos h2];exact ⟨by show [mfenceB]=[k];rw[h2],h0⟩
    ·rw[if_neg h2] at hr;exact hz hr
  | [k,l'] =>
   simp only[guessB] at hr⊢
   by_cases h1:k=jmpB
   ·rw[if_pos h1,h1];exact ⟨rfl,h0⟩
   ·rw[if_neg h1] at hr⊢
    by_cases h2:k=jeB
    ·rw[if_pos h2,h2];exact ⟨rfl,h0⟩
    ·rw[if_neg h2] at hr⊢
     by_cases h3:k=jneB
     ·rw[if_pos h3,h3];exact ⟨rfl,h0⟩
     ·rw[if_neg h3] at hr;exact hz hr
  | [k,a,b] =>
   simp only[guessB] at hr⊢
   by_cases h1:k=movB
   ·rw[if_pos h1] at hr⊢;subst h1
    unfold moveB at hr⊢
    by_cases ha:insB a≠[]
    ·rw[if_pos ha] at hr⊢
     by_cases hb:(numB b).2=true
     ·rw[if_pos hb]
      exact ⟨by show [movB,atB (insB a),textB (numB b).1]=_;rw[at_insB ha,(numB_true hb).2],numB_inI b⟩
     ·rw[if_neg hb]
      exact ⟨by show [movB,atB (insB a),b]=_;rw[at_insB ha],h0⟩
    ·rw[if_neg ha] at hr⊢
     by_cases hb:(numB b).2=true
     ·rw[if_pos hb]
      exact ⟨by show [movB,a,textB (numB b).1]=_;rw[(numB_true hb).2],numB_inI b⟩
     ·rw[if_neg hb] at hr⊢
      have hne:insB b≠[]:=by
       have:=(right_iff _).mp hr
       cases this with
       | load _ _ _ hn=>intro e;rw[e] at hn;exact absurd hn (by decide)
      exact ⟨by show [movB,a,atB (insB b)]=_;rw[at_insB hne],h0⟩
   ·rw[if_neg h1] at hr⊢
    by_cases h2:k=xchgB
    ·rw[if_pos h2] at hr⊢;subst h2
     have hne:insB a≠[]:=by
      have:=(right_iff _).mp hr
      cases this with
      | xchg _ _ _ hn=>intro e;rw[e] at hn;exact absurd hn (by decide)
     exact ⟨by show [xchgB,atB (insB a),b]=_;rw[at_insB hne],h0⟩
    ·rw[if_neg h2] at hr⊢
     by_cases h3:k=cmpB
     ·rw[if_pos h3] at hr⊢;subst h3
      by_cases hb:(numB b).2=true
      ·rw[if_pos hb]
       exact ⟨by show [cmpB,a,textB (numB b).1]=_;rw[(numB_true hb).2],numB_inI b⟩
      ·rw[if_neg hb] at hr;exact hz hr
     ·rw[if_neg h3] at hr;exact hz hr
  | _::_::_::_::_=>exact hz hr
 ·rw[if_neg hc] at h;exact absurd (Prod.mk.inj h).2 (by simp)
theorem get_false {w:List (List UInt8)} (h:(getB w).2=false):getB w=(zeroL,false):=by
 unfold getB at h⊢
 by_cases hc:w≠[]∧(guessB w).right=true
 ·rw[if_pos hc] at h;exact absurd h (by simp)
 ·rw[if_neg hc]
theorem innerB_at (l:List UInt8) (h:l≠[]):innerB (atB l) [91] [93]=l:=by
 have hl:0<l.length:=List.length_pos_iff.mpr h
 have h2:(atB l).length=l.length+2:=by simp[atB]
 have h3:(atB l).drop ((atB l).length-1)=[93]:=by
  rw[h2];show ((91::l)++[93]:List UInt8).drop (l.length+2-1)=[93]
  rw[show l.length+2-1=(91::l:List UInt8).length from rfl,List.drop_left]
 unfold innerB
 rw[if_pos ⟨by simp only[List.length_singleton];omega,rfl,h3⟩]
 simp only[List.length_singleton]
 rw[h2]
 show (((91::l)++[93]:List UInt8).take (l.length+2-1)).drop 1=l
 rw[show l.length+2-1=(91::l:List UInt8).length from rfl,List.take_left];rfl
theorem innerB_colon (l:List UInt8) (h:l≠[]):innerB (l++[58]) [] [58]=l:=by
 have hl:0<l.length:=List.length_pos_iff.mpr h
 have h2:(l++[58]:List UInt8).length-1=l.length:=by simp
 unfold innerB
 simp only[List.length_singleton,List.length_nil,h2]
 rw[if_pos ⟨by simp only[List.length_append,List.length_singleton];omega,rfl,List.drop_left⟩,List.take_left];rfl
theorem cand_words {l:LT} (h:Right l) (hn:inI l.n):l∈candB (wordsO l.op l.rg l.loc l.lab l.n):=by
 have nn:∀{s},nameB s=true→s≠[]:=by rintro s hs rfl;exact absurd hs (by decide)
 cases h with
 | imm rg n h1=>simp[wordsO,candB,numB_text hn]
 | load rg loc h1 h2=>simp[wordsO,candB,innerB_at loc (nn h2)]
 | store rg loc h1 h2=>simp[wordsO,candB,innerB_at loc (nn h2)]
 | put loc n h2=>simp[wordsO,candB,innerB_at loc (nn h2),numB_text hn]
 | xchg rg loc h1 h2=>simp[wordsO,candB,innerB_at loc (nn h2)]
 | fence=>simp[wordsO,candB]
 | cmp rg n h1=>simp[wordsO,candB,numB_text hn]
 | jmp lab h=>simp[wordsO,candB]
 | je lab h=>simp[wordsO,candB]
 | jne lab h=>simp[wordsO,candB]
 | label lab h=>simp[wordsO,candB,innerB_colon lab (nn h)]
theorem get_ref (w:List (List UInt8)) (hl:∀s∈w,s.length≤1000000):getB w=refGetB w:=by
 have hcn:∀l∈candB w,inI l.n:=fun l h=>(cand_ok hl l h).n
 unfold refGetB
 cases hf:(candB w).find? (goodB w) with
 | some l =>
  have hg:goodB w l=true:=List.find?_some hf
  have hm:l∈candB w:=List.mem_of_find?_eq_some hf
  simp only[goodB,Bool.and_eq_true,decide_eq_true_eq] at hg
  have:=get_words hg.1 (hcn l hm)
  rw[hg.2] at this
  rw[this]
 | none =>
  cases hb:(getB w).2 with
  | false=>rw[get_false hb]
  | true =>
   obtain ⟨h1,h2,h3⟩:=words_get (w:=w) (l:=(getB w).1) (by rw[←hb])
   have hm:=cand_words ((right_iff _).mp h1) h3
   have hw:(getB w).1.words=wordsO (getB w).1.op (getB w).1.rg (getB w).1.loc (getB w).1.lab (getB w).1.n:=if_pos h1
   rw[←hw,h2] at hm
   have:=List.find?_eq_none.mp hf _ hm
   simp[goodB,h1,h2] at this
end Go.Proofs.YtmapdjdnnhlpiaaGreatDoor
namespace Go.Proofs.YtmapdjdnnhlpiaaGreatDoor
open Go.RowKit
set_option maxRecDepth 8000
theorem cut_sep {c:UInt8} {p:List UInt8} (r:List UInt8) (h:c∉p):Lib.cut (p++c::r) [c]=(p,r,true):=by
 have h1:(p++c::r)[p.length]?=some c:=by simp
 rw[cut_at h1 (by
  intro j hj hc
  rw[List.getElem?_append_left hj] at hc
  exact h (List.mem_of_getElem? hc))]
 simp
theorem cut_no {c:UInt8} {s:List UInt8} (h:c∉s):Lib.cut s [c]=(s,[],false):=by
 rcases cut1 c s with ⟨p,r,rfl,_,_⟩ | ⟨_,h2⟩
 ·exact absurd (by simp) h
 ·exact h2
theorem cut_true {c:UInt8} {s:List UInt8} (h:(Lib.cut s [c]).2.2=true):(Lib.cut s [c]).1++c::(Lib.cut s [c]).2.1=s:=by
 rcases cut1 c s with ⟨p,r,rfl,_,h2⟩ | ⟨_,h2⟩
 ·rw[h2]
 ·rw[h2] at h;exact absurd h (by simp)
theorem cut_false {c:UInt8} {s:List UInt8} (h:(Lib.cut s [c]).2.2=false):Lib.cut s [c]=(s,[],false):=by
 rcases cut1 c s with ⟨p,r,rfl,_,h2⟩ | ⟨_,h2⟩
 ·rw[h2] at h;exact absurd h (by simp)
 ·exact h2
theorem nameB_ld {s:List UInt8} (h:nameB s=true):s.all ldB=true:=by
 cases s with
 | nil=>rfl
 | cons b r =>
  simp only[nameB,headB,Bool.and_eq_true] at h
  simp only[List.all_cons,Bool.and_eq_true]
  exact ⟨by simp[ldB,h.1.1.1.1],h.1.1.1.2⟩
theorem regB_ld {s:List UInt8} (h:0≤regB s):s.all ldB=true:=by
 unfold regB at h
 split at h
 ·rename_i e;subst e;decide
 ·split at h
  ·rename_i e;subst e;decide
  ·split at h
   ·rename_i e;subst e;decide
   ·split at h
    ·rename_i e;subst e;decide
    ·omega
theorem asked_nm {th:Int} {nm:List UInt8} (h:askedB th nm=true):nm≠[]∧nm.all ldB=true∧(th = -1∨th=0∨th=1∨th=2):=by
 unfold askedB at h
 split at h
 ·rename_i e
  obtain ⟨b,r,rfl,-⟩:=nameB_hd h
  exact ⟨by simp,nameB_ld h,.inl e⟩
 ·simp only[Bool.and_eq_true,decide_eq_true_eq] at h
  obtain ⟨b,r,rfl,-⟩:=regB_head h.2
  exact ⟨by simp,regB_ld h.2,by omega⟩
theorem ld_no {nm:List UInt8} (h:nm.all ldB=true):(58:UInt8)∉nm∧(61:UInt8)∉nm:=by
 constructor <;> intro hm <;> exact absurd (List.all_eq_true.mp h _ hm) (by decide)
def leftA (th:Int) (nm:List UInt8):List UInt8:=if 0≤th then textB th++[58]++nm else nm
theorem textB_small {th:Int} (h:th=0∨th=1∨th=2):textB th=[dig th.natAbs]∧(dig th.natAbs).toNat=48+th.natAbs∧isDig (dig th.natAbs)=true:=by
 rcases h with rfl | rfl | rfl
 ·exact ⟨by unfold textB;rw[if_neg (by decide)];exact dB_lt (by decide),by decide,by decide⟩
 ·exact ⟨by unfold textB;rw[if_neg (by decide)];exact dB_lt (by decide),by decide,by decide⟩
 ·exact ⟨by unfold textB;rw[if_neg (by decide)];exact dB_lt (by decide),by decide,by decide⟩
theorem wordA_left {th:Int} {nm:List UInt8} (n:Int) (h:askedB th nm=true):wordA th nm n=leftA th nm++61::textB n:=by
 unfold wordA leftA
 rw[if_pos h]
 split <;> simp
theorem left_no {th:Int} {nm:List UInt8} (h:askedB th nm=true):(61:UInt8)∉leftA th nm:=by
 obtain ⟨_,h2,h3⟩:=asked_nm h
 unfold leftA
 split
 ·obtain ⟨t1,t2,t3⟩:=textB_small (th:=th) (by omega)
  rw[t1]
  simp only[List.mem_append,List.mem_singleton,not_or]
  refine ⟨⟨?_,by decide⟩,(ld_no h2).2⟩
  intro e;rw[←e] at t3;exact absurd t3 (by decide)
 ·exact (ld_no h2).2
theorem word_cut {th:Int} {nm:List UInt8} (n:Int) (h:askedB th nm=true):Lib.cut (wordA th nm n) [61]=(leftA th nm,textB n,true):=by
 rw[wordA_left n h,cut_sep _ (left_no h)]
theorem headA_left {th:Int} {nm:List UInt8} (h:askedB th nm=true):headA (leftA th nm)=some (th,nm):=by
 obtain ⟨_,h2,h3⟩:=asked_nm h
 unfold leftA headA
 by_cases hth:0≤th
 ·obtain ⟨t1,t2,t3⟩:=textB_small (th:=th) (by omega)
  have hi:inI th:=by unfold inI;omega
  have hno:(58:UInt8)∉textB th:=by rw[t1,List.mem_singleton];intro e;rw[←e] at t3;exact absurd t3 (by decide)
  have hc:Lib.cut (textB th++[58]++nm) [58]=(textB th,nm,true):=by
   rw[List.append_assoc];exact cut_sep nm hno
  rw[if_pos hth,hc]
  simp only[if_true]
  rw[numB_text hi,if_pos ⟨rfl,hth⟩]
 ·rw[if_neg hth,cut_no (ld_no h2).1]
  have:th = -1:=by omega
  rw[this];rfl
theorem headR_left {th:Int} {nm:List UInt8} (n:Int) (h:askedB th nm=true):headR (leftA th nm) n=⟨th,nm,n⟩:=by
 obtain ⟨h1,h2,h3⟩:=asked_nm h
 unfold leftA headR
 by_cases hth:0≤th
 ·obtain ⟨t1,t2,t3⟩:=textB_small (th:=th) (by omega)
  have hl:0<nm.length:=List.length_pos_iff.mpr h1
  rw[if_pos hth,t1,if_pos ⟨by simp;omega,rfl⟩]
  show (⟨((dig th.natAbs).toNat:Int)-48,nm,n⟩:AT)=_
  rw[t2]
  have:(((48+th.natAbs:Nat):Int)-48)=th:=by omega
  rw[this]
 ·rw[if_neg hth,if_neg]
  ·have:th = -1:=by omega
   rw[this]
  ·rintro ⟨_,hc⟩
   exact (ld_no h2).1 (List.mem_of_getElem? hc)
def AT.asked (a:AT):Bool:=askedB a.th a.nm
def AT.word (a:AT):List UInt8:=wordA a.th a.nm a.n
theorem atom_word {a:AT} (h:a.asked=true) (hn:inI a.n):atomB a.word=(a,true):=by
 unfold atomB AT.word
 rw[word_cut a.n h,headA_left h]
 simp only[]
 rw[numB_text hn,if_pos ⟨rfl,h⟩]
theorem word_atom {s:List UInt8} {a:AT} (h:atomB s=(a,true)):a.asked=true∧a.word=s∧inI a.n:=by
 unfold atomB at h
 have hno:∀{p:Prop},(zeroA,false)=(a,true)→p:=by intro p hh;exact absurd (Prod.mk.inj hh).2 (by simp)
 cases hh:headA (Lib.cut s [61]).1 with
 | none=>rw[hh] at h;exact hno h
 | some q =>
  obtain ⟨th,nm⟩:=q
  rw[hh] at h
  simp only[] at h
  by_cases hc:(numB (Lib.cut s [61]).2.1).2=true∧askedB th nm=true
  ·rw[if_pos hc] at h
   obtain ⟨rfl,-⟩:=Prod.mk.inj h
   refine ⟨hc.2,?_,numB_inI _⟩
   show wordA th nm (numB (Lib.cut s [61]).2.1).1=s
   rw[wordA_left _ hc.2,(numB_true hc.1).2]
   have ht:(Lib.cut s [61]).2.2=true:=by
    cases hf:(Lib.cut s [61]).2.2 with
    | true=>rfl
    | false=>rw[cut_false hf] at hc;exact absurd hc.1 (show ¬(numB []).2=true by decide)
   have hl:leftA th nm=(Lib.cut s [61]).1:=by
    obtain ⟨_,_,h3⟩:=asked_nm hc.2
    unfold headA at hh
    by_cases hd:(Lib.cut (Lib.cut s [61]).1 [58]).2.2=true
    ·rw[if_pos hd] at hh
     split at hh
     ·rename_i hg
      obtain ⟨e1,e2⟩:=Prod.mk.inj (Option.some.inj hh)
      have e3:=cut_true hd
      unfold leftA
      rw[←e1,if_pos hg.2,(numB_true hg.1).2,←e2]
      simpa using e3
     ·exact absurd hh (by simp)
    ·rw[if_neg hd] at hh
     obtain ⟨e1,e2⟩:=Prod.mk.inj (Option.some.inj hh)
     unfold leftA
     rw[←e1,if_neg (by decide),e2]
   rw[hl]
   exact cut_true ht
  ·rw[if_neg hc] at h;exact hno h
theorem atom_false {s:List UInt8} (h:(atomB s).2=false):atomB s=(zeroA,false):=by
 unfold atomB at h⊢
 cases hh:headA (Lib.cut s [61]).1 with
 | none=>rfl
 | some q =>
  obtain ⟨th,nm⟩:=q
  rw[hh] at h
  simp only[] at h⊢
  split at h
  ·exact absurd h (by simp)
  ·rename_i hc;rw[if_neg hc]
theorem atom_ref (s:List UInt8):atomB s=refAtomB s:=by
 by_cases hc:(Lib.cut s [61]).2.2=true∧(numB (Lib.cut s [61]).2.1).2=true∧wordA (headR (Lib.cut s [61]).1 (numB (Lib.cut s [61]).2.1).1).th (headR (Lib.cut s [61]).1 (numB (Lib.cut s [61]).2.1).1).nm (numB (Lib.cut s [61]).2.1).1=s
 ·have hn:(headR (Lib.cut s [61]).1 (numB (Lib.cut s [61]).2.1).1).n=(numB (Lib.cut s [61]).2.1).1:=by unfold headR;split <;> rfl
  unfold refAtomB
  rw[if_pos hc]
  obtain ⟨h1,h2,h3⟩:=hc
  generalize headR (Lib.cut s [61]).1 (numB (Lib.cut s [61]).2.1).1=a at h3 hn⊢
  have ha:a.asked=true:=by
   cases hb:a.asked with
   | true=>rfl
   | false =>
    have hb' : askedB a.th a.nm=false:=hb
    unfold wordA at h3
    rw[hb',if_neg (by simp)] at h3
    rw[←h3] at h1
    exact absurd h1 (by decide)
  have:=atom_word ha (by rw[hn];exact numB_inI _)
  unfold AT.word at this
  rw[hn,h3] at this
  exact this
 ·cases hb:(atomB s).2 with
  | false=>rw[atom_false hb];unfold refAtomB;rw[if_neg hc]
  | true =>
   exfalso;apply hc
   obtain ⟨h1,h2,h3⟩:=word_atom (s:=s) (a:=(atomB s).1) (by rw[←hb])
   generalize (atomB s).1=a at h1 h2 h3
   have h2' : wordA a.th a.nm a.n=s:=h2
   have h4:=word_cut a.n h1
   rw[h2'] at h4
   rw[h4]
   simp only[numB_text h3,headR_left _ h1,true_and]
   exact h2'
end Go.Proofs.YtmapdjdnnhlpiaaGreatDoor
namespace Go.Proofs.YtmapdjdnnhlpiaaGreatDoor
open Go.RowKit
set_option maxRecDepth 8000
end Go.Proofs.YtmapdjdnnhlpiaaGreatDoor
namespace Go.Proofs.YtmapdjdnnhlpiaaGreatDoor
open Go.RowKit
set_option maxRecDepth 8000
theorem nameB_len8 {s:List UInt8} (h:nameB s=true):s.length≤8:=by
 simp only[nameB,Bool.and_eq_true,decide_eq_true_eq] at h
 exact h.1.1.2
end Go.Proofs.YtmapdjdnnhlpiaaGreatDoor
namespace Go.Proofs.YtmapdjdnnhlpiaaGreatDoor
open Go.RowKit
set_option maxRecDepth 8000
abbrev wrongH (t i e:Int):HV:=.ic 80 (.ag [.v (.int .i64 t),.v (.int .i64 i),.v (.int .i64 e)])
def wrO:Option (Int×Int×Int)→HV
 | none=>.v .nilIface
 | some (t,i,e)=>wrongH t i e
abbrev fileO (f:Fl):HObj:=⟨27,5,[[.v (str f.name),.sl (cls f.init),.sl (tds f.thr),.v (.bool f.all),.sl (ats f.cond)]]⟩
def kindI (op:Int):Int:=if op=6 then 0 else if op=11 then 1 else 2
theorem kindI_6:kindI 6=0:=rfl
theorem kindI_11:kindI 11=1:=rfl
attribute [go_sem] kindI_6 kindI_11
theorem validKind (x:LT):HFn Tryz.prog 81 [lineT x] (.v (.int .i64 (kindI x.op))):=by
 unfold kindI
 refine HCalls_body (fn:=Tryz.f81) 9 [2] (by kernel_rfl) rfl (by kernel_rfl) (HW.run 400 (by kernel_rfl) ?_)
 by_cases h1:x.op=6
 ·simp (config:={ decide:=true }) only[go_sem,Int.reduceToNat,Nat.reduceAdd,Nat.reduceSub,Nat.reduceMul,Nat.reduceBEq,reduceIte,reduceCtorEq,h1]
 ·by_cases h2:x.op=11
  ·simp (config:={ decide:=true }) only[go_sem,Int.reduceToNat,Nat.reduceAdd,Nat.reduceSub,Nat.reduceMul,Nat.reduceBEq,reduceIte,reduceCtorEq,h1,h2]
  ·simp (config:={ decide:=true }) only[go_sem,Int.reduceToNat,Nat.reduceAdd,Nat.reduceSub,Nat.reduceMul,Nat.reduceBEq,reduceIte,reduceCtorEq,h1,h2]
theorem validHead1 (e:Int):HFn Tryz.prog 79 [.v (.int .i64 e)] (wrongH (-1) (-1) e):=by
 refine HCalls_body (fn:=Tryz.f79) 6 [2] (by kernel_rfl) rfl (by kernel_rfl) (HW.run 400 (by kernel_rfl) ?_)
 simp (config:={ decide:=true }) only[go_sem,Int.reduceToNat,Nat.reduceAdd,Nat.reduceSub,Nat.reduceMul,Nat.reduceBEq,reduceIte,reduceCtorEq]
def headO (f:Fl):Option (Int×Int×Int):=if headE f=0 then none else some (-1,-1,headE f)
theorem headO_name {f:Fl} (h:nameB f.name=false):headO f=some (-1,-1,22):=by
 have:headE f=22:=by unfold headE;rw[if_pos h]
 simp[headO,this]
theorem headO_ini {f:Fl} {e:Int} (h:nameB f.name=true) (h2:iniE [] f.init=e) (he:e≠0):headO f=some (-1,-1,e):=by
 have:headE f=e:=by unfold headE;rw[if_neg (by simp[h]),h2,if_pos he]
 simp[headO,this,he]
theorem headO_thr {f:Fl} (h:nameB f.name=true) (h2:iniE [] f.init=0):headO f=if f.thr.length<1∨3<f.thr.length then some (-1,-1,5) else none:=by
 have:headE f=if f.thr.length<1∨3<f.thr.length then 5 else 0:=by unfold headE;rw[if_neg (by simp[h]),h2];simp
 unfold headO
 rw[this]
 split <;> simp
set_option maxHeartbeats 4000000 in
theorem validHead (f:Fl) (hi:f.init.length≤1000000) (ht:f.thr.length≤1000000):HFn Tryz.prog 63 [fileH f] (wrO (headO f)):=by
 refine HCalls_body (fn:=Tryz.f63) 49 [2] (by kernel_rfl) rfl (by kernel_rfl) (HW.run 400 (by kernel_rfl) ?_)
 simp (config:={ decide:=true }) only[go_sem,Int.reduceToNat,Nat.reduceAdd,Nat.reduceSub,Nat.reduceMul,Nat.reduceBEq,reduceIte,reduceCtorEq]
 refine callX_fn 3 (namePr f.name) (by simp only[go_sem]) rfl ?_
 cases hn:nameB f.name with
 | false =>
  simp (config:={ decide:=true }) only[go_sem,Int.reduceToNat,Nat.reduceAdd,Nat.reduceSub,Nat.reduceMul,Nat.reduceBEq,reduceIte,reduceCtorEq]
  refine callX_nm (validHead1 22) rfl rfl ?_
  simp (config:={ decide:=true }) only[go_sem,Int.reduceToNat,Nat.reduceAdd,Nat.reduceSub,Nat.reduceMul,Nat.reduceBEq,reduceIte,reduceCtorEq]
  rw[headO_name hn];rfl
 | true =>
  simp (config:={ decide:=true }) only[go_sem,Int.reduceToNat,Nat.reduceAdd,Nat.reduceSub,Nat.reduceMul,Nat.reduceBEq,reduceIte,reduceCtorEq]
  refine HW.loopG (fun k T H=>∃(i:Nat) (last:List UInt8),k=f.init.length-i∧i≤f.init.length∧iniE [] f.init=iniE last (f.init.drop i)∧T 1=.pt 0 1 0 0∧T 3=.fn 79 []∧T 4=.v (str last)∧T 14=.sl (cls f.init)∧T 15=.v (.int .i64 f.init.length)∧T 16=.v (.int .i64 i)∧H=[some (fileO f)]) f.init.length ⟨_,_,Ghost.refl,0,[],rfl,by omega,rfl,rfl,rfl,rfl,rfl,rfl,rfl,rfl⟩ ?_
  rintro k T H ⟨i,last,rfl,hil,hI,h1,h3,h4,h14,h15,h16,rfl⟩
  refine HW.run 200 (by kernel_rfl) ?_
  by_cases hlt:i<f.init.length
  ·have hlt' : ((i:Int)<(f.init.length:Int))=True:=by simp only[eq_iff_iff,iff_true];omega
   have hx:f.init[i]?=some f.init[i]:=List.getElem?_eq_getElem hlt
   have hdr:f.init.drop i=f.init[i]::f.init.drop (i+1):=List.drop_eq_getElem_cons hlt
   rw[hdr,iniE] at hI
   generalize f.init[i]=c at hx hI
   simp (config:={ decide:=true }) only[go_sem,Int.reduceToNat,Nat.reduceAdd,Nat.reduceSub,Nat.reduceMul,Nat.reduceBEq,reduceIte,reduceCtorEq,h1,h3,h4,h14,h15,h16,hlt',hx,crow]
   refine callX_fn 3 (namePr c.1) (by simp only[go_sem]) rfl ?_
   cases hc:nameB c.1 with
   | false =>
    rw[if_pos hc] at hI
    simp (config:={ decide:=true }) only[go_sem,Int.reduceToNat,Nat.reduceAdd,Nat.reduceSub,Nat.reduceMul,Nat.reduceBEq,reduceIte,reduceCtorEq,h1,h3,h4,h14,h15,h16]
    refine callX_nm (validHead1 22) rfl rfl ?_
    simp (config:={ decide:=true }) only[go_sem,Int.reduceToNat,Nat.reduceAdd,Nat.reduceSub,Nat.reduceMul,Nat.reduceBEq,reduceIte,reduceCtorEq]
    rw[headO_ini hn hI (by decide)];rfl
   | true =>
    rw[if_neg (by simp[hc])] at hI
    cases hle:leS c.1 last with
    | true =>
     rw[if_pos hle] at hI
     simp (config:={ decide:=true }) only[go_sem,Int.reduceToNat,Nat.reduceAdd,Nat.reduceSub,Nat.reduceMul,Nat.reduceBEq,reduceIte,reduceCtorEq,h1,h3,h4,h14,h15,h16,hle]
     refine callX_nm (validHead1 21) rfl rfl ?_
     simp (config:={ decide:=true }) only[go_sem,Int.reduceToNat,Nat.reduceAdd,Nat.reduceSub,Nat.reduceMul,Nat.reduceBEq,reduceIte,reduceCtorEq]
     rw[headO_ini hn hI (by decide)];rfl
    | false =>
     rw[if_neg (by simp[hle])] at hI
     simp (config:={ decide:=true }) only[go_sem,Int.reduceToNat,Nat.reduceAdd,Nat.reduceSub,Nat.reduceMul,Nat.reduceBEq,reduceIte,reduceCtorEq,h1,h3,h4,h14,h15,h16,hle]
     refine ⟨_,_,Ghost.trunc [1,3,4,14,15,16] 1 (by omega) ?_ ?_,f.init.length-(i+1),by omega,i+1,c.1,rfl,by omega,hI,?_,?_,?_,?_,?_,?_,?_⟩
     all_goals first | (simp (config:={ decide:=true }) only[go_sem,Nat.reduceBEq,reduceIte,h1,h3,h4,h14,h15,h16];done) | (simp (config:={ decide:=true }) only[go_sem,Nat.reduceBEq,reduceIte];rw[w64 (by omega) (by omega)];rfl) | rfl
  ·have hlt' : ((i:Int)<(f.init.length:Int))=False:=by simp only[eq_iff_iff,iff_false];omega
   rw[List.drop_of_length_le (by omega)] at hI
   have hI' : iniE [] f.init=0:=hI
   rw[headO_thr hn hI']
   by_cases t1:f.thr.length<1
   ·have t1' : ((f.thr.length:Int)<1)=True:=by simp only[eq_iff_iff,iff_true];omega
    rw[if_pos (.inl t1)]
    simp (config:={ decide:=true }) only[go_sem,Int.reduceToNat,Nat.reduceAdd,Nat.reduceSub,Nat.reduceMul,Nat.reduceBEq,reduceIte,reduceCtorEq,h1,h3,h4,h14,h15,h16,hlt',t1']
    refine callX_nm (validHead1 5) rfl rfl ?_
    simp (config:={ decide:=true }) only[go_sem,Int.reduceToNat,Nat.reduceAdd,Nat.reduceSub,Nat.reduceMul,Nat.reduceBEq,reduceIte,reduceCtorEq]
    rfl
   ·have t1' : ((f.thr.length:Int)<1)=False:=by simp only[eq_iff_iff,iff_false];omega
    by_cases t2:3<f.thr.length
    ·have t2' : ((3:Int)<(f.thr.length:Int))=True:=by simp only[eq_iff_iff,iff_true];omega
     rw[if_pos (.inr t2)]
     simp (config:={ decide:=true }) only[go_sem,Int.reduceToNat,Nat.reduceAdd,Nat.reduceSub,Nat.reduceMul,Nat.reduceBEq,reduceIte,reduceCtorEq,h1,h3,h4,h14,h15,h16,hlt',t1',t2']
     refine callX_nm (validHead1 5) rfl rfl ?_
     simp (config:={ decide:=true }) only[go_sem,Int.reduceToNat,Nat.reduceAdd,Nat.reduceSub,Nat.reduceMul,Nat.reduceBEq,reduceIte,reduceCtorEq]
     rfl
    ·have t2' : ((3:Int)<(f.thr.length:Int))=False:=by simp only[eq_iff_iff,iff_false];omega
     rw[if_neg (by omega)]
     simp (config:={ decide:=true }) only[go_sem,Int.reduceToNat,Nat.reduceAdd,Nat.reduceSub,Nat.reduceMul,Nat.reduceBEq,reduceIte,reduceCtorEq,h1,h3,h4,h14,h15,h16,hlt',t1',t2']
     rfl
def conO (f:Fl):Option (Int×Int×Int):=(conE f.thr.length 0 f.cond).map fun p=>((f.thr.length:Int),(p.1:Int),p.2)
set_option maxHeartbeats 4000000 in
theorem validAsked (f:Fl) (hi:f.cond.length≤1000000) (ht:f.thr.length≤1000000):HFn Tryz.prog 65 [fileH f] (wrO (conO f)):=by
 refine HCalls_body (fn:=Tryz.f65) 38 [2] (by kernel_rfl) rfl (by kernel_rfl) (HW.run 400 (by kernel_rfl) ?_)
 simp (config:={ decide:=true }) only[go_sem,Int.reduceToNat,Nat.reduceAdd,Nat.reduceSub,Nat.reduceMul,Nat.reduceBEq,reduceIte,reduceCtorEq]
 refine HW.loopG (fun k T H=>∃(i:Nat),k=f.cond.length-i∧i≤f.cond.length∧conE f.thr.length 0 f.cond=conE f.thr.length i (f.cond.drop i)∧T 1=.pt 0 1 0 0∧T 7=.sl (ats f.cond)∧T 8=.v (.int .i64 f.cond.length)∧T 9=.v (.int .i64 i)∧H=[some (fileO f)]) f.cond.length ⟨_,_,Ghost.refl,0,rfl,by omega,rfl,rfl,rfl,rfl,rfl,rfl⟩ ?_
 rintro k T H ⟨i,rfl,hil,hI,h1,h7,h8,h9,rfl⟩
 refine HW.run 200 (by kernel_rfl) ?_
 by_cases hlt:i<f.cond.length
 ·have hlt' : ((i:Int)<(f.cond.length:Int))=True:=by simp only[eq_iff_iff,iff_true];omega
  have hx:f.cond[i]?=some f.cond[i]:=List.getElem?_eq_getElem hlt
  have hdr:f.cond.drop i=f.cond[i]::f.cond.drop (i+1):=List.drop_eq_getElem_cons hlt
  rw[hdr,conE] at hI
  generalize f.cond[i]=c at hx hI
  by_cases h6:6≤i
  ·have h6' : ((6:Int)≤(i:Int))=True:=by simp only[eq_iff_iff,iff_true];omega
   rw[if_pos h6] at hI
   simp (config:={ decide:=true }) only[go_sem,Int.reduceToNat,Nat.reduceAdd,Nat.reduceSub,Nat.reduceMul,Nat.reduceBEq,reduceIte,reduceCtorEq,h1,h7,h8,h9,hlt',hx,arow,h6']
   unfold conO;rw[hI];rfl
  ·have h6' : ((6:Int)≤(i:Int))=False:=by simp only[eq_iff_iff,iff_false];omega
   rw[if_neg h6] at hI
   simp (config:={ decide:=true }) only[go_sem,Int.reduceToNat,Nat.reduceAdd,Nat.reduceSub,Nat.reduceMul,Nat.reduceBEq,reduceIte,reduceCtorEq,h1,h7,h8,h9,hlt',hx,arow,h6']
   refine callX_fn 3 (opsAsked c.th c.nm c.n) (by simp only[go_sem]) rfl ?_
   cases hc:askedB c.th c.nm with
   | false =>
    rw[if_pos hc] at hI
    simp (config:={ decide:=true }) only[go_sem,Int.reduceToNat,Nat.reduceAdd,Nat.reduceSub,Nat.reduceMul,Nat.reduceBEq,reduceIte,reduceCtorEq,h1,h7,h8,h9]
    unfold conO;rw[hI];rfl
   | true =>
    rw[if_neg (by simp[hc])] at hI
    by_cases ht:(f.thr.length:Int)≤c.th
    ·rw[if_pos ht] at hI
     simp (config:={ decide:=true }) only[go_sem,Int.reduceToNat,Nat.reduceAdd,Nat.reduceSub,Nat.reduceMul,Nat.reduceBEq,reduceIte,reduceCtorEq,h1,h7,h8,h9,ht]
     unfold conO;rw[hI];rfl
    ·rw[if_neg ht] at hI
     simp (config:={ decide:=true }) only[go_sem,Int.reduceToNat,Nat.reduceAdd,Nat.reduceSub,Nat.reduceMul,Nat.reduceBEq,reduceIte,reduceCtorEq,h1,h7,h8,h9,ht]
     refine ⟨_,_,Ghost.trunc [1,7,8,9] 1 (by omega) ?_ ?_,f.cond.length-(i+1),by omega,i+1,rfl,by omega,hI,?_,?_,?_,?_,?_⟩
     all_goals first | (simp (config:={ decide:=true }) only[go_sem,Nat.reduceBEq,reduceIte,h1,h7,h8,h9];done) | (simp (config:={ decide:=true }) only[go_sem,Nat.reduceBEq,reduceIte];rw[w64 (by omega) (by omega)];rfl) | rfl
 ·have hlt' : ((i:Int)<(f.cond.length:Int))=False:=by simp only[eq_iff_iff,iff_false];omega
  rw[List.drop_of_length_le (by omega)] at hI
  simp (config:={ decide:=true }) only[go_sem,Int.reduceToNat,Nat.reduceAdd,Nat.reduceSub,Nat.reduceMul,Nat.reduceBEq,reduceIte,reduceCtorEq,h1,h7,h8,h9,hlt']
  unfold conO;rw[hI];rfl
end Go.Proofs.YtmapdjdnnhlpiaaGreatDoor
namespace Go.Proofs.YtmapdjdnnhlpiaaGreatDoor
open Go.RowKit
def RRel (r r' : Res):Prop:=∀p x H0,p→r=some (p,x,H0)→∃(p' : Prop) (H0' : Heap),p'∧r'=some (p',x,H0')
theorem rrel_none {r:Res}:RRel none r:=fun _ _ _ _ h=>by cases h
theorem rrel_rv {H H' : Heap} {p p' : Prop} {x:HV} (h:p→p'):RRel (rv H p x) (rv H' p' x):=fun q y H0 hq e=>by
 cases e;exact ⟨p',H',h hq,rfl⟩
theorem rrel_bind {α:Type} {o o' : Option α} {f f' : α→Res} (h:∀a,o=some a→o'=some a∧RRel (f a) (f' a)):RRel (bindO o f) (bindO o' f'):=by
 cases o with
 | none=>exact rrel_none
 | some a =>
  obtain ⟨h1,h2⟩:=h a rfl
  rw[h1];exact h2
def nmed (id:Nat):HV→Prop
 | .hd i _ _=>i=id
 | .pt i _ _ _=>i=id
 | _=>False
def Agr (H H' : Heap) (x:HV):Prop:=∀id,nmed id x→∀ob,getO H id=some ob→getO H' id=some ob
theorem getO_iff {H:Heap} {id:Nat} {ob:HObj}:getO H id=some ob↔H[id]?=some (some ob):=by
 constructor
 ·exact getO_spec
 ·intro h;unfold getO;rw[h]
section
variable {P:Program} {T:Nat→HV} {H H' : Heap}
theorem liveAt_agr {x:HV} (h:Agr H H' x) (hl:liveAt H x=true):liveAt H' x=true:=by
 unfold liveAt at hl⊢
 split at hl
 ·rename_i id n r o
  split at hl
  ·rename_i ob ho
   have:=getO_iff.1 (h id rfl ob (getO_iff.2 ho))
   rw[this];exact hl
  ·cases hl
 ·rfl
 ·cases hl
theorem srcRows_agr {x:HV} (h:Agr H H' x) {rows:List (List HV)} (hs:srcRows H x=some rows):srcRows H' x=some rows:=by
 unfold srcRows at hs⊢
 split at hs
 ·exact hs
 ·exact hs
 ·exact hs
 ·rename_i id off len
  split at hs
  ·rename_i ob ho
   have:=getO_iff.1 (h id rfl ob (getO_iff.2 ho))
   rw[this];exact hs
  ·cases hs
 ·cases hs
theorem ropQ_agr {op:Op} (hag:∀y∈op.operands.toList,Agr H H' (hev T y)):RRel (ropQ P T H op) (ropQ P T H' op):=by
 have h1:∀y,y∈op.operands→Agr H H' (hev T y):=fun y hy=>hag y (by simpa using hy)
 clear hag
 unfold ropQ
 split <;> simp only[Op.operands,Call.operands] at h1
 ·exact rrel_rv id
 ·exact rrel_rv id
 ·unfold rpick;split <;> first | exact rrel_rv id | exact rrel_none
 ·unfold rbuild
  exact rrel_bind fun a ha=>⟨ha,rrel_bind fun b hb=>⟨hb,rrel_bind fun c hc=>⟨hc,rrel_rv id⟩⟩⟩
 ·rename_i t a
  refine rrel_bind fun x hx=>⟨hx,?_⟩
  have ha:=h1 a (by simp)
  unfold rloadQ
  split
  ·rename_i id n r o e
   rw[e] at ha
   exact rrel_bind fun ob ho=>⟨ha _ rfl ob ho,rrel_bind fun row hr=>⟨hr,rrel_rv fun h=>h⟩⟩
  ·exact rrel_bind fun row hr=>⟨hr,rrel_rv fun h=>h⟩
  ·exact rrel_none
 ·rename_i x
  have ha:=h1 x (by simp)
  unfold rsure
  split
  ·exact rrel_rv id
  ·rename_i e;rw[e] at ha;exact rrel_rv (liveAt_agr ha)
  ·exact rrel_rv id
  ·exact rrel_rv id
  ·exact rrel_none
 ·unfold rbin;exact rrel_bind fun v hv=>⟨hv,rrel_rv id⟩
 ·unfold run1;split <;> first | exact rrel_rv id | exact rrel_none
 ·rename_i src dst x
  have ha:=h1 x (by simp)
  unfold rconv
  split
  ·exact rrel_bind fun a ha=>⟨ha,rrel_bind fun b hb=>⟨hb,rrel_rv id⟩⟩
  ·exact rrel_rv id
  ·exact rrel_bind fun e he=>⟨he,rrel_bind fun rows hr=>⟨srcRows_agr ha hr,rrel_bind fun l hl=>⟨hl,rrel_rv id⟩⟩⟩
 ·unfold riface;exact rrel_bind fun y hy=>⟨hy,rrel_rv id⟩
 ·split <;> first | exact rrel_rv id | exact rrel_none
 ·rename_i t x lo hi
  have ha:=h1 x (by simp)
  unfold rcut
  split
  ·exact rrel_bind fun l hl=>⟨hl,rrel_bind fun h hh=>⟨hh,rrel_rv id⟩⟩
  ·exact rrel_bind fun e he=>⟨he,rrel_bind fun l hl=>⟨hl,rrel_bind fun h hh=>⟨hh,rrel_rv id⟩⟩⟩
  ·rename_i e;rw[e] at ha
   exact rrel_bind fun e he=>⟨he,rrel_bind fun l hl=>⟨hl,rrel_bind fun h hh=>⟨hh,rrel_bind fun ob ho=>⟨ha _ rfl ob ho,rrel_rv id⟩⟩⟩⟩
  ·exact rrel_none
 ·rename_i s a i
  have ha:=h1 a (by simp)
  unfold rfieldAddr
  exact rrel_bind fun f hf=>⟨hf,rrel_rv fun h=>⟨h.1,liveAt_agr ha h.2⟩⟩
 ·unfold rfield;split
  ·exact rrel_bind fun f hf=>⟨hf,rrel_rv id⟩
  ·exact rrel_none
 ·rename_i t a i
  have ha:=h1 a (by simp)
  unfold rindexAddr
  split
  ·exact rrel_bind fun e he=>⟨he,rrel_rv id⟩
  ·rename_i e _;rw[e] at ha
   exact rrel_bind fun e he=>⟨he,rrel_bind fun ob ho=>⟨ha _ rfl ob ho,rrel_rv id⟩⟩
  ·rename_i e _;rw[e] at ha
   exact rrel_bind fun e he=>⟨he,rrel_rv fun h=>⟨liveAt_agr ha h.1,h.2⟩⟩
  ·exact rrel_bind fun e he=>⟨he,rrel_rv id⟩
  ·exact rrel_none
 ·unfold rindex;split
  ·exact rrel_bind fun b hb=>⟨hb,rrel_rv id⟩
  ·exact rrel_bind fun e he=>⟨he,rrel_rv id⟩
  ·exact rrel_none
 ·unfold rextract;split
  ·exact rrel_bind fun v hv=>⟨hv,rrel_rv id⟩
  ·exact rrel_none
 ·rename_i x t
  have ha:=h1 x (by simp)
  unfold rlen
  split
  ·exact rrel_rv id
  ·exact rrel_rv id
  ·exact rrel_rv id
  ·rename_i e;rw[e] at ha
   exact rrel_bind fun ob ho=>⟨ha _ rfl ob ho,rrel_rv id⟩
  ·exact rrel_none
 ·unfold rmm;split <;> first | exact rrel_rv id | exact rrel_none
 ·unfold rmm;split <;> first | exact rrel_rv id | exact rrel_none
 ·exact rrel_none
end
mutual
theorem nameV_app:∀(h:HV) (H:Heap),∃B,(nameV h H).2=H++B
 | .ow ..,H=>⟨_,rfl⟩
 | .bx ..,H=>⟨_,rfl⟩
 | .om ..,H=>⟨_,rfl⟩
 | .ag cs,H=>by simpa only[nameV] using nameL_app cs H
 | .tu cs,H=>by simpa only[nameV] using nameL_app cs H
 | .fn _ cs,H=>by simpa only[nameV] using nameL_app cs H
 | .any,H=>⟨[],by simp[nameV]⟩
 | .v _,H=>⟨[],by simp[nameV]⟩
 | .sl _,H=>⟨[],by simp[nameV]⟩
 | .hd ..,H=>⟨[],by simp[nameV]⟩
 | .pt ..,H=>⟨[],by simp[nameV]⟩
 | .fp ..,H=>⟨[],by simp[nameV]⟩
 | .ic ..,H=>⟨[],by simp[nameV]⟩
 | .ob _,H=>⟨[],by simp[nameV]⟩
 | .mp _,H=>⟨[],by simp[nameV]⟩
 | .yl _,H=>⟨[],by simp[nameV]⟩
 | .gv _,H=>⟨[],by simp[nameV]⟩
theorem nameL_app:∀(l:List HV) (H:Heap),∃B,(nameL l H).2=H++B
 | [],H=>⟨[],by simp[nameL]⟩
 | h::t,H=>by
  obtain ⟨B,h1⟩:=nameV_app h H
  obtain ⟨B',h2⟩:=nameL_app t (nameV h H).2
  exact ⟨B++B',by simp only[nameL];rw[h2,h1,List.append_assoc]⟩
end
def indep:Op→Bool
 | .move _=>true
 | .assign _=>true
 | .pick ..=>true
 | .build ..=>true
 | .binOp ..=>true
 | .unOp ..=>true
 | .makeInterface ..=>true
 | .makeFunc ..=>true
 | .field ..=>true
 | .index ..=>true
 | .extract ..=>true
 | _=>false
theorem ropQ_indep {P:Program} {T:Nat→HV} {H H' : Heap} {op:Op} (h:indep op=true):RRel (ropQ P T H op) (ropQ P T H' op):=by
 cases op <;> simp only[indep,Bool.false_eq_true] at h
 case move=>exact rrel_rv id
 case assign=>exact rrel_rv id
 case pick=>unfold ropQ rpick;dsimp only;split <;> first | exact rrel_rv id | exact rrel_none
 case build=>unfold ropQ rbuild;exact rrel_bind fun a ha=>⟨ha,rrel_bind fun b hb=>⟨hb,rrel_bind fun c hc=>⟨hc,rrel_rv id⟩⟩⟩
 case binOp=>unfold ropQ rbin;exact rrel_bind fun v hv=>⟨hv,rrel_rv id⟩
 case unOp=>unfold ropQ run1;dsimp only;split <;> first | exact rrel_rv id | exact rrel_none
 case makeInterface=>unfold ropQ riface;exact rrel_bind fun y hy=>⟨hy,rrel_rv id⟩
 case makeFunc f first cs =>
  cases f <;> unfold ropQ <;> dsimp only <;> first | exact rrel_none | (split <;> first | exact rrel_rv id | exact rrel_none)
 case field=>unfold ropQ rfield;dsimp only;split <;> first | exact rrel_bind fun f hf=>⟨hf,rrel_rv id⟩ | exact rrel_none
 case index =>
  unfold ropQ rindex;dsimp only;split
  ·exact rrel_bind fun b hb=>⟨hb,rrel_rv id⟩
  ·exact rrel_bind fun e he=>⟨he,rrel_rv id⟩
  ·exact rrel_none
 case extract=>unfold ropQ rextract;dsimp only;split <;> first | exact rrel_bind fun v hv=>⟨hv,rrel_rv id⟩ | exact rrel_none
def SameTo (m:Nat) (H H' : Heap):Prop:=∀id:Nat,id<m→H'[id]?=H[id]?
theorem SameTo.app {m:Nat} {H:Heap} (B:Heap) (h:m≤H.length):SameTo m H (H++B):=fun id hid=>List.getElem?_append_left (by omega)
theorem SameTo.agr {m:Nat} {H H' : Heap} {x:HV} (h:SameTo m H H') (hn:nm m x=true):Agr H H' x:=fun id hid ob ho=>by
 have hlt:id<m:=by
  cases x <;> simp only[nmed] at hid
  ·subst hid;simpa [nm] using hn
  ·subst hid;simpa [nm] using hn
 exact getO_iff.2 ((h id hlt).trans (getO_iff.1 ho))
def CertQ (P:Program) (base:Nat) (T:Nat→HV) (H:Heap) (op:Op) (x:HV):Prop :=
 (∃(p:Prop) (H0:Heap),p∧ropQ P T H op=some (p,x,H0)∧(indep op=true∨∀y∈op.operands.toList,nm base (hev T y)=true))∨
 (∃f args tys fid caps R,op=.call { callee:=.value f,args:=args,argTypes:=tys }∧hev T f=.fn fid caps∧HFn P (fnF fid) (fnA fid .any (args.toList.map (hev T)) caps) R∧nmL 0 (fnA fid .any (args.toList.map (hev T)) caps)=true∧x=fzo R)∨
 (∃rv name args tys t y fid R,op=.call { callee:=.invoke rv name,args:=args,argTypes:=tys }∧hev T rv=.ic t y∧methodFn P t name=some fid∧HFn P fid (y::args.toList.map (hev T)) R∧nmL 0 (y::args.toList.map (hev T))=true∧x=fzo R)∨
 (∃t len parts p H0,op=.buildSlice t len parts∧p∧rbuildSliceF P T H t len parts.toList=some (p,x,H0))
def CertM (P:Program) (base:Nat) (T:Nat→HV) (H:Heap) (op:Op) (x:HV) (H' : Heap):Prop :=
 SameTo base H H'∧H.length≤H'.length∧(
  (∃f args tys fid caps n R args',op=.call { callee:=.value f,args:=args,argTypes:=tys }∧hev T f=.fn fid caps∧HFn P (fnF fid) args' R∧LendOk n H (fnA fid .any (args.toList.map (hev T)) caps) args' R∧nameV R H=(x,H'))∨
  (∃rv name args tys t y fid n R args',op=.call { callee:=.invoke rv name,args:=args,argTypes:=tys }∧hev T rv=.ic t y∧methodFn P t name=some fid∧HFn P fid args' R∧LendOk n H (y::args.toList.map (hev T)) args' R∧nameV R H=(x,H'))∨
  (∃p:Prop,p∧rop P T H op=some (p,x,H')))
def CertE (P:Program) (base:Nat) (h:Bool) (T:Nat→HV) (H:Heap) (op:Op) (x:HV) (H' : Heap):Prop :=
 if h=true then CertM P base T H op x H' else CertQ P base T H op x∧H'=H
def CertN (P:Program) (base:Nat) (h:Bool) (all:List Oper) (T:Nat→HV) (H:Heap) (o:Oper) (x:HV) (H' : Heap):Prop :=
 match o.guard with
 | none=>CertE P base h T H o.op x H'
 | some (j,b)=>∃t,dstAt all j=some t∧((∃c,T t=.v (.bool c)∧(c=b→CertE P base h T H o.op x H')∧(c=(!b)→x=.v undef∧H'=H))∨∃ts,T t=.v (.tuple ts)∧x=.v undef∧H'=H)
def bsO (hv:List Nat) (base:Nat×Nat) (j:Nat):Nat :=
 if hv.contains j=true then (if hv.contains (2000+j)=true then base.1 else if base.1<base.2 then base.2 else base.1)
 else if hv.contains (1000+j)=true then base.2 else base.1
theorem bsO_ge {hv:List Nat} {base:Nat×Nat} {j:Nat} (h:hv.contains j=true):base.1≤bsO hv base j:=by
 unfold bsO
 rw[if_pos h]
 split
 ·exact Nat.le_refl _
 ·split <;> omega
theorem bsO_ge2 {hv:List Nat} {base:Nat×Nat} {j:Nat} (h:hv.contains j=true) (h2:¬hv.contains (2000+j)=true):base.2≤bsO hv base j:=by
 unfold bsO
 rw[if_pos h,if_neg h2]
 split <;> omega
theorem SameTo.le {m m' : Nat} {H H' : Heap} (h:SameTo m H H') (hm:m'≤m):SameTo m' H H':=fun id hid=>h id (by omega)
def CertNL (P:Program) (base:Nat×Nat) (hv:List Nat) (all:List Oper):Nat→List Oper→(Nat→HV)→Heap→List HV→List Heap→Prop
 | _,[],_,_,xs,hs=>xs=[]∧hs=[]
 | j,o::l,T,H,xs,hs=>∃x H' xs' hs',xs=x::xs'∧hs=H'::hs'∧CertN P (bsO hv base j) (hv.contains j) all T H o x H'∧CertNL P base hv all (j+1) l (updO T o.dst x) H' xs' hs'
def heapAt (H0:Heap) (hs:List Heap) (j:Nat):Heap:=((H0::hs)[j]?).getD []
section
variable {P:Program} {all:List Oper} {base:Nat} {hv:List Nat}
theorem lend_calls {fid:Nat} {n:Nat} {H:Heap} {args args' : List HV} {R:HV} (h:HFn P fid args' R) (hL:LendOk n H args args' R):HCalls P fid H args (fun r H'=>r=R∧H'=H):=by
 rcases hL with ⟨rfl,hnz⟩ | ⟨rfl,hnm⟩
 ·exact HCalls.lend n h (fun r hr=>by rw[hr];exact hnz)
 ·exact HCalls.plain h hnm
theorem rbuildSliceF_congr {T T' : Nat→HV} {H H' : Heap} {t:TypeId} {len:Nat} {parts:List (Nat×Operand)} (h:∀p∈parts,hev T p.2=hev T' p.2) {p:Prop} {x:HV} {H0:Heap} (hr:rbuildSliceF P T H t len parts=some (p,x,H0)):rbuildSliceF P T' H' t len parts=some (p,x,H'):=by
 have e1:∀n (l:List (Nat×Operand)),(∀p∈l,hev T p.2=hev T' p.2)→PartsOk T n l=PartsOk T' n l:=by
  intro n l
  induction l with
  | nil=>intro _;rfl
  | cons p l ih =>
   intro hp
   simp only[PartsOk]
   rw[hp p (by simp),ih (fun q hq=>hp q (by simp[hq]))]
 have e2:parts.map (fun p=>fzoL (cellsH (hev T p.2)))=parts.map (fun p=>fzoL (cellsH (hev T' p.2))):=by
  apply List.map_congr_left
  intro p hq
  rw[h p hq]
 unfold rbuildSliceF at hr⊢
 cases he:elemTI P t 3 with
 | none=>rw[he] at hr;cases hr
 | some e =>
  rw[he] at hr
  simp only[bindO_some,rv] at hr⊢
  cases hr
  rw[e1 _ _ h,e2]
theorem CertQ_congr {T T' : Nat→HV} {H:Heap} {op:Op} {x:HV} (h:∀y∈op.operands.toList,hev T y=hev T' y) (hc:CertQ P base T H op x):CertQ P base T' H op x:=by
 rcases hc with ⟨p,H0,hp,hr,hi⟩ | ⟨f,args,tys,fid,caps,R,rfl,hf,h1,h2,h3⟩ | ⟨rv,name,args,tys,t,y,fid,R,rfl,hf,hm,h1,h2,h3⟩ | ⟨t,len,parts,p,H0,rfl,hp,hr⟩
 ·exact .inl ⟨p,H0,hp,by rw[←ropQ_congr h];exact hr,hi.imp id fun hi y hy=>by rw[←h y hy];exact hi y hy⟩
 ·have e1:=h f (by simp[Op.operands,Call.operands])
  have e2:args.toList.map (hev T)=args.toList.map (hev T'):=hevs_congr fun x hx=>h x (by simp[Op.operands,Call.operands];exact .inr (by simpa using hx))
  exact .inr (.inl ⟨f,args,tys,fid,caps,R,rfl,e1▸hf,e2▸h1,e2▸h2,h3⟩)
 ·have e1:=h rv (by simp[Op.operands,Call.operands])
  have e2:args.toList.map (hev T)=args.toList.map (hev T'):=hevs_congr fun x hx=>h x (by simp[Op.operands,Call.operands];exact .inr (by simpa using hx))
  exact .inr (.inr (.inl ⟨rv,name,args,tys,t,y,fid,R,rfl,e1▸hf,hm,e2▸h1,e2▸h2,h3⟩))
 ·have hp1:∀p∈parts.toList,hev T p.2=hev T' p.2:=fun p hp=>h p.2 (by simp[Op.operands];exact ⟨p.1,by simpa using hp⟩)
  exact .inr (.inr (.inr ⟨t,len,parts,p,H,rfl,hp,rbuildSliceF_congr hp1 hr⟩))
theorem CertQ_certO {T:Nat→HV} {H Hc:Heap} {op:Op} {x:HV} (hs:SameTo base H Hc) (hc:CertQ P base T H op x):CertO P T Hc op x:=by
 rcases hc with ⟨p,H0,hp,hr,hi⟩ | ⟨f,args,tys,fid,caps,R,rfl,hf,h1,h2,h3⟩ | ⟨rv,name,args,tys,t,y,fid,R,rfl,hf,hm,h1,h2,h3⟩ | ⟨t,len,parts,p,H0,rfl,hp,hr⟩
 ·have hR:RRel (ropQ P T H op) (ropQ P T Hc op):=by
   rcases hi with hi | hi
   ·exact ropQ_indep hi
   ·exact ropQ_agr fun y hy=>hs.agr (hi y hy)
  obtain ⟨p',H0',hp',hr'⟩:=hR p x H0 hp hr
  exact .inl ⟨p',H0',hp',hr'⟩
 ·exact .inr (.inl ⟨f,args,tys,fid,caps,0,R,_,rfl,hf,h1,.inr ⟨rfl,h2⟩,h3⟩)
 ·exact .inr (.inr (.inl ⟨rv,name,args,tys,t,y,fid,0,R,_,rfl,hf,hm,h1,.inr ⟨rfl,h2⟩,h3⟩))
 ·exact .inr (.inr (.inr ⟨t,len,parts,p,Hc,rfl,hp,rbuildSliceF_congr (fun _ _=>rfl) hr⟩))
theorem CertM_congr {T T' : Nat→HV} {H H' : Heap} {op:Op} {x:HV} (h:∀y∈op.operands.toList,hev T y=hev T' y) (hc:CertM P base T H op x H'):CertM P base T' H op x H':=by
 obtain ⟨k1,k2,hc⟩:=hc
 refine ⟨k1,k2,?_⟩
 rcases hc with ⟨f,args,tys,fid,caps,n,R,args',rfl,hf,h1,h2,h3⟩ | ⟨rv,name,args,tys,t,y,fid,n,R,args',rfl,hf,hm,h1,h2,h3⟩ | ⟨p,hp,hr⟩
 ·have e1:=h f (by simp[Op.operands,Call.operands])
  have e2:args.toList.map (hev T)=args.toList.map (hev T'):=hevs_congr fun x hx=>h x (by simp[Op.operands,Call.operands];exact .inr (by simpa using hx))
  exact .inl ⟨f,args,tys,fid,caps,n,R,args',rfl,e1▸hf,h1,e2▸h2,h3⟩
 ·have e1:=h rv (by simp[Op.operands,Call.operands])
  have e2:args.toList.map (hev T)=args.toList.map (hev T'):=hevs_congr fun x hx=>h x (by simp[Op.operands,Call.operands];exact .inr (by simpa using hx))
  exact .inr (.inl ⟨rv,name,args,tys,t,y,fid,n,R,args',rfl,e1▸hf,hm,h1,e2▸h2,h3⟩)
 ·exact .inr (.inr ⟨p,hp,by rw[←rop_congr h];exact hr⟩)
theorem CertE_congr {h0:Bool} {T T' : Nat→HV} {H H' : Heap} {op:Op} {x:HV} (h:∀y∈op.operands.toList,hev T y=hev T' y) (hc:CertE P base h0 T H op x H'):CertE P base h0 T' H op x H':=by
 cases h0 with
 | true=>exact CertM_congr h hc
 | false=>exact ⟨CertQ_congr h hc.1,hc.2⟩
theorem CertE_same {h0:Bool} {T:Nat→HV} {H H' : Heap} {op:Op} {x:HV} (hc:CertE P base h0 T H op x H'):SameTo base H H'∧H.length≤H'.length:=by
 unfold CertE at hc
 split at hc
 ·exact ⟨hc.1,hc.2.1⟩
 ·rw[hc.2];exact ⟨fun _ _=>rfl,Nat.le_refl _⟩
theorem CertN_congr {h0:Bool} {o:Oper} {T T' : Nat→HV} {H H' : Heap} {x:HV} (h:∀t∈seenT all o,T t=T' t) (hc:CertN P base h0 all T H o x H'):CertN P base h0 all T' H o x H':=by
 have hv:=seen_hev h
 unfold CertN at hc⊢
 split at hc
 ·exact CertE_congr hv hc
 ·rename_i j b hg
  obtain ⟨t,ht,hc⟩:=hc
  have e:T t=T' t:=h t (by unfold seenT;rw[hg];simp[ht])
  refine ⟨t,ht,?_⟩
  rw[←e]
  rcases hc with ⟨c,h1,h2,h3⟩ | hc
  ·exact .inl ⟨c,h1,fun hcb=>CertE_congr hv (h2 hcb),h3⟩
  ·exact .inr hc
theorem CertN_same {h0:Bool} {o:Oper} {T:Nat→HV} {H H' : Heap} {x:HV} (hc:CertN P base h0 all T H o x H'):SameTo base H H'∧H.length≤H'.length:=by
 unfold CertN at hc
 split at hc
 ·exact CertE_same hc
 ·rename_i j b hg
  obtain ⟨t,ht,⟨c,h1,h2,h3⟩ | ⟨ts,_,_,h⟩⟩:=hc
  ·by_cases hcb:c=b
   ·exact CertE_same (h2 hcb)
   ·have hc:c=(!b):=by cases c <;> cases b <;> simp_all
    rw[(h3 hc).2];exact ⟨fun _ _=>rfl,Nat.le_refl _⟩
  ·rw[h];exact ⟨fun _ _=>rfl,Nat.le_refl _⟩
theorem CertN_quiet {o:Oper} {T:Nat→HV} {H H' : Heap} {x:HV} (hc:CertN P base false all T H o x H'):H'=H:=by
 have hM:CertE P base false T H o.op x H'→H'=H:=fun h=>by
  unfold CertE at h
  simp only[Bool.false_eq_true,if_false] at h
  exact h.2
 unfold CertN at hc
 split at hc
 ·exact hM hc
 ·obtain ⟨t,ht,⟨c,h1,h2,h3⟩ | ⟨ts,_,_,h⟩⟩:=hc
  ·rename_i j b _
   by_cases hcb:c=b
   ·exact hM (h2 hcb)
   ·have hc:c=(!b):=by cases c <;> cases b <;> simp_all
    exact (h3 hc).2
  ·exact h
theorem heapAt_zero {H0:Heap} {hs:List Heap}:heapAt H0 hs 0=H0:=rfl
theorem heapAt_succ {H0 H1:Heap} {hs:List Heap} {j:Nat}:heapAt H0 (H1::hs) (j+1)=heapAt H1 hs j:=rfl
theorem CertNL_at {base:Nat×Nat}:∀(l:List Oper) (xs:List HV) (hs:List Heap) (i j:Nat) (T:Nat→HV) (H0:Heap) (o:Oper),CertNL P base hv all i l T H0 xs hs→l[j]?=some o→
  ∃x,xs[j]?=some x∧CertN P (bsO hv base (i+j)) (hv.contains (i+j)) all (runM (fun k=>decide (k<i+j)) i l xs T) (heapAt H0 hs j) o x (heapAt H0 hs (j+1))
 | [],xs,hs,i,j,T,H0,o,_,h=>by simp at h
 | o0::l,xs,hs,i,0,T,H0,o,hc,h=>by
  obtain ⟨x,H',xs',hs',rfl,rfl,h1,_⟩:=hc
  simp only[List.getElem?_cons_zero,Option.some.injEq] at h
  subst h
  refine ⟨x,rfl,?_⟩
  rw[heapAt_zero,heapAt_succ,heapAt_zero]
  refine CertN_congr (fun t _=>?_) h1
  rw[runM_no]
  intro j' _
  simp
 | o0::l,xs,hs,i,j+1,T,H0,o,hc,h=>by
  obtain ⟨x,H',xs',hs',rfl,rfl,_,h2⟩:=hc
  simp only[List.getElem?_cons_succ] at h
  obtain ⟨y,h3,h4⟩:=CertNL_at l xs' hs' (i+1) j _ H' o h2 h
  refine ⟨y,by simpa using h3,?_⟩
  rw[heapAt_succ,heapAt_succ]
  rw[show i+1+j=i+(j+1) by omega] at h4
  refine CertN_congr (fun t _=>?_) h4
  simp only[runM]
  rw[if_pos (by simp)]
theorem heapAt_mono {base:Nat×Nat} {l:List Oper} {xs:List HV} {hs:List Heap} {T:Nat→HV} {H0:Heap} (hc:CertNL P base hv all 0 l T H0 xs hs):∀(b a:Nat),a≤b→b≤l.length→SameTo base.1 (heapAt H0 hs a) (heapAt H0 hs b)∧(heapAt H0 hs a).length≤(heapAt H0 hs b).length:=by
 intro b
 induction b with
 | zero=>intro a ha _;obtain rfl:a=0:=(by omega);exact ⟨fun _ _=>rfl,Nat.le_refl _⟩
 | succ b ih =>
  intro a ha hb
  rcases Nat.lt_or_ge a (b+1) with h | h
  ·obtain ⟨h1,h2⟩:=ih a (by omega) (by omega)
   obtain ⟨x,_,hN⟩:=CertNL_at l xs hs 0 b T H0 _ hc (List.getElem?_eq_getElem (show b<l.length by omega))
   have h34:SameTo base.1 (heapAt H0 hs b) (heapAt H0 hs (b+1))∧(heapAt H0 hs b).length≤(heapAt H0 hs (b+1)).length:=by
    rw[Nat.zero_add] at hN
    cases hvb:hv.contains b with
    | true =>
     exact ⟨(CertN_same hN).1.le (bsO_ge hvb),(CertN_same hN).2⟩
    | false =>
     rw[hvb] at hN
     rw[CertN_quiet hN]
     exact ⟨fun _ _=>rfl,Nat.le_refl _⟩
   obtain ⟨h3,h4⟩:=h34
   exact ⟨fun id hid=>(h3 id hid).trans (h1 id hid),by omega⟩
  ·obtain rfl:a=b+1:=by omega
   exact ⟨fun _ _=>rfl,Nat.le_refl _⟩
theorem heapAt_mono2 {base:Nat×Nat} {l:List Oper} {xs:List HV} {hs:List Heap} {T:Nat→HV} {H0:Heap} (hc:CertNL P base hv all 0 l T H0 xs hs):∀(b a:Nat),a≤b→b≤l.length→(∀(j:Nat),a≤j→j<b→hv.contains j=true→hv.contains (2000+j)=true→False)→SameTo base.2 (heapAt H0 hs a) (heapAt H0 hs b)∧(heapAt H0 hs a).length≤(heapAt H0 hs b).length:=by
 intro b
 induction b with
 | zero=>intro a ha _ _;obtain rfl:a=0:=(by omega);exact ⟨fun _ _=>rfl,Nat.le_refl _⟩
 | succ b ih =>
  intro a ha hb hq
  rcases Nat.lt_or_ge a (b+1) with h | h
  ·obtain ⟨h1,h2⟩:=ih a (by omega) (by omega) (fun j h1 h2=>hq j h1 (by omega))
   obtain ⟨x,_,hN⟩:=CertNL_at l xs hs 0 b T H0 _ hc (List.getElem?_eq_getElem (show b<l.length by omega))
   have h34:SameTo base.2 (heapAt H0 hs b) (heapAt H0 hs (b+1))∧(heapAt H0 hs b).length≤(heapAt H0 hs (b+1)).length:=by
    rw[Nat.zero_add] at hN
    cases hvb:hv.contains b with
    | true =>
     exact ⟨(CertN_same hN).1.le (bsO_ge2 hvb (fun hw=>hq b (by omega) (by omega) hvb hw)),(CertN_same hN).2⟩
    | false =>
     rw[hvb] at hN
     rw[CertN_quiet hN]
     exact ⟨fun _ _=>rfl,Nat.le_refl _⟩
   obtain ⟨h3,h4⟩:=h34
   exact ⟨fun id hid=>(h3 id hid).trans (h1 id hid),by omega⟩
  ·obtain rfl:a=b+1:=by omega
   exact ⟨fun _ _=>rfl,Nat.le_refl _⟩
theorem heapAt_same {base:Nat×Nat} {l:List Oper} {xs:List HV} {hs:List Heap} {T:Nat→HV} {H0:Heap} (hc:CertNL P base hv all 0 l T H0 xs hs):∀(b a:Nat),a≤b→b≤l.length→(∀(j:Nat),a≤j→j<b→hv.contains j=false)→heapAt H0 hs b=heapAt H0 hs a:=by
 intro b
 induction b with
 | zero=>intro a ha _ _;obtain rfl:a=0:=(by omega);rfl
 | succ b ih =>
  intro a ha hb hq
  rcases Nat.lt_or_ge a (b+1) with h | h
  ·have h1:=ih a (by omega) (by omega) fun j h1 h2=>hq j h1 (by omega)
   have ho:l[b]?=some l[b]:=List.getElem?_eq_getElem (show b<l.length by omega)
   obtain ⟨x,_,hN⟩:=CertNL_at l xs hs 0 b T H0 _ hc ho
   rw[Nat.zero_add,hq b (by omega) (by omega)] at hN
   rw[CertN_quiet hN,h1]
  ·obtain rfl:a=b+1:=by omega
   rfl
end
section
variable {P:Program} {N L B base:Nat} {Z:Nat→Prop} {G:List (Option OG)} {FP:Nat→List Nat} {ds:List Nat} {T:Nat→HV} {H H' : Heap} {a:Act} {w:World} {ro:Option Nat} {mm:Nat}
theorem certM_heavy {o:Oper} {x:HV} (hok:operOk N o=true) (hn:noDefer o=true) (hc:CertM P base T H o.op x H'):HO P N L o T H (fun T' H''=>T'=updO T o.dst x∧H''=H'):=by
 have hnd:=noDefer_spec hn
 have hdst:∀i,o.dst=some i→i<N:=fun i hi=>by
  have:=hok;simp only[operOk,dstOk,hi,Bool.and_eq_true,decide_eq_true_eq] at this;exact this.1
 rcases hc.2.2 with ⟨f,args,tys,fid,caps,n,R,args',hop,hf,h1,h2,h3⟩ | ⟨rv,name,args,tys,t,y,fid,n,R,args',hop,hf,hm,h1,h2,h3⟩ | ⟨p,hp,hr⟩
 ·exact HO_call hop hok hf (lend_calls h1 h2) (fun r H2 hq _=>by
   obtain ⟨rfl,rfl⟩:=hq
   rw[h3];exact ⟨rfl,rfl⟩)
 ·exact HO_invoke hop hok hf hm (lend_calls h1 h2) (fun r H2 hq _=>by
   obtain ⟨rfl,rfl⟩:=hq
   rw[h3];exact ⟨rfl,rfl⟩)
 ·exact HO_of_HR hnd hdst (HR_rop hok (by rw[hr];exact ⟨hp,rfl,rfl⟩))
def NextM (P:Program) (N L B:Nat) (ds:List Nat) (G:List (Option OG)) (Z:Nat→Prop) (FP:Nat→List Nat) (w:World) (T:Nat→HV) (H:Heap) (K:Act→World→Prop):Prop :=
 ∀Z' G' FP' a' w',St N B Z' G' FP' ds T H a' w'→GLt L G G'→Evo Z FP w Z' FP' w'→K a' w'
theorem certN_run {all:List Oper} {j:Nat} {o:Oper} {x:HV} {K:Act→World→Prop} {Q' : Exit→Act→World→Prop} {Hc Hn:Heap} {h0:Bool} (hall:all.all (dstOk N)=true) (hj:all[j]?=some o) (hok:operOk N o=true) (hn:noDefer o=true) (hc:CertN P base h0 all T H o x H')
  (hs:St N B Z G FP ds T Hc a w) (hB:Bo ro B FP w) (hL:L≤G.length)
  (hq:h0=false→Hn=Hc∧SameTo base H Hc) (hh:h0=true→Hc=H∧Hn=H')
  (hK:NextM P N L B ds G Z FP w (updO T o.dst x) Hn K):wpOpIn (Wd ro) mm P all.toArray Q' j K a w:=by
 have hdst:∀i,o.dst=some i→i<N:=fun i hi=>by
  have:=hok;simp only[operOk,dstOk,hi,Bool.and_eq_true,decide_eq_true_eq] at this;exact this.1
 have run:CertE P base h0 T H o.op x H'→o.wpIn (Wd ro) mm P a w K Q':=fun hM=>by
  cases h0 with
  | true =>
   obtain ⟨rfl,rfl⟩:=hh rfl
   unfold CertE at hM
   rw[if_pos rfl] at hM
   refine certM_heavy (L:=L) hok hn hM ro mm B Z G FP ds a w hB hL hs K Q' ?_
   rintro a' w' ⟨T2,H2,Z',G',FP',⟨rfl,rfl⟩,hs',hG',hE'⟩
   exact hK Z' G' FP' a' w' hs' hG' hE'
  | false =>
   obtain ⟨rfl,hR⟩:=hq rfl
   unfold CertE at hM
   simp only[Bool.false_eq_true,if_false] at hM
   exact certO_run hok hn (CertQ_certO hR hM.1) hs (fun Z' G' FP' a' w' h1 h2 h3=>hK Z' G' FP' a' w' h1 (GLt.of hL h2) h3)
 have noRun:x=.v undef→H'=H→K (a.put o.dst undef) w:=fun hx hHH=>by
  have e:Hn=Hc:=by
   cases h0 with
   | true=>obtain ⟨rfl,rfl⟩:=hh rfl;exact hHH
   | false=>exact (hq rfl).1
  subst hx
  rw[e] at hK
  exact hK _ _ _ _ _ (hs.drop o.dst hdst) (GLt.refl hL) (Evo.refl _ _ _)
 unfold wpOpIn
 rw[List.getElem?_toArray,hj]
 dsimp only
 unfold CertN at hc
 split at hc
 ·rename_i hg
  simp only[Region.wanted,hg,if_true]
  exact run hc
 ·rename_i k b hg
  obtain ⟨t,ht,hc⟩:=hc
  rcases hc with ⟨c,h1,h2,h3⟩ | ⟨ts,h1,h4,h5⟩
  ·have hy:yielded all.toArray a.tmps k=some c:=hs.yields hall (by rw[dstAt_gval ht];exact h1)
   have hw:Region.wanted o (yielded all.toArray a.tmps)=(c == b):=by
    simp only[Region.wanted,hg,hy]
    cases c <;> cases b <;> rfl
   rw[hw]
   by_cases hcb:c=b
   ·rw[if_pos (by simp[hcb])]
    exact run (h2 hcb)
   ·have hc:c=(!b):=by cases c <;> cases b <;> simp_all
    rw[if_neg (by simp[hcb])]
    exact ⟨fun _ _=>trivial,noRun (h3 hc).1 (h3 hc).2⟩
  ·have hy:yielded all.toArray a.tmps k=none:=hs.yieldsNo hall (by rw[dstAt_gval ht];exact h1)
   have hw:Region.wanted o (yielded all.toArray a.tmps)=false:=by
    simp only[Region.wanted,hg,hy]
    cases b <;> rfl
   rw[hw,if_neg (by simp)]
   exact ⟨fun _ _=>trivial,noRun h4 h5⟩
end
end Go.Proofs.YtmapdjdnnhlpiaaGreatDoor
