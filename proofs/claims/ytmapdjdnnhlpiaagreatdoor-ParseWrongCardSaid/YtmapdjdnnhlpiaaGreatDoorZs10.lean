/- Parts of the proof: Md, Nd, HiDc, HiDd, HiDe, HiDf, HiDg, HiDh. -/
import Derived.Test.YtmapdjdnnhlpiaaGreatDoorZs09
import Derived.Test.YtmapdjdnnhlpiaaGreatDoorZs06
set_option linter.unusedSectionVars false
set_option linter.unusedVariables false
set_option linter.unusedSimpArgs false
namespace Go.Proofs.YtmapdjdnnhlpiaaGreatDoor
open Go.RowKit
set_option maxRecDepth 8000
def LT.words (l:LT):List (List UInt8):=lineW l.op l.rg l.loc l.lab l.n
end Go.Proofs.YtmapdjdnnhlpiaaGreatDoor
namespace Go.Proofs.YtmapdjdnnhlpiaaGreatDoor
open Go.RowKit
set_option maxRecDepth 8000
theorem cut_at {s:List UInt8} {c:UInt8} {i:Nat} (h:s[i]?=some c) (hn:∀j,j<i→s[j]?≠some c):Lib.cut s [c]=(s.take i,s.drop (i+1),true):=by
 rcases cut1 c s with ⟨p,r,rfl,hp,hc⟩ | ⟨hno,_⟩
 ·have hl:p.length=i:=by
   rcases Nat.lt_trichotomy p.length i with h' | h' | h'
   ·exact absurd (by simp) (hn p.length h')
   ·exact h'
   ·rw[List.getElem?_append_left h'] at h
    exact absurd (List.mem_of_getElem? h) hp
  subst hl
  rw[hc];simp
 ·exact absurd (List.mem_of_getElem? h) hno
end Go.Proofs.YtmapdjdnnhlpiaaGreatDoor
namespace Go.Proofs.YtmapdjdnnhlpiaaGreatDoor
open Go.RowKit
set_option maxRecDepth 8000
theorem let_head {b:UInt8} (h:letB b=true):97≤b.toNat∧b.toNat≤122:=by
 simpa [letB] using h
theorem regB_head {s:List UInt8} (h:0≤regB s):∃b r,s=b::r∧97≤b.toNat∧b.toNat≤122:=by
 unfold regB at h
 split at h
 ·rename_i e;subst e;exact ⟨_,_,rfl,by decide,by decide⟩
 ·split at h
  ·rename_i e;subst e;exact ⟨_,_,rfl,by decide,by decide⟩
  ·split at h
   ·rename_i e;subst e;exact ⟨_,_,rfl,by decide,by decide⟩
   ·split at h
    ·rename_i e;subst e;exact ⟨_,_,rfl,by decide,by decide⟩
    ·omega
theorem nameB_hd {s:List UInt8} (h:nameB s=true):∃b r,s=b::r∧97≤b.toNat∧b.toNat≤122:=by
 cases s with
 | nil=>simp[nameB,headB] at h
 | cons b r =>
  refine ⟨b,r,rfl,?_⟩
  simp only[nameB,headB,Bool.and_eq_true] at h
  exact let_head h.1.1.1.1
theorem isDig_iff {b:UInt8}:isDig b=true↔48≤b.toNat∧b.toNat≤57:=by simp[isDig]
theorem numB_high {b:UInt8} {r:List UInt8} (h:58≤b.toNat):numB (b::r)=(0,false):=by
 have h45:b≠45:=by rintro rfl;revert h;decide
 rw[numB_pos (by simp only[List.head?_cons,ne_eq,Option.some.injEq];exact h45),if_neg]
 rintro ⟨hc,-⟩
 have hd:=(canonB_digs hc).1
 simp only[List.all_cons,Bool.and_eq_true] at hd
 have:=isDig_iff.mp hd.1
 omega
theorem insB_at (l:List UInt8):insB (atB l)=l:=by
 have h1:(atB l).getLast?=some 93:=by
  show ([91]++l++[93]:List UInt8).getLast?=some 93
  rw[List.getLast?_append];rfl
 have h2:(atB l).length=l.length+2:=by simp[atB]
 have h3:(atB l).head?=some 91:=rfl
 unfold insB
 rw[if_pos ⟨by omega,h3,h1⟩,h2]
 show ((l++[93]):List UInt8).take (l.length+2-2)=l
 rw[Nat.add_sub_cancel,List.take_left]
theorem insB_low {b:UInt8} {r:List UInt8} (h:b≠91):insB (b::r)=[]:=by
 unfold insB
 rw[if_neg]
 rintro ⟨_,h1,_⟩
 exact h (by simpa using h1)
theorem sufB_colon (l:List UInt8):sufB (l++[58]) [58]=true:=by
 rw[sufB_one,List.getLast?_append];rfl
inductive Right:LT→Prop
 | imm (rg n):0≤regB rg→Right ⟨1,rg,[],[],n⟩
 | load (rg loc):0≤regB rg→nameB loc=true→Right ⟨2,rg,loc,[],0⟩
 | store (rg loc):0≤regB rg→nameB loc=true→Right ⟨3,rg,loc,[],0⟩
 | put (loc n):nameB loc=true→Right ⟨4,[],loc,[],n⟩
 | xchg (rg loc):0≤regB rg→nameB loc=true→Right ⟨5,rg,loc,[],0⟩
 | fence:Right ⟨6,[],[],[],0⟩
 | cmp (rg n):0≤regB rg→Right ⟨7,rg,[],[],n⟩
 | jmp (lab):nameB lab=true→Right ⟨8,[],[],lab,0⟩
 | je (lab):nameB lab=true→Right ⟨9,[],[],lab,0⟩
 | jne (lab):nameB lab=true→Right ⟨10,[],[],lab,0⟩
 | label (lab):nameB lab=true→Right ⟨11,[],[],lab,0⟩
theorem reg_nil:(decide (0≤regB []))=false:=by decide
theorem name_nil:nameB []=false:=by decide
theorem right_iff (l:LT):l.right=true↔Right l:=by
 constructor
 ·intro h
  obtain ⟨op,rg,loc,lab,n⟩:=l
  have ho:rightB op rg loc lab n=true:=h
  rcases ops_all (rightB_op ho) with h' | h' | h' | h' | h' | h' | h' | h' | h' | h' | h' <;> subst h' <;>
   simp only[rightB,rb,hasReg,hasLoc,hasLab,hasN,decide_eq_true_eq,Int.reduceEq,Int.reduceLE,decide_false,decide_true,Bool.or_false,Bool.or_true,Bool.false_or,Bool.true_or,Bool.not_false,Bool.not_true,Bool.false_and,Bool.true_and,Bool.and_true,Bool.and_eq_true] at ho
  ·obtain ⟨⟨⟨⟨h1,-⟩,h2⟩,-⟩,h3⟩:=ho;subst h2;subst h3;exact .imm _ _ h1
  ·obtain ⟨⟨⟨⟨h1,h2⟩,-⟩,h3⟩,h4⟩:=ho;subst h3;subst h4;exact .load _ _ h1 h2
  ·obtain ⟨⟨⟨⟨h1,h2⟩,-⟩,h3⟩,h4⟩:=ho;subst h3;subst h4;exact .store _ _ h1 h2
  ·obtain ⟨⟨⟨⟨-,h1⟩,h2⟩,-⟩,h3⟩:=ho;subst h1;subst h3;exact .put _ _ h2
  ·obtain ⟨⟨⟨⟨h1,h2⟩,-⟩,h3⟩,h4⟩:=ho;subst h3;subst h4;exact .xchg _ _ h1 h2
  ·obtain ⟨⟨⟨⟨⟨⟨-,h1⟩,-⟩,h2⟩,-⟩,h3⟩,h4⟩:=ho;subst h1;subst h2;subst h3;subst h4;exact .fence
  ·obtain ⟨⟨⟨⟨h1,-⟩,h2⟩,-⟩,h3⟩:=ho;subst h2;subst h3;exact .cmp _ _ h1
  ·obtain ⟨⟨⟨⟨⟨-,h1⟩,-⟩,h2⟩,h3⟩,h4⟩:=ho;subst h1;subst h2;subst h4;exact .jmp _ h3
  ·obtain ⟨⟨⟨⟨⟨-,h1⟩,-⟩,h2⟩,h3⟩,h4⟩:=ho;subst h1;subst h2;subst h4;exact .je _ h3
  ·obtain ⟨⟨⟨⟨⟨-,h1⟩,-⟩,h2⟩,h3⟩,h4⟩:=ho;subst h1;subst h2;subst h4;exact .jne _ h3
  ·obtain ⟨⟨⟨⟨⟨-,h1⟩,-⟩,h2⟩,h3⟩,h4⟩:=ho;subst h1;subst h2;subst h4;exact .label _ h3
 ·intro h
  cases h <;> simp_all [LT.right,rightB,rb,hasReg,hasLoc,hasLab,hasN,reg_nil,name_nil]
theorem guess_words {l:LT} (h:Right l) (hn:inI l.n):guessB (wordsO l.op l.rg l.loc l.lab l.n)=l:=by
 cases h with
 | imm rg n h1 =>
  obtain ⟨b,r,rfl,hb1,hb2⟩:=regB_head h1
  show moveB (b::r) (textB n)=_
  unfold moveB
  rw[insB_low (by rintro rfl;revert hb1;decide),numB_text hn];rfl
 | load rg loc h1 h2 =>
  obtain ⟨b,r,rfl,hb1,hb2⟩:=regB_head h1
  show moveB (b::r) (atB loc)=_
  unfold moveB
  rw[insB_low (by rintro rfl;revert hb1;decide),insB_at,show atB loc=91::(loc++[93]) from rfl,numB_high (by decide)];rfl
 | store rg loc h1 h2 =>
  obtain ⟨b,r,rfl,hb1,hb2⟩:=regB_head h1
  obtain ⟨c,r',rfl,hc1,hc2⟩:=nameB_hd h2
  show moveB (atB (c::r')) (b::r)=_
  unfold moveB
  rw[insB_at,numB_high (by omega)];rfl
 | put loc n h2 =>
  obtain ⟨c,r',rfl,hc1,hc2⟩:=nameB_hd h2
  show moveB (atB (c::r')) (textB n)=_
  unfold moveB
  rw[insB_at,numB_text hn];rfl
 | xchg rg loc h1 h2 =>
  show (⟨5,rg,insB (atB loc),[],0⟩:LT)=_
  rw[insB_at]
 | fence=>decide
 | cmp rg n h1 =>
  show (if (numB (textB n)).2=true then (⟨7,rg,[],[],(numB (textB n)).1⟩:LT) else zeroL)=_
  rw[numB_text hn];rfl
 | jmp lab h=>rfl
 | je lab h=>rfl
 | jne lab h=>rfl
 | label lab h =>
  show guessB [lab++[58]]=_
  simp only[guessB,sufB_colon,if_true,List.length_append,List.length_singleton,Nat.add_sub_cancel,List.take_left']
theorem words_ne (l:LT):wordsO l.op l.rg l.loc l.lab l.n≠[]:=by
 unfold wordsO
 repeat' split
 all_goals simp
theorem get_words {l:LT} (h:l.right=true) (hn:inI l.n):getB l.words=(l,true):=by
 have hr:=(right_iff l).mp h
 have hw:l.words=wordsO l.op l.rg l.loc l.lab l.n:=if_pos h
 unfold getB
 rw[hw,guess_words hr hn,if_pos ⟨words_ne l,h⟩]
end Go.Proofs.YtmapdjdnnhlpiaaGreatDoor
namespace Go.Proofs.YtmapdjdnnhlpiaaGreatDoor
open Go.RowKit
set_option maxRecDepth 8000
theorem cut_sep {c:UInt8} {p:List UInt8} (r:List UInt8) (h:c∉p):Lib.cut (p++c::r) [c]=(p,r,true):=by
 have h1:(p++c::r)[p.length]?=some c:=by simp
 rw[cut_at h1 (by
  intro j hj hc
  rw[List.getElem?_append_left hj] at hc
  exact h (List.mem_of_getElem? hc))]
 simp
theorem cut_no {c:UInt8} {s:List UInt8} (h:c∉s):Lib.cut s [c]=(s,[],false):=by
 rcases cut1 c s with ⟨p,r,rfl,_,_⟩ | ⟨_,h2⟩
 ·exact absurd (by simp) h
 ·exact h2
theorem nameB_ld {s:List UInt8} (h:nameB s=true):s.all ldB=true:=by
 cases s with
 | nil=>rfl
 | cons b r =>
  simp only[nameB,headB,Bool.and_eq_true] at h
  simp only[List.all_cons,Bool.and_eq_true]
  exact ⟨by simp[ldB,h.1.1.1.1],h.1.1.1.2⟩
theorem regB_ld {s:List UInt8} (h:0≤regB s):s.all ldB=true:=by
 unfold regB at h
 split at h
 ·rename_i e;subst e;decide
 ·split at h
  ·rename_i e;subst e;decide
  ·split at h
   ·rename_i e;subst e;decide
   ·split at h
    ·rename_i e;subst e;decide
    ·omega
theorem asked_nm {th:Int} {nm:List UInt8} (h:askedB th nm=true):nm≠[]∧nm.all ldB=true∧(th = -1∨th=0∨th=1∨th=2):=by
 unfold askedB at h
 split at h
 ·rename_i e
  obtain ⟨b,r,rfl,-⟩:=nameB_hd h
  exact ⟨by simp,nameB_ld h,.inl e⟩
 ·simp only[Bool.and_eq_true,decide_eq_true_eq] at h
  obtain ⟨b,r,rfl,-⟩:=regB_head h.2
  exact ⟨by simp,regB_ld h.2,by omega⟩
theorem ld_no {nm:List UInt8} (h:nm.all ldB=true):(58:UInt8)∉nm∧(61:UInt8)∉nm:=by
 constructor <;> intro hm <;> exact absurd (List.all_eq_true.mp h _ hm) (by decide)
def leftA (th:Int) (nm:List UInt8):List UInt8:=if 0≤th then textB th++[58]++nm else nm
theorem textB_small {th:Int} (h:th=0∨th=1∨th=2):textB th=[dig th.natAbs]∧(dig th.natAbs).toNat=48+th.natAbs∧isDig (dig th.natAbs)=true:=by
 rcases h with rfl | rfl | rfl
 ·exact ⟨by unfold textB;rw[if_neg (by decide)];exact dB_lt (by decide),by decide,by decide⟩
 ·exact ⟨by unfold textB;rw[if_neg (by decide)];exact dB_lt (by decide),by decide,by decide⟩
 ·exact ⟨by unfold textB;rw[if_neg (by decide)];exact dB_lt (by decide),by decide,by decide⟩
theorem wordA_left {th:Int} {nm:List UInt8} (n:Int) (h:askedB th nm=true):wordA th nm n=leftA th nm++61::textB n:=by
 unfold wordA leftA
 rw[if_pos h]
 split <;> simp
theorem left_no {th:Int} {nm:List UInt8} (h:askedB th nm=true):(61:UInt8)∉leftA th nm:=by
 obtain ⟨_,h2,h3⟩:=asked_nm h
 unfold leftA
 split
 ·obtain ⟨t1,t2,t3⟩:=textB_small (th:=th) (by omega)
  rw[t1]
  simp only[List.mem_append,List.mem_singleton,not_or]
  refine ⟨⟨?_,by decide⟩,(ld_no h2).2⟩
  intro e;rw[←e] at t3;exact absurd t3 (by decide)
 ·exact (ld_no h2).2
theorem word_cut {th:Int} {nm:List UInt8} (n:Int) (h:askedB th nm=true):Lib.cut (wordA th nm n) [61]=(leftA th nm,textB n,true):=by
 rw[wordA_left n h,cut_sep _ (left_no h)]
theorem headA_left {th:Int} {nm:List UInt8} (h:askedB th nm=true):headA (leftA th nm)=some (th,nm):=by
 obtain ⟨_,h2,h3⟩:=asked_nm h
 unfold leftA headA
 by_cases hth:0≤th
 ·obtain ⟨t1,t2,t3⟩:=textB_small (th:=th) (by omega)
  have hi:inI th:=by unfold inI;omega
  have hno:(58:UInt8)∉textB th:=by rw[t1,List.mem_singleton];intro e;rw[←e] at t3;exact absurd t3 (by decide)
  have hc:Lib.cut (textB th++[58]++nm) [58]=(textB th,nm,true):=by
   rw[List.append_assoc];exact cut_sep nm hno
  rw[if_pos hth,hc]
  simp only[if_true]
  rw[numB_text hi,if_pos ⟨rfl,hth⟩]
 ·rw[if_neg hth,cut_no (ld_no h2).1]
  have:th = -1:=by omega
  rw[this];rfl
def AT.asked (a:AT):Bool:=askedB a.th a.nm
def AT.word (a:AT):List UInt8:=wordA a.th a.nm a.n
theorem atom_word {a:AT} (h:a.asked=true) (hn:inI a.n):atomB a.word=(a,true):=by
 unfold atomB AT.word
 rw[word_cut a.n h,headA_left h]
 simp only[]
 rw[numB_text hn,if_pos ⟨rfl,h⟩]
end Go.Proofs.YtmapdjdnnhlpiaaGreatDoor
namespace Go.Proofs.YtmapdjdnnhlpiaaGreatDoor
open Go.RowKit
set_option maxRecDepth 8000
def bigL (rg loc lab:List UInt8):Bool:=decide (1000<rg.length) || decide (1000<loc.length) || decide (1000<lab.length)
theorem int_gt (n m:Nat):((m:Int)<(n:Int))=(m<n):=by simp only[eq_iff_iff];omega
theorem greatLine (op:Int) (rg loc lab:List UInt8) (n:Int):HFn Tryz.prog 29 [lineV op rg loc lab n] (.v (.bool (bigL rg loc lab))):=by
 have e:∀s:List UInt8,((1000:Int)<(s.length:Int))=(1000<s.length):=fun s=>int_gt s.length 1000
 unfold bigL
 by_cases h1:1000<rg.length <;> by_cases h2:1000<loc.length <;> by_cases h3:1000<lab.length <;>
 ·refine HCalls_body (fn:=Tryz.f29) 19 [2] (by kernel_rfl) rfl (by kernel_rfl) (HW.run 400 (by kernel_rfl) ?_)
  simp (config:={ decide:=true }) only[go_sem,Int.reduceToNat,Nat.reduceAdd,Nat.reduceSub,Nat.reduceMul,Nat.reduceBEq,reduceIte,reduceCtorEq,e,h1,h2,h3]
theorem small_l {rg loc lab:List UInt8} (h:bigL rg loc lab=false):rg.length≤1000∧loc.length≤1000∧lab.length≤1000:=by
 unfold bigL at h
 simp only[Bool.or_eq_false_iff,decide_eq_false_iff_not] at h
 omega
end Go.Proofs.YtmapdjdnnhlpiaaGreatDoor
namespace Go.Proofs.YtmapdjdnnhlpiaaGreatDoor
open Go.RowKit
set_option maxRecDepth 8000
theorem asked_inI {a:AT} (h:a.asked=true):inI a.th:=by
 obtain ⟨_,_,h3⟩:=asked_nm h
 unfold inI;omega
theorem leftA_len {th:Int} {nm:List UInt8} (h:askedB th nm=true):(leftA th nm).length≤nm.length+2:=by
 obtain ⟨_,_,h3⟩:=asked_nm h
 unfold leftA
 split
 ·obtain ⟨t1,_⟩:=textB_small (th:=th) (by omega)
  rw[t1];simp
 ·omega
theorem wordA_len {th:Int} {nm:List UInt8} {n:Int} (hn:inI n):(wordA th nm n).length≤nm.length+23:=by
 cases h:askedB th nm with
 | true =>
  rw[wordA_left n h,List.length_append,List.length_cons]
  have:=leftA_len h
  have:=textB_length hn
  omega
 | false =>
  unfold wordA
  rw[h,if_neg (by simp)];simp
theorem nameB_len8 {s:List UInt8} (h:nameB s=true):s.length≤8:=by
 simp only[nameB,Bool.and_eq_true,decide_eq_true_eq] at h
 exact h.1.1.2
theorem asked_len {a:AT} (h:a.asked=true):a.nm.length≤8:=by
 have h' : askedB a.th a.nm=true:=h
 unfold askedB at h'
 split at h'
 ·exact nameB_len8 h'
 ·simp only[Bool.and_eq_true,decide_eq_true_eq] at h'
  have:=h'.2
  unfold regB at this
  split at this
  ·rename_i e;rw[e];decide
  ·split at this
   ·rename_i e;rw[e];decide
   ·split at this
    ·rename_i e;rw[e];decide
    ·split at this
     ·rename_i e;rw[e];decide
     ·omega
end Go.Proofs.YtmapdjdnnhlpiaaGreatDoor
namespace Go.Proofs.YtmapdjdnnhlpiaaGreatDoor
open Go.RowKit
set_option maxRecDepth 8000
abbrev wrongH (t i e:Int):HV:=.ic 80 (.ag [.v (.int .i64 t),.v (.int .i64 i),.v (.int .i64 e)])
def wrO:Option (Int×Int×Int)→HV
 | none=>.v .nilIface
 | some (t,i,e)=>wrongH t i e
abbrev fileO (f:Fl):HObj:=⟨27,5,[[.v (str f.name),.sl (cls f.init),.sl (tds f.thr),.v (.bool f.all),.sl (ats f.cond)]]⟩
def kindI (op:Int):Int:=if op=6 then 0 else if op=11 then 1 else 2
theorem kindI_6:kindI 6=0:=rfl
theorem kindI_11:kindI 11=1:=rfl
attribute [go_sem] kindI_6 kindI_11
theorem validKind (x:LT):HFn Tryz.prog 81 [lineT x] (.v (.int .i64 (kindI x.op))):=by
 unfold kindI
 refine HCalls_body (fn:=Tryz.f81) 9 [2] (by kernel_rfl) rfl (by kernel_rfl) (HW.run 400 (by kernel_rfl) ?_)
 by_cases h1:x.op=6
 ·simp (config:={ decide:=true }) only[go_sem,Int.reduceToNat,Nat.reduceAdd,Nat.reduceSub,Nat.reduceMul,Nat.reduceBEq,reduceIte,reduceCtorEq,h1]
 ·by_cases h2:x.op=11
  ·simp (config:={ decide:=true }) only[go_sem,Int.reduceToNat,Nat.reduceAdd,Nat.reduceSub,Nat.reduceMul,Nat.reduceBEq,reduceIte,reduceCtorEq,h1,h2]
  ·simp (config:={ decide:=true }) only[go_sem,Int.reduceToNat,Nat.reduceAdd,Nat.reduceSub,Nat.reduceMul,Nat.reduceBEq,reduceIte,reduceCtorEq,h1,h2]
theorem validHead1 (e:Int):HFn Tryz.prog 79 [.v (.int .i64 e)] (wrongH (-1) (-1) e):=by
 refine HCalls_body (fn:=Tryz.f79) 6 [2] (by kernel_rfl) rfl (by kernel_rfl) (HW.run 400 (by kernel_rfl) ?_)
 simp (config:={ decide:=true }) only[go_sem,Int.reduceToNat,Nat.reduceAdd,Nat.reduceSub,Nat.reduceMul,Nat.reduceBEq,reduceIte,reduceCtorEq]
def headO (f:Fl):Option (Int×Int×Int):=if headE f=0 then none else some (-1,-1,headE f)
theorem headO_name {f:Fl} (h:nameB f.name=false):headO f=some (-1,-1,22):=by
 have:headE f=22:=by unfold headE;rw[if_pos h]
 simp[headO,this]
theorem headO_ini {f:Fl} {e:Int} (h:nameB f.name=true) (h2:iniE [] f.init=e) (he:e≠0):headO f=some (-1,-1,e):=by
 have:headE f=e:=by unfold headE;rw[if_neg (by simp[h]),h2,if_pos he]
 simp[headO,this,he]
theorem headO_thr {f:Fl} (h:nameB f.name=true) (h2:iniE [] f.init=0):headO f=if f.thr.length<1∨3<f.thr.length then some (-1,-1,5) else none:=by
 have:headE f=if f.thr.length<1∨3<f.thr.length then 5 else 0:=by unfold headE;rw[if_neg (by simp[h]),h2];simp
 unfold headO
 rw[this]
 split <;> simp
set_option maxHeartbeats 4000000 in
theorem validHead (f:Fl) (hi:f.init.length≤1000000) (ht:f.thr.length≤1000000):HFn Tryz.prog 63 [fileH f] (wrO (headO f)):=by
 refine HCalls_body (fn:=Tryz.f63) 49 [2] (by kernel_rfl) rfl (by kernel_rfl) (HW.run 400 (by kernel_rfl) ?_)
 simp (config:={ decide:=true }) only[go_sem,Int.reduceToNat,Nat.reduceAdd,Nat.reduceSub,Nat.reduceMul,Nat.reduceBEq,reduceIte,reduceCtorEq]
 refine callX_fn 3 (namePr f.name) (by simp only[go_sem]) rfl ?_
 cases hn:nameB f.name with
 | false =>
  simp (config:={ decide:=true }) only[go_sem,Int.reduceToNat,Nat.reduceAdd,Nat.reduceSub,Nat.reduceMul,Nat.reduceBEq,reduceIte,reduceCtorEq]
  refine callX_nm (validHead1 22) rfl rfl ?_
  simp (config:={ decide:=true }) only[go_sem,Int.reduceToNat,Nat.reduceAdd,Nat.reduceSub,Nat.reduceMul,Nat.reduceBEq,reduceIte,reduceCtorEq]
  rw[headO_name hn];rfl
 | true =>
  simp (config:={ decide:=true }) only[go_sem,Int.reduceToNat,Nat.reduceAdd,Nat.reduceSub,Nat.reduceMul,Nat.reduceBEq,reduceIte,reduceCtorEq]
  refine HW.loopG (fun k T H=>∃(i:Nat) (last:List UInt8),k=f.init.length-i∧i≤f.init.length∧iniE [] f.init=iniE last (f.init.drop i)∧T 1=.pt 0 1 0 0∧T 3=.fn 79 []∧T 4=.v (str last)∧T 14=.sl (cls f.init)∧T 15=.v (.int .i64 f.init.length)∧T 16=.v (.int .i64 i)∧H=[some (fileO f)]) f.init.length ⟨_,_,Ghost.refl,0,[],rfl,by omega,rfl,rfl,rfl,rfl,rfl,rfl,rfl,rfl⟩ ?_
  rintro k T H ⟨i,last,rfl,hil,hI,h1,h3,h4,h14,h15,h16,rfl⟩
  refine HW.run 200 (by kernel_rfl) ?_
  by_cases hlt:i<f.init.length
  ·have hlt' : ((i:Int)<(f.init.length:Int))=True:=by simp only[eq_iff_iff,iff_true];omega
   have hx:f.init[i]?=some f.init[i]:=List.getElem?_eq_getElem hlt
   have hdr:f.init.drop i=f.init[i]::f.init.drop (i+1):=List.drop_eq_getElem_cons hlt
   rw[hdr,iniE] at hI
   generalize f.init[i]=c at hx hI
   simp (config:={ decide:=true }) only[go_sem,Int.reduceToNat,Nat.reduceAdd,Nat.reduceSub,Nat.reduceMul,Nat.reduceBEq,reduceIte,reduceCtorEq,h1,h3,h4,h14,h15,h16,hlt',hx,crow]
   refine callX_fn 3 (namePr c.1) (by simp only[go_sem]) rfl ?_
   cases hc:nameB c.1 with
   | false =>
    rw[if_pos hc] at hI
    simp (config:={ decide:=true }) only[go_sem,Int.reduceToNat,Nat.reduceAdd,Nat.reduceSub,Nat.reduceMul,Nat.reduceBEq,reduceIte,reduceCtorEq,h1,h3,h4,h14,h15,h16]
    refine callX_nm (validHead1 22) rfl rfl ?_
    simp (config:={ decide:=true }) only[go_sem,Int.reduceToNat,Nat.reduceAdd,Nat.reduceSub,Nat.reduceMul,Nat.reduceBEq,reduceIte,reduceCtorEq]
    rw[headO_ini hn hI (by decide)];rfl
   | true =>
    rw[if_neg (by simp[hc])] at hI
    cases hle:leS c.1 last with
    | true =>
     rw[if_pos hle] at hI
     simp (config:={ decide:=true }) only[go_sem,Int.reduceToNat,Nat.reduceAdd,Nat.reduceSub,Nat.reduceMul,Nat.reduceBEq,reduceIte,reduceCtorEq,h1,h3,h4,h14,h15,h16,hle]
     refine callX_nm (validHead1 21) rfl rfl ?_
     simp (config:={ decide:=true }) only[go_sem,Int.reduceToNat,Nat.reduceAdd,Nat.reduceSub,Nat.reduceMul,Nat.reduceBEq,reduceIte,reduceCtorEq]
     rw[headO_ini hn hI (by decide)];rfl
    | false =>
     rw[if_neg (by simp[hle])] at hI
     simp (config:={ decide:=true }) only[go_sem,Int.reduceToNat,Nat.reduceAdd,Nat.reduceSub,Nat.reduceMul,Nat.reduceBEq,reduceIte,reduceCtorEq,h1,h3,h4,h14,h15,h16,hle]
     refine ⟨_,_,Ghost.trunc [1,3,4,14,15,16] 1 (by omega) ?_ ?_,f.init.length-(i+1),by omega,i+1,c.1,rfl,by omega,hI,?_,?_,?_,?_,?_,?_,?_⟩
     all_goals first | (simp (config:={ decide:=true }) only[go_sem,Nat.reduceBEq,reduceIte,h1,h3,h4,h14,h15,h16];done) | (simp (config:={ decide:=true }) only[go_sem,Nat.reduceBEq,reduceIte];rw[w64 (by omega) (by omega)];rfl) | rfl
  ·have hlt' : ((i:Int)<(f.init.length:Int))=False:=by simp only[eq_iff_iff,iff_false];omega
   rw[List.drop_of_length_le (by omega)] at hI
   have hI' : iniE [] f.init=0:=hI
   rw[headO_thr hn hI']
   by_cases t1:f.thr.length<1
   ·have t1' : ((f.thr.length:Int)<1)=True:=by simp only[eq_iff_iff,iff_true];omega
    rw[if_pos (.inl t1)]
    simp (config:={ decide:=true }) only[go_sem,Int.reduceToNat,Nat.reduceAdd,Nat.reduceSub,Nat.reduceMul,Nat.reduceBEq,reduceIte,reduceCtorEq,h1,h3,h4,h14,h15,h16,hlt',t1']
    refine callX_nm (validHead1 5) rfl rfl ?_
    simp (config:={ decide:=true }) only[go_sem,Int.reduceToNat,Nat.reduceAdd,Nat.reduceSub,Nat.reduceMul,Nat.reduceBEq,reduceIte,reduceCtorEq]
    rfl
   ·have t1' : ((f.thr.length:Int)<1)=False:=by simp only[eq_iff_iff,iff_false];omega
    by_cases t2:3<f.thr.length
    ·have t2' : ((3:Int)<(f.thr.length:Int))=True:=by simp only[eq_iff_iff,iff_true];omega
     rw[if_pos (.inr t2)]
     simp (config:={ decide:=true }) only[go_sem,Int.reduceToNat,Nat.reduceAdd,Nat.reduceSub,Nat.reduceMul,Nat.reduceBEq,reduceIte,reduceCtorEq,h1,h3,h4,h14,h15,h16,hlt',t1',t2']
     refine callX_nm (validHead1 5) rfl rfl ?_
     simp (config:={ decide:=true }) only[go_sem,Int.reduceToNat,Nat.reduceAdd,Nat.reduceSub,Nat.reduceMul,Nat.reduceBEq,reduceIte,reduceCtorEq]
     rfl
    ·have t2' : ((3:Int)<(f.thr.length:Int))=False:=by simp only[eq_iff_iff,iff_false];omega
     rw[if_neg (by omega)]
     simp (config:={ decide:=true }) only[go_sem,Int.reduceToNat,Nat.reduceAdd,Nat.reduceSub,Nat.reduceMul,Nat.reduceBEq,reduceIte,reduceCtorEq,h1,h3,h4,h14,h15,h16,hlt',t1',t2']
     rfl
def conO (f:Fl):Option (Int×Int×Int):=(conE f.thr.length 0 f.cond).map fun p=>((f.thr.length:Int),(p.1:Int),p.2)
set_option maxHeartbeats 4000000 in
theorem validAsked (f:Fl) (hi:f.cond.length≤1000000) (ht:f.thr.length≤1000000):HFn Tryz.prog 65 [fileH f] (wrO (conO f)):=by
 refine HCalls_body (fn:=Tryz.f65) 38 [2] (by kernel_rfl) rfl (by kernel_rfl) (HW.run 400 (by kernel_rfl) ?_)
 simp (config:={ decide:=true }) only[go_sem,Int.reduceToNat,Nat.reduceAdd,Nat.reduceSub,Nat.reduceMul,Nat.reduceBEq,reduceIte,reduceCtorEq]
 refine HW.loopG (fun k T H=>∃(i:Nat),k=f.cond.length-i∧i≤f.cond.length∧conE f.thr.length 0 f.cond=conE f.thr.length i (f.cond.drop i)∧T 1=.pt 0 1 0 0∧T 7=.sl (ats f.cond)∧T 8=.v (.int .i64 f.cond.length)∧T 9=.v (.int .i64 i)∧H=[some (fileO f)]) f.cond.length ⟨_,_,Ghost.refl,0,rfl,by omega,rfl,rfl,rfl,rfl,rfl,rfl⟩ ?_
 rintro k T H ⟨i,rfl,hil,hI,h1,h7,h8,h9,rfl⟩
 refine HW.run 200 (by kernel_rfl) ?_
 by_cases hlt:i<f.cond.length
 ·have hlt' : ((i:Int)<(f.cond.length:Int))=True:=by simp only[eq_iff_iff,iff_true];omega
  have hx:f.cond[i]?=some f.cond[i]:=List.getElem?_eq_getElem hlt
  have hdr:f.cond.drop i=f.cond[i]::f.cond.drop (i+1):=List.drop_eq_getElem_cons hlt
  rw[hdr,conE] at hI
  generalize f.cond[i]=c at hx hI
  by_cases h6:6≤i
  ·have h6' : ((6:Int)≤(i:Int))=True:=by simp only[eq_iff_iff,iff_true];omega
   rw[if_pos h6] at hI
   simp (config:={ decide:=true }) only[go_sem,Int.reduceToNat,Nat.reduceAdd,Nat.reduceSub,Nat.reduceMul,Nat.reduceBEq,reduceIte,reduceCtorEq,h1,h7,h8,h9,hlt',hx,arow,h6']
   unfold conO;rw[hI];rfl
  ·have h6' : ((6:Int)≤(i:Int))=False:=by simp only[eq_iff_iff,iff_false];omega
   rw[if_neg h6] at hI
   simp (config:={ decide:=true }) only[go_sem,Int.reduceToNat,Nat.reduceAdd,Nat.reduceSub,Nat.reduceMul,Nat.reduceBEq,reduceIte,reduceCtorEq,h1,h7,h8,h9,hlt',hx,arow,h6']
   refine callX_fn 3 (opsAsked c.th c.nm c.n) (by simp only[go_sem]) rfl ?_
   cases hc:askedB c.th c.nm with
   | false =>
    rw[if_pos hc] at hI
    simp (config:={ decide:=true }) only[go_sem,Int.reduceToNat,Nat.reduceAdd,Nat.reduceSub,Nat.reduceMul,Nat.reduceBEq,reduceIte,reduceCtorEq,h1,h7,h8,h9]
    unfold conO;rw[hI];rfl
   | true =>
    rw[if_neg (by simp[hc])] at hI
    by_cases ht:(f.thr.length:Int)≤c.th
    ·rw[if_pos ht] at hI
     simp (config:={ decide:=true }) only[go_sem,Int.reduceToNat,Nat.reduceAdd,Nat.reduceSub,Nat.reduceMul,Nat.reduceBEq,reduceIte,reduceCtorEq,h1,h7,h8,h9,ht]
     unfold conO;rw[hI];rfl
    ·rw[if_neg ht] at hI
     simp (config:={ decide:=true }) only[go_sem,Int.reduceToNat,Nat.reduceAdd,Nat.reduceSub,Nat.reduceMul,Nat.reduceBEq,reduceIte,reduceCtorEq,h1,h7,h8,h9,ht]
     refine ⟨_,_,Ghost.trunc [1,7,8,9] 1 (by omega) ?_ ?_,f.cond.length-(i+1),by omega,i+1,rfl,by omega,hI,?_,?_,?_,?_,?_⟩
     all_goals first | (simp (config:={ decide:=true }) only[go_sem,Nat.reduceBEq,reduceIte,h1,h7,h8,h9];done) | (simp (config:={ decide:=true }) only[go_sem,Nat.reduceBEq,reduceIte];rw[w64 (by omega) (by omega)];rfl) | rfl
 ·have hlt' : ((i:Int)<(f.cond.length:Int))=False:=by simp only[eq_iff_iff,iff_false];omega
  rw[List.drop_of_length_le (by omega)] at hI
  simp (config:={ decide:=true }) only[go_sem,Int.reduceToNat,Nat.reduceAdd,Nat.reduceSub,Nat.reduceMul,Nat.reduceBEq,reduceIte,reduceCtorEq,h1,h7,h8,h9,hlt']
  unfold conO;rw[hI];rfl
end Go.Proofs.YtmapdjdnnhlpiaaGreatDoor
namespace Go.Proofs.YtmapdjdnnhlpiaaGreatDoor
open Go.RowKit
def RRel (r r' : Res):Prop:=∀p x H0,p→r=some (p,x,H0)→∃(p' : Prop) (H0' : Heap),p'∧r'=some (p',x,H0')
theorem rrel_none {r:Res}:RRel none r:=fun _ _ _ _ h=>by cases h
theorem rrel_rv {H H' : Heap} {p p' : Prop} {x:HV} (h:p→p'):RRel (rv H p x) (rv H' p' x):=fun q y H0 hq e=>by
 cases e;exact ⟨p',H',h hq,rfl⟩
theorem rrel_bind {α:Type} {o o' : Option α} {f f' : α→Res} (h:∀a,o=some a→o'=some a∧RRel (f a) (f' a)):RRel (bindO o f) (bindO o' f'):=by
 cases o with
 | none=>exact rrel_none
 | some a =>
  obtain ⟨h1,h2⟩:=h a rfl
  rw[h1];exact h2
def nmed (id:Nat):HV→Prop
 | .hd i _ _=>i=id
 | .pt i _ _ _=>i=id
 | _=>False
def Agr (H H' : Heap) (x:HV):Prop:=∀id,nmed id x→∀ob,getO H id=some ob→getO H' id=some ob
theorem getO_iff {H:Heap} {id:Nat} {ob:HObj}:getO H id=some ob↔H[id]?=some (some ob):=by
 constructor
 ·exact getO_spec
 ·intro h;unfold getO;rw[h]
section
variable {P:Program} {T:Nat→HV} {H H' : Heap}
theorem liveAt_agr {x:HV} (h:Agr H H' x) (hl:liveAt H x=true):liveAt H' x=true:=by
 unfold liveAt at hl⊢
 split at hl
 ·rename_i id n r o
  split at hl
  ·rename_i ob ho
   have:=getO_iff.1 (h id rfl ob (getO_iff.2 ho))
   rw[this];exact hl
  ·cases hl
 ·rfl
 ·cases hl
theorem srcRows_agr {x:HV} (h:Agr H H' x) {rows:List (List HV)} (hs:srcRows H x=some rows):srcRows H' x=some rows:=by
 unfold srcRows at hs⊢
 split at hs
 ·exact hs
 ·exact hs
 ·exact hs
 ·rename_i id off len
  split at hs
  ·rename_i ob ho
   have:=getO_iff.1 (h id rfl ob (getO_iff.2 ho))
   rw[this];exact hs
  ·cases hs
 ·cases hs
theorem ropQ_agr {op:Op} (hag:∀y∈op.operands.toList,Agr H H' (hev T y)):RRel (ropQ P T H op) (ropQ P T H' op):=by
 have h1:∀y,y∈op.operands→Agr H H' (hev T y):=fun y hy=>hag y (by simpa using hy)
 clear hag
 unfold ropQ
 split <;> simp only[Op.operands,Call.operands] at h1
 ·exact rrel_rv id
 ·exact rrel_rv id
 ·unfold rpick;split <;> first | exact rrel_rv id | exact rrel_none
 ·unfold rbuild
  exact rrel_bind fun a ha=>⟨ha,rrel_bind fun b hb=>⟨hb,rrel_bind fun c hc=>⟨hc,rrel_rv id⟩⟩⟩
 ·rename_i t a
  refine rrel_bind fun x hx=>⟨hx,?_⟩
  have ha:=h1 a (by simp)
  unfold rloadQ
  split
  ·rename_i id n r o e
   rw[e] at ha
   exact rrel_bind fun ob ho=>⟨ha _ rfl ob ho,rrel_bind fun row hr=>⟨hr,rrel_rv fun h=>h⟩⟩
  ·exact rrel_bind fun row hr=>⟨hr,rrel_rv fun h=>h⟩
  ·exact rrel_none
 ·rename_i x
  have ha:=h1 x (by simp)
  unfold rsure
  split
  ·exact rrel_rv id
  ·rename_i e;rw[e] at ha;exact rrel_rv (liveAt_agr ha)
  ·exact rrel_rv id
  ·exact rrel_rv id
  ·exact rrel_none
 ·unfold rbin;exact rrel_bind fun v hv=>⟨hv,rrel_rv id⟩
 ·unfold run1;split <;> first | exact rrel_rv id | exact rrel_none
 ·rename_i src dst x
  have ha:=h1 x (by simp)
  unfold rconv
  split
  ·exact rrel_bind fun a ha=>⟨ha,rrel_bind fun b hb=>⟨hb,rrel_rv id⟩⟩
  ·exact rrel_rv id
  ·exact rrel_bind fun e he=>⟨he,rrel_bind fun rows hr=>⟨srcRows_agr ha hr,rrel_bind fun l hl=>⟨hl,rrel_rv id⟩⟩⟩
 ·unfold riface;exact rrel_bind fun y hy=>⟨hy,rrel_rv id⟩
 ·split <;> first | exact rrel_rv id | exact rrel_none
 ·rename_i t x lo hi
  have ha:=h1 x (by simp)
  unfold rcut
  split
  ·exact rrel_bind fun l hl=>⟨hl,rrel_bind fun h hh=>⟨hh,rrel_rv id⟩⟩
  ·exact rrel_bind fun e he=>⟨he,rrel_bind fun l hl=>⟨hl,rrel_bind fun h hh=>⟨hh,rrel_rv id⟩⟩⟩
  ·rename_i e;rw[e] at ha
   exact rrel_bind fun e he=>⟨he,rrel_bind fun l hl=>⟨hl,rrel_bind fun h hh=>⟨hh,rrel_bind fun ob ho=>⟨ha _ rfl ob ho,rrel_rv id⟩⟩⟩⟩
  ·exact rrel_none
 ·rename_i s a i
  have ha:=h1 a (by simp)
  unfold rfieldAddr
  exact rrel_bind fun f hf=>⟨hf,rrel_rv fun h=>⟨h.1,liveAt_agr ha h.2⟩⟩
 ·unfold rfield;split
  ·exact rrel_bind fun f hf=>⟨hf,rrel_rv id⟩
  ·exact rrel_none
 ·rename_i t a i
  have ha:=h1 a (by simp)
  unfold rindexAddr
  split
  ·exact rrel_bind fun e he=>⟨he,rrel_rv id⟩
  ·rename_i e _;rw[e] at ha
   exact rrel_bind fun e he=>⟨he,rrel_bind fun ob ho=>⟨ha _ rfl ob ho,rrel_rv id⟩⟩
  ·rename_i e _;rw[e] at ha
   exact rrel_bind fun e he=>⟨he,rrel_rv fun h=>⟨liveAt_agr ha h.1,h.2⟩⟩
  ·exact rrel_bind fun e he=>⟨he,rrel_rv id⟩
  ·exact rrel_none
 ·unfold rindex;split
  ·exact rrel_bind fun b hb=>⟨hb,rrel_rv id⟩
  ·exact rrel_bind fun e he=>⟨he,rrel_rv id⟩
  ·exact rrel_none
 ·unfold rextract;split
  ·exact rrel_bind fun v hv=>⟨hv,rrel_rv id⟩
  ·exact rrel_none
 ·rename_i x t
  have ha:=h1 x (by simp)
  unfold rlen
  split
  ·exact rrel_rv id
  ·exact rrel_rv id
  ·exact rrel_rv id
  ·rename_i e;rw[e] at ha
   exact rrel_bind fun ob ho=>⟨ha _ rfl ob ho,rrel_rv id⟩
  ·exact rrel_none
 ·unfold rmm;split <;> first | exact rrel_rv id | exact rrel_none
 ·unfold rmm;split <;> first | exact rrel_rv id | exact rrel_none
 ·exact rrel_none
end
mutual
theorem nameV_app:∀(h:HV) (H:Heap),∃B,(nameV h H).2=H++B
 | .ow ..,H=>⟨_,rfl⟩
 | .bx ..,H=>⟨_,rfl⟩
 | .om ..,H=>⟨_,rfl⟩
 | .ag cs,H=>by simpa only[nameV] using nameL_app cs H
 | .tu cs,H=>by simpa only[nameV] using nameL_app cs H
 | .fn _ cs,H=>by simpa only[nameV] using nameL_app cs H
 | .any,H=>⟨[],by simp[nameV]⟩
 | .v _,H=>⟨[],by simp[nameV]⟩
 | .sl _,H=>⟨[],by simp[nameV]⟩
 | .hd ..,H=>⟨[],by simp[nameV]⟩
 | .pt ..,H=>⟨[],by simp[nameV]⟩
 | .fp ..,H=>⟨[],by simp[nameV]⟩
 | .ic ..,H=>⟨[],by simp[nameV]⟩
 | .ob _,H=>⟨[],by simp[nameV]⟩
 | .mp _,H=>⟨[],by simp[nameV]⟩
 | .yl _,H=>⟨[],by simp[nameV]⟩
 | .gv _,H=>⟨[],by simp[nameV]⟩
theorem nameL_app:∀(l:List HV) (H:Heap),∃B,(nameL l H).2=H++B
 | [],H=>⟨[],by simp[nameL]⟩
 | h::t,H=>by
  obtain ⟨B,h1⟩:=nameV_app h H
  obtain ⟨B',h2⟩:=nameL_app t (nameV h H).2
  exact ⟨B++B',by simp only[nameL];rw[h2,h1,List.append_assoc]⟩
end
def indep:Op→Bool
 | .move _=>true
 | .assign _=>true
 | .pick ..=>true
 | .build ..=>true
 | .binOp ..=>true
 | .unOp ..=>true
 | .makeInterface ..=>true
 | .makeFunc ..=>true
 | .field ..=>true
 | .index ..=>true
 | .extract ..=>true
 | _=>false
theorem ropQ_indep {P:Program} {T:Nat→HV} {H H' : Heap} {op:Op} (h:indep op=true):RRel (ropQ P T H op) (ropQ P T H' op):=by
 cases op <;> simp only[indep,Bool.false_eq_true] at h
 case move=>exact rrel_rv id
 case assign=>exact rrel_rv id
 case pick=>unfold ropQ rpick;dsimp only;split <;> first | exact rrel_rv id | exact rrel_none
 case build=>unfold ropQ rbuild;exact rrel_bind fun a ha=>⟨ha,rrel_bind fun b hb=>⟨hb,rrel_bind fun c hc=>⟨hc,rrel_rv id⟩⟩⟩
 case binOp=>unfold ropQ rbin;exact rrel_bind fun v hv=>⟨hv,rrel_rv id⟩
 case unOp=>unfold ropQ run1;dsimp only;split <;> first | exact rrel_rv id | exact rrel_none
 case makeInterface=>unfold ropQ riface;exact rrel_bind fun y hy=>⟨hy,rrel_rv id⟩
 case makeFunc f first cs =>
  cases f <;> unfold ropQ <;> dsimp only <;> first | exact rrel_none | (split <;> first | exact rrel_rv id | exact rrel_none)
 case field=>unfold ropQ rfield;dsimp only;split <;> first | exact rrel_bind fun f hf=>⟨hf,rrel_rv id⟩ | exact rrel_none
 case index =>
  unfold ropQ rindex;dsimp only;split
  ·exact rrel_bind fun b hb=>⟨hb,rrel_rv id⟩
  ·exact rrel_bind fun e he=>⟨he,rrel_rv id⟩
  ·exact rrel_none
 case extract=>unfold ropQ rextract;dsimp only;split <;> first | exact rrel_bind fun v hv=>⟨hv,rrel_rv id⟩ | exact rrel_none
def SameTo (m:Nat) (H H' : Heap):Prop:=∀id:Nat,id<m→H'[id]?=H[id]?
theorem SameTo.app {m:Nat} {H:Heap} (B:Heap) (h:m≤H.length):SameTo m H (H++B):=fun id hid=>List.getElem?_append_left (by omega)
theorem SameTo.agr {m:Nat} {H H' : Heap} {x:HV} (h:SameTo m H H') (hn:nm m x=true):Agr H H' x:=fun id hid ob ho=>by
 have hlt:id<m:=by
  cases x <;> simp only[nmed] at hid
  ·subst hid;simpa [nm] using hn
  ·subst hid;simpa [nm] using hn
 exact getO_iff.2 ((h id hlt).trans (getO_iff.1 ho))
def CertQ (P:Program) (base:Nat) (T:Nat→HV) (H:Heap) (op:Op) (x:HV):Prop :=
 (∃(p:Prop) (H0:Heap),p∧ropQ P T H op=some (p,x,H0)∧(indep op=true∨∀y∈op.operands.toList,nm base (hev T y)=true))∨
 (∃f args tys fid caps R,op=.call { callee:=.value f,args:=args,argTypes:=tys }∧hev T f=.fn fid caps∧HFn P (fnF fid) (fnA fid .any (args.toList.map (hev T)) caps) R∧nmL 0 (fnA fid .any (args.toList.map (hev T)) caps)=true∧x=fzo R)∨
 (∃rv name args tys t y fid R,op=.call { callee:=.invoke rv name,args:=args,argTypes:=tys }∧hev T rv=.ic t y∧methodFn P t name=some fid∧HFn P fid (y::args.toList.map (hev T)) R∧nmL 0 (y::args.toList.map (hev T))=true∧x=fzo R)∨
 (∃t len parts p H0,op=.buildSlice t len parts∧p∧rbuildSliceF P T H t len parts.toList=some (p,x,H0))
def CertM (P:Program) (base:Nat) (T:Nat→HV) (H:Heap) (op:Op) (x:HV) (H' : Heap):Prop :=
 SameTo base H H'∧H.length≤H'.length∧(
  (∃f args tys fid caps n R args',op=.call { callee:=.value f,args:=args,argTypes:=tys }∧hev T f=.fn fid caps∧HFn P (fnF fid) args' R∧LendOk n H (fnA fid .any (args.toList.map (hev T)) caps) args' R∧nameV R H=(x,H'))∨
  (∃rv name args tys t y fid n R args',op=.call { callee:=.invoke rv name,args:=args,argTypes:=tys }∧hev T rv=.ic t y∧methodFn P t name=some fid∧HFn P fid args' R∧LendOk n H (y::args.toList.map (hev T)) args' R∧nameV R H=(x,H'))∨
  (∃p:Prop,p∧rop P T H op=some (p,x,H')))
def CertE (P:Program) (base:Nat) (h:Bool) (T:Nat→HV) (H:Heap) (op:Op) (x:HV) (H' : Heap):Prop :=
 if h=true then CertM P base T H op x H' else CertQ P base T H op x∧H'=H
def CertN (P:Program) (base:Nat) (h:Bool) (all:List Oper) (T:Nat→HV) (H:Heap) (o:Oper) (x:HV) (H' : Heap):Prop :=
 match o.guard with
 | none=>CertE P base h T H o.op x H'
 | some (j,b)=>∃t,dstAt all j=some t∧((∃c,T t=.v (.bool c)∧(c=b→CertE P base h T H o.op x H')∧(c=(!b)→x=.v undef∧H'=H))∨∃ts,T t=.v (.tuple ts)∧x=.v undef∧H'=H)
def bsO (hv:List Nat) (base:Nat×Nat) (j:Nat):Nat :=
 if hv.contains j=true then (if hv.contains (2000+j)=true then base.1 else if base.1<base.2 then base.2 else base.1)
 else if hv.contains (1000+j)=true then base.2 else base.1
theorem bsO_ge {hv:List Nat} {base:Nat×Nat} {j:Nat} (h:hv.contains j=true):base.1≤bsO hv base j:=by
 unfold bsO
 rw[if_pos h]
 split
 ·exact Nat.le_refl _
 ·split <;> omega
theorem bsO_ge2 {hv:List Nat} {base:Nat×Nat} {j:Nat} (h:hv.contains j=true) (h2:¬hv.contains (2000+j)=true):base.2≤bsO hv base j:=by
 unfold bsO
 rw[if_pos h,if_neg h2]
 split <;> omega
theorem SameTo.le {m m' : Nat} {H H' : Heap} (h:SameTo m H H') (hm:m'≤m):SameTo m' H H':=fun id hid=>h id (by omega)
def CertNL (P:Program) (base:Nat×Nat) (hv:List Nat) (all:List Oper):Nat→List Oper→(Nat→HV)→Heap→List HV→List Heap→Prop
 | _,[],_,_,xs,hs=>xs=[]∧hs=[]
 | j,o::l,T,H,xs,hs=>∃x H' xs' hs',xs=x::xs'∧hs=H'::hs'∧CertN P (bsO hv base j) (hv.contains j) all T H o x H'∧CertNL P base hv all (j+1) l (updO T o.dst x) H' xs' hs'
def heapAt (H0:Heap) (hs:List Heap) (j:Nat):Heap:=((H0::hs)[j]?).getD []
section
variable {P:Program} {all:List Oper} {base:Nat} {hv:List Nat}
theorem lend_calls {fid:Nat} {n:Nat} {H:Heap} {args args' : List HV} {R:HV} (h:HFn P fid args' R) (hL:LendOk n H args args' R):HCalls P fid H args (fun r H'=>r=R∧H'=H):=by
 rcases hL with ⟨rfl,hnz⟩ | ⟨rfl,hnm⟩
 ·exact HCalls.lend n h (fun r hr=>by rw[hr];exact hnz)
 ·exact HCalls.plain h hnm
theorem rbuildSliceF_congr {T T' : Nat→HV} {H H' : Heap} {t:TypeId} {len:Nat} {parts:List (Nat×Operand)} (h:∀p∈parts,hev T p.2=hev T' p.2) {p:Prop} {x:HV} {H0:Heap} (hr:rbuildSliceF P T H t len parts=some (p,x,H0)):rbuildSliceF P T' H' t len parts=some (p,x,H'):=by
 have e1:∀n (l:List (Nat×Operand)),(∀p∈l,hev T p.2=hev T' p.2)→PartsOk T n l=PartsOk T' n l:=by
  intro n l
  induction l with
  | nil=>intro _;rfl
  | cons p l ih =>
   intro hp
   simp only[PartsOk]
   rw[hp p (by simp),ih (fun q hq=>hp q (by simp[hq]))]
 have e2:parts.map (fun p=>fzoL (cellsH (hev T p.2)))=parts.map (fun p=>fzoL (cellsH (hev T' p.2))):=by
  apply List.map_congr_left
  intro p hq
  rw[h p hq]
 unfold rbuildSliceF at hr⊢
 cases he:elemTI P t 3 with
 | none=>rw[he] at hr;cases hr
 | some e =>
  rw[he] at hr
  simp only[bindO_some,rv] at hr⊢
  cases hr
  rw[e1 _ _ h,e2]
theorem CertQ_congr {T T' : Nat→HV} {H:Heap} {op:Op} {x:HV} (h:∀y∈op.operands.toList,hev T y=hev T' y) (hc:CertQ P base T H op x):CertQ P base T' H op x:=by
 rcases hc with ⟨p,H0,hp,hr,hi⟩ | ⟨f,args,tys,fid,caps,R,rfl,hf,h1,h2,h3⟩ | ⟨rv,name,args,tys,t,y,fid,R,rfl,hf,hm,h1,h2,h3⟩ | ⟨t,len,parts,p,H0,rfl,hp,hr⟩
 ·exact .inl ⟨p,H0,hp,by rw[←ropQ_congr h];exact hr,hi.imp id fun hi y hy=>by rw[←h y hy];exact hi y hy⟩
 ·have e1:=h f (by simp[Op.operands,Call.operands])
  have e2:args.toList.map (hev T)=args.toList.map (hev T'):=hevs_congr fun x hx=>h x (by simp[Op.operands,Call.operands];exact .inr (by simpa using hx))
  exact .inr (.inl ⟨f,args,tys,fid,caps,R,rfl,e1▸hf,e2▸h1,e2▸h2,h3⟩)
 ·have e1:=h rv (by simp[Op.operands,Call.operands])
  have e2:args.toList.map (hev T)=args.toList.map (hev T'):=hevs_congr fun x hx=>h x (by simp[Op.operands,Call.operands];exact .inr (by simpa using hx))
  exact .inr (.inr (.inl ⟨rv,name,args,tys,t,y,fid,R,rfl,e1▸hf,hm,e2▸h1,e2▸h2,h3⟩))
 ·have hp1:∀p∈parts.toList,hev T p.2=hev T' p.2:=fun p hp=>h p.2 (by simp[Op.operands];exact ⟨p.1,by simpa using hp⟩)
  exact .inr (.inr (.inr ⟨t,len,parts,p,H,rfl,hp,rbuildSliceF_congr hp1 hr⟩))
theorem CertQ_certO {T:Nat→HV} {H Hc:Heap} {op:Op} {x:HV} (hs:SameTo base H Hc) (hc:CertQ P base T H op x):CertO P T Hc op x:=by
 rcases hc with ⟨p,H0,hp,hr,hi⟩ | ⟨f,args,tys,fid,caps,R,rfl,hf,h1,h2,h3⟩ | ⟨rv,name,args,tys,t,y,fid,R,rfl,hf,hm,h1,h2,h3⟩ | ⟨t,len,parts,p,H0,rfl,hp,hr⟩
 ·have hR:RRel (ropQ P T H op) (ropQ P T Hc op):=by
   rcases hi with hi | hi
   ·exact ropQ_indep hi
   ·exact ropQ_agr fun y hy=>hs.agr (hi y hy)
  obtain ⟨p',H0',hp',hr'⟩:=hR p x H0 hp hr
  exact .inl ⟨p',H0',hp',hr'⟩
 ·exact .inr (.inl ⟨f,args,tys,fid,caps,0,R,_,rfl,hf,h1,.inr ⟨rfl,h2⟩,h3⟩)
 ·exact .inr (.inr (.inl ⟨rv,name,args,tys,t,y,fid,0,R,_,rfl,hf,hm,h1,.inr ⟨rfl,h2⟩,h3⟩))
 ·exact .inr (.inr (.inr ⟨t,len,parts,p,Hc,rfl,hp,rbuildSliceF_congr (fun _ _=>rfl) hr⟩))
theorem CertM_congr {T T' : Nat→HV} {H H' : Heap} {op:Op} {x:HV} (h:∀y∈op.operands.toList,hev T y=hev T' y) (hc:CertM P base T H op x H'):CertM P base T' H op x H':=by
 obtain ⟨k1,k2,hc⟩:=hc
 refine ⟨k1,k2,?_⟩
 rcases hc with ⟨f,args,tys,fid,caps,n,R,args',rfl,hf,h1,h2,h3⟩ | ⟨rv,name,args,tys,t,y,fid,n,R,args',rfl,hf,hm,h1,h2,h3⟩ | ⟨p,hp,hr⟩
 ·have e1:=h f (by simp[Op.operands,Call.operands])
  have e2:args.toList.map (hev T)=args.toList.map (hev T'):=hevs_congr fun x hx=>h x (by simp[Op.operands,Call.operands];exact .inr (by simpa using hx))
  exact .inl ⟨f,args,tys,fid,caps,n,R,args',rfl,e1▸hf,h1,e2▸h2,h3⟩
 ·have e1:=h rv (by simp[Op.operands,Call.operands])
  have e2:args.toList.map (hev T)=args.toList.map (hev T'):=hevs_congr fun x hx=>h x (by simp[Op.operands,Call.operands];exact .inr (by simpa using hx))
  exact .inr (.inl ⟨rv,name,args,tys,t,y,fid,n,R,args',rfl,e1▸hf,hm,h1,e2▸h2,h3⟩)
 ·exact .inr (.inr ⟨p,hp,by rw[←rop_congr h];exact hr⟩)
theorem CertE_congr {h0:Bool} {T T' : Nat→HV} {H H' : Heap} {op:Op} {x:HV} (h:∀y∈op.operands.toList,hev T y=hev T' y) (hc:CertE P base h0 T H op x H'):CertE P base h0 T' H op x H':=by
 cases h0 with
 | true=>exact CertM_congr h hc
 | false=>exact ⟨CertQ_congr h hc.1,hc.2⟩
theorem CertE_same {h0:Bool} {T:Nat→HV} {H H' : Heap} {op:Op} {x:HV} (hc:CertE P base h0 T H op x H'):SameTo base H H'∧H.length≤H'.length:=by
 unfold CertE at hc
 split at hc
 ·exact ⟨hc.1,hc.2.1⟩
 ·rw[hc.2];exact ⟨fun _ _=>rfl,Nat.le_refl _⟩
theorem CertN_congr {h0:Bool} {o:Oper} {T T' : Nat→HV} {H H' : Heap} {x:HV} (h:∀t∈seenT all o,T t=T' t) (hc:CertN P base h0 all T H o x H'):CertN P base h0 all T' H o x H':=by
 have hv:=seen_hev h
 unfold CertN at hc⊢
 split at hc
 ·exact CertE_congr hv hc
 ·rename_i j b hg
  obtain ⟨t,ht,hc⟩:=hc
  have e:T t=T' t:=h t (by unfold seenT;rw[hg];simp[ht])
  refine ⟨t,ht,?_⟩
  rw[←e]
  rcases hc with ⟨c,h1,h2,h3⟩ | hc
  ·exact .inl ⟨c,h1,fun hcb=>CertE_congr hv (h2 hcb),h3⟩
  ·exact .inr hc
theorem CertN_same {h0:Bool} {o:Oper} {T:Nat→HV} {H H' : Heap} {x:HV} (hc:CertN P base h0 all T H o x H'):SameTo base H H'∧H.length≤H'.length:=by
 unfold CertN at hc
 split at hc
 ·exact CertE_same hc
 ·rename_i j b hg
  obtain ⟨t,ht,⟨c,h1,h2,h3⟩ | ⟨ts,_,_,h⟩⟩:=hc
  ·by_cases hcb:c=b
   ·exact CertE_same (h2 hcb)
   ·have hc:c=(!b):=by cases c <;> cases b <;> simp_all
    rw[(h3 hc).2];exact ⟨fun _ _=>rfl,Nat.le_refl _⟩
  ·rw[h];exact ⟨fun _ _=>rfl,Nat.le_refl _⟩
theorem CertN_quiet {o:Oper} {T:Nat→HV} {H H' : Heap} {x:HV} (hc:CertN P base false all T H o x H'):H'=H:=by
 have hM:CertE P base false T H o.op x H'→H'=H:=fun h=>by
  unfold CertE at h
  simp only[Bool.false_eq_true,if_false] at h
  exact h.2
 unfold CertN at hc
 split at hc
 ·exact hM hc
 ·obtain ⟨t,ht,⟨c,h1,h2,h3⟩ | ⟨ts,_,_,h⟩⟩:=hc
  ·rename_i j b _
   by_cases hcb:c=b
   ·exact hM (h2 hcb)
   ·have hc:c=(!b):=by cases c <;> cases b <;> simp_all
    exact (h3 hc).2
  ·exact h
theorem heapAt_zero {H0:Heap} {hs:List Heap}:heapAt H0 hs 0=H0:=rfl
theorem heapAt_succ {H0 H1:Heap} {hs:List Heap} {j:Nat}:heapAt H0 (H1::hs) (j+1)=heapAt H1 hs j:=rfl
theorem CertNL_at {base:Nat×Nat}:∀(l:List Oper) (xs:List HV) (hs:List Heap) (i j:Nat) (T:Nat→HV) (H0:Heap) (o:Oper),CertNL P base hv all i l T H0 xs hs→l[j]?=some o→
  ∃x,xs[j]?=some x∧CertN P (bsO hv base (i+j)) (hv.contains (i+j)) all (runM (fun k=>decide (k<i+j)) i l xs T) (heapAt H0 hs j) o x (heapAt H0 hs (j+1))
 | [],xs,hs,i,j,T,H0,o,_,h=>by simp at h
 | o0::l,xs,hs,i,0,T,H0,o,hc,h=>by
  obtain ⟨x,H',xs',hs',rfl,rfl,h1,_⟩:=hc
  simp only[List.getElem?_cons_zero,Option.some.injEq] at h
  subst h
  refine ⟨x,rfl,?_⟩
  rw[heapAt_zero,heapAt_succ,heapAt_zero]
  refine CertN_congr (fun t _=>?_) h1
  rw[runM_no]
  intro j' _
  simp
 | o0::l,xs,hs,i,j+1,T,H0,o,hc,h=>by
  obtain ⟨x,H',xs',hs',rfl,rfl,_,h2⟩:=hc
  simp only[List.getElem?_cons_succ] at h
  obtain ⟨y,h3,h4⟩:=CertNL_at l xs' hs' (i+1) j _ H' o h2 h
  refine ⟨y,by simpa using h3,?_⟩
  rw[heapAt_succ,heapAt_succ]
  rw[show i+1+j=i+(j+1) by omega] at h4
  refine CertN_congr (fun t _=>?_) h4
  simp only[runM]
  rw[if_pos (by simp)]
theorem heapAt_mono {base:Nat×Nat} {l:List Oper} {xs:List HV} {hs:List Heap} {T:Nat→HV} {H0:Heap} (hc:CertNL P base hv all 0 l T H0 xs hs):∀(b a:Nat),a≤b→b≤l.length→SameTo base.1 (heapAt H0 hs a) (heapAt H0 hs b)∧(heapAt H0 hs a).length≤(heapAt H0 hs b).length:=by
 intro b
 induction b with
 | zero=>intro a ha _;obtain rfl:a=0:=(by omega);exact ⟨fun _ _=>rfl,Nat.le_refl _⟩
 | succ b ih =>
  intro a ha hb
  rcases Nat.lt_or_ge a (b+1) with h | h
  ·obtain ⟨h1,h2⟩:=ih a (by omega) (by omega)
   obtain ⟨x,_,hN⟩:=CertNL_at l xs hs 0 b T H0 _ hc (List.getElem?_eq_getElem (show b<l.length by omega))
   have h34:SameTo base.1 (heapAt H0 hs b) (heapAt H0 hs (b+1))∧(heapAt H0 hs b).length≤(heapAt H0 hs (b+1)).length:=by
    rw[Nat.zero_add] at hN
    cases hvb:hv.contains b with
    | true =>
     exact ⟨(CertN_same hN).1.le (bsO_ge hvb),(CertN_same hN).2⟩
    | false =>
     rw[hvb] at hN
     rw[CertN_quiet hN]
     exact ⟨fun _ _=>rfl,Nat.le_refl _⟩
   obtain ⟨h3,h4⟩:=h34
   exact ⟨fun id hid=>(h3 id hid).trans (h1 id hid),by omega⟩
  ·obtain rfl:a=b+1:=by omega
   exact ⟨fun _ _=>rfl,Nat.le_refl _⟩
theorem heapAt_mono2 {base:Nat×Nat} {l:List Oper} {xs:List HV} {hs:List Heap} {T:Nat→HV} {H0:Heap} (hc:CertNL P base hv all 0 l T H0 xs hs):∀(b a:Nat),a≤b→b≤l.length→(∀(j:Nat),a≤j→j<b→hv.contains j=true→hv.contains (2000+j)=true→False)→SameTo base.2 (heapAt H0 hs a) (heapAt H0 hs b)∧(heapAt H0 hs a).length≤(heapAt H0 hs b).length:=by
 intro b
 induction b with
 | zero=>intro a ha _ _;obtain rfl:a=0:=(by omega);exact ⟨fun _ _=>rfl,Nat.le_refl _⟩
 | succ b ih =>
  intro a ha hb hq
  rcases Nat.lt_or_ge a (b+1) with h | h
  ·obtain ⟨h1,h2⟩:=ih a (by omega) (by omega) (fun j h1 h2=>hq j h1 (by omega))
   obtain ⟨x,_,hN⟩:=CertNL_at l xs hs 0 b T H0 _ hc (List.getElem?_eq_getElem (show b<l.length by omega))
   have h34:SameTo base.2 (heapAt H0 hs b) (heapAt H0 hs (b+1))∧(heapAt H0 hs b).length≤(heapAt H0 hs (b+1)).length:=by
    rw[Nat.zero_add] at hN
    cases hvb:hv.contains b with
    | true =>
     exact ⟨(CertN_same hN).1.le (bsO_ge2 hvb (fun hw=>hq b (by omega) (by omega) hvb hw)),(CertN_same hN).2⟩
    | false =>
     rw[hvb] at hN
     rw[CertN_quiet hN]
     exact ⟨fun _ _=>rfl,Nat.le_refl _⟩
   obtain ⟨h3,h4⟩:=h34
   exact ⟨fun id hid=>(h3 id hid).trans (h1 id hid),by omega⟩
  ·obtain rfl:a=b+1:=by omega
   exact ⟨fun _ _=>rfl,Nat.le_refl _⟩
theorem heapAt_same {base:Nat×Nat} {l:List Oper} {xs:List HV} {hs:List Heap} {T:Nat→HV} {H0:Heap} (hc:CertNL P base hv all 0 l T H0 xs hs):∀(b a:Nat),a≤b→b≤l.length→(∀(j:Nat),a≤j→j<b→hv.contains j=false)→heapAt H0 hs b=heapAt H0 hs a:=by
 intro b
 induction b with
 | zero=>intro a ha _ _;obtain rfl:a=0:=(by omega);rfl
 | succ b ih =>
  intro a ha hb hq
  rcases Nat.lt_or_ge a (b+1) with h | h
  ·have h1:=ih a (by omega) (by omega) fun j h1 h2=>hq j h1 (by omega)
   have ho:l[b]?=some l[b]:=List.getElem?_eq_getElem (show b<l.length by omega)
   obtain ⟨x,_,hN⟩:=CertNL_at l xs hs 0 b T H0 _ hc ho
   rw[Nat.zero_add,hq b (by omega) (by omega)] at hN
   rw[CertN_quiet hN,h1]
  ·obtain rfl:a=b+1:=by omega
   rfl
end
section
variable {P:Program} {N L B base:Nat} {Z:Nat→Prop} {G:List (Option OG)} {FP:Nat→List Nat} {ds:List Nat} {T:Nat→HV} {H H' : Heap} {a:Act} {w:World} {ro:Option Nat} {mm:Nat}
theorem certM_heavy {o:Oper} {x:HV} (hok:operOk N o=true) (hn:noDefer o=true) (hc:CertM P base T H o.op x H'):HO P N L o T H (fun T' H''=>T'=updO T o.dst x∧H''=H'):=by
 have hnd:=noDefer_spec hn
 have hdst:∀i,o.dst=some i→i<N:=fun i hi=>by
  have:=hok;simp only[operOk,dstOk,hi,Bool.and_eq_true,decide_eq_true_eq] at this;exact this.1
 rcases hc.2.2 with ⟨f,args,tys,fid,caps,n,R,args',hop,hf,h1,h2,h3⟩ | ⟨rv,name,args,tys,t,y,fid,n,R,args',hop,hf,hm,h1,h2,h3⟩ | ⟨p,hp,hr⟩
 ·exact HO_call hop hok hf (lend_calls h1 h2) (fun r H2 hq _=>by
   obtain ⟨rfl,rfl⟩:=hq
   rw[h3];exact ⟨rfl,rfl⟩)
 ·exact HO_invoke hop hok hf hm (lend_calls h1 h2) (fun r H2 hq _=>by
   obtain ⟨rfl,rfl⟩:=hq
   rw[h3];exact ⟨rfl,rfl⟩)
 ·exact HO_of_HR hnd hdst (HR_rop hok (by rw[hr];exact ⟨hp,rfl,rfl⟩))
def NextM (P:Program) (N L B:Nat) (ds:List Nat) (G:List (Option OG)) (Z:Nat→Prop) (FP:Nat→List Nat) (w:World) (T:Nat→HV) (H:Heap) (K:Act→World→Prop):Prop :=
 ∀Z' G' FP' a' w',St N B Z' G' FP' ds T H a' w'→GLt L G G'→Evo Z FP w Z' FP' w'→K a' w'
theorem certN_run {all:List Oper} {j:Nat} {o:Oper} {x:HV} {K:Act→World→Prop} {Q' : Exit→Act→World→Prop} {Hc Hn:Heap} {h0:Bool} (hall:all.all (dstOk N)=true) (hj:all[j]?=some o) (hok:operOk N o=true) (hn:noDefer o=true) (hc:CertN P base h0 all T H o x H')
  (hs:St N B Z G FP ds T Hc a w) (hB:Bo ro B FP w) (hL:L≤G.length)
  (hq:h0=false→Hn=Hc∧SameTo base H Hc) (hh:h0=true→Hc=H∧Hn=H')
  (hK:NextM P N L B ds G Z FP w (updO T o.dst x) Hn K):wpOpIn (Wd ro) mm P all.toArray Q' j K a w:=by
 have hdst:∀i,o.dst=some i→i<N:=fun i hi=>by
  have:=hok;simp only[operOk,dstOk,hi,Bool.and_eq_true,decide_eq_true_eq] at this;exact this.1
 have run:CertE P base h0 T H o.op x H'→o.wpIn (Wd ro) mm P a w K Q':=fun hM=>by
  cases h0 with
  | true =>
   obtain ⟨rfl,rfl⟩:=hh rfl
   unfold CertE at hM
   rw[if_pos rfl] at hM
   refine certM_heavy (L:=L) hok hn hM ro mm B Z G FP ds a w hB hL hs K Q' ?_
   rintro a' w' ⟨T2,H2,Z',G',FP',⟨rfl,rfl⟩,hs',hG',hE'⟩
   exact hK Z' G' FP' a' w' hs' hG' hE'
  | false =>
   obtain ⟨rfl,hR⟩:=hq rfl
   unfold CertE at hM
   simp only[Bool.false_eq_true,if_false] at hM
   exact certO_run hok hn (CertQ_certO hR hM.1) hs (fun Z' G' FP' a' w' h1 h2 h3=>hK Z' G' FP' a' w' h1 (GLt.of hL h2) h3)
 have noRun:x=.v undef→H'=H→K (a.put o.dst undef) w:=fun hx hHH=>by
  have e:Hn=Hc:=by
   cases h0 with
   | true=>obtain ⟨rfl,rfl⟩:=hh rfl;exact hHH
   | false=>exact (hq rfl).1
  subst hx
  rw[e] at hK
  exact hK _ _ _ _ _ (hs.drop o.dst hdst) (GLt.refl hL) (Evo.refl _ _ _)
 unfold wpOpIn
 rw[List.getElem?_toArray,hj]
 dsimp only
 unfold CertN at hc
 split at hc
 ·rename_i hg
  simp only[Region.wanted,hg,if_true]
  exact run hc
 ·rename_i k b hg
  obtain ⟨t,ht,hc⟩:=hc
  rcases hc with ⟨c,h1,h2,h3⟩ | ⟨ts,h1,h4,h5⟩
  ·have hy:yielded all.toArray a.tmps k=some c:=hs.yields hall (by rw[dstAt_gval ht];exact h1)
   have hw:Region.wanted o (yielded all.toArray a.tmps)=(c == b):=by
    simp only[Region.wanted,hg,hy]
    cases c <;> cases b <;> rfl
   rw[hw]
   by_cases hcb:c=b
   ·rw[if_pos (by simp[hcb])]
    exact run (h2 hcb)
   ·have hc:c=(!b):=by cases c <;> cases b <;> simp_all
    rw[if_neg (by simp[hcb])]
    exact ⟨fun _ _=>trivial,noRun (h3 hc).1 (h3 hc).2⟩
  ·have hy:yielded all.toArray a.tmps k=none:=hs.yieldsNo hall (by rw[dstAt_gval ht];exact h1)
   have hw:Region.wanted o (yielded all.toArray a.tmps)=false:=by
    simp only[Region.wanted,hg,hy]
    cases b <;> rfl
   rw[hw,if_neg (by simp)]
   exact ⟨fun _ _=>trivial,noRun h4 h5⟩
end
end Go.Proofs.YtmapdjdnnhlpiaaGreatDoor
namespace Go.Proofs.YtmapdjdnnhlpiaaGreatDoor
open Go.RowKit
def anyB3 (N m:Nat) (hv:List Nat) (all:List Oper):Bool :=
 let bs:=befs all []
 (all.all fun o=>operOk N o && noDefer o) &&
 (all.zipIdx.all fun (o,j)=>(o.after.toList.all fun e=>!Region.binds .any e || decide (e.on<j)) &&
  (all.zipIdx.all fun (o',i)=>!decide (i<j) || (!(decide (m≤j) || confB all o' o || (hv.contains i && hv.contains j) || (hv.contains (2000+i) && hv.contains (1000+j)) || (hv.contains (1000+i) && hv.contains (2000+j)))) || mustB bs i j))
structure AnyOk3 (N m:Nat) (hv:List Nat) (all:List Oper):Prop where
 base:AnyOk N m all
 od1:∀(i j:Nat) o' o,i<j→all[i]?=some o'→all[j]?=some o→hv.contains (2000+i)=true→hv.contains (1000+j)=true→mustB (befs all []) i j=true
 od2:∀(i j:Nat) o' o,i<j→all[i]?=some o'→all[j]?=some o→hv.contains (1000+i)=true→hv.contains (2000+j)=true→mustB (befs all []) i j=true
 hv:∀(i j:Nat) o' o,i<j→all[i]?=some o'→all[j]?=some o→hv.contains i=true→hv.contains j=true→mustB (befs all []) i j=true
theorem anyB3_spec {N m:Nat} {hv:List Nat} {all:List Oper} (h:anyB3 N m hv all=true):AnyOk3 N m hv all:=by
 simp only[anyB3,Bool.and_eq_true] at h
 obtain ⟨h1,h2⟩:=h
 rw[List.all_eq_true] at h1 h2
 have mem:∀{j:Nat} {o:Oper},all[j]?=some o→(o,j)∈all.zipIdx:=fun {j o} hj=>by
  rw[List.mem_zipIdx_iff_getElem?];exact hj
 have key:∀(i j:Nat) o' o,i<j→all[i]?=some o'→all[j]?=some o→(decide (m≤j) || confB all o' o || (hv.contains i && hv.contains j) || (hv.contains (2000+i) && hv.contains (1000+j)) || (hv.contains (1000+i) && hv.contains (2000+j)))=true→mustB (befs all []) i j=true:=by
  intro i j o' o hij hi hj hc
  have:=h2 (o,j) (mem hj)
  simp only[Bool.and_eq_true,List.all_eq_true] at this
  have:=this.2 (o',i) (mem hi)
  simp only[hij,decide_true,Bool.not_true,Bool.false_or] at this
  rw[hc] at this
  simpa using this
 refine ⟨⟨fun j o hj=>?_,fun j o hj e he hb=>?_,fun i j o' o hij hi hj hc=>?_⟩,fun i j o' o hij hi hj h1 h2=>key i j o' o hij hi hj (by rw[h1,h2];simp),fun i j o' o hij hi hj h1 h2=>key i j o' o hij hi hj (by rw[h1,h2];simp),fun i j o' o hij hi hj h1 h2=>key i j o' o hij hi hj (by rw[h1,h2];simp)⟩
 ·have:=h1 o (List.mem_of_getElem? hj)
  simpa using this
 ·have:=h2 (o,j) (mem hj)
  simp only[Bool.and_eq_true,List.all_eq_true] at this
  have:=this.1 e he
  simp only[hb,Bool.not_true,Bool.false_or,decide_eq_true_eq] at this
  exact this
 ·refine key i j o' o hij hi hj ?_
  rcases hc with hc | hc
  ·simp[hc]
  ·simp[hc]
section go
variable {P:Program} {N L m mm B:Nat} {base:Nat×Nat} {hv:List Nat} {ro:Option Nat} {all:List Oper} {Φ:Exit→Act→World→Prop}
theorem any_mix (hA:AnyOk3 N m hv all) {Z0:Nat→Prop} {G0:List (Option OG)} {FP0:Nat→List Nat} {ds:List Nat} {T0:Nat→HV} {H0:Heap} {xs:List HV} {hs:List Heap} {w0:World} (hc0:CertNL P base hv all 0 (all.take m) T0 H0 xs hs) (hml:m≤all.length)
  (hB:∀Z FP w,Evo Z0 FP0 w0 Z FP w→Bo ro B FP w)
  (hend:∀Z G FP a w,St N B Z G FP ds (runM (fun _=>true) 0 (all.take m) xs T0) (heapAt H0 hs m) a w→GLt L G0 G→Evo Z0 FP0 w0 Z FP w→wpListIn (Wd ro) mm P all.toArray Φ (all.drop m) a w) :
  ∀(fuel:Nat) (listed:Array Bool) (c:Nat) (Z:Nat→Prop) (G:List (Option OG)) (FP:Nat→List Nat) (a:Act) (w:World),listed.size=all.length→left listed≤fuel→Closed all listed→(∀j,m≤j→j<all.length→listed.getD j false=false)→
  c≤m→(∀(j:Nat),j<m→hv.contains j=true→(listed.getD j false=true↔j<c))→
  St N B Z G FP ds (runM (fun k=>listed.getD k false) 0 (all.take m) xs T0) (heapAt H0 hs c) a w→GLt L G0 G→Evo Z0 FP0 w0 Z FP w→wpAnyIn (Wd ro) mm P .any all.toArray Φ fuel listed a w:=by
 have hlm:(all.take m).length=m:=by rw[List.length_take];omega
 have fin:∀(listed:Array Bool) (c:Nat) (Z:Nat→Prop) (G:List (Option OG)) (FP:Nat→List Nat) (a:Act) (w:World),c≤m→(∀k,k<m→listed.getD k false=true)→(∀(j:Nat),j<m→hv.contains j=true→(listed.getD j false=true↔j<c))→
   St N B Z G FP ds (runM (fun k=>listed.getD k false) 0 (all.take m) xs T0) (heapAt H0 hs c) a w→GLt L G0 G→Evo Z0 FP0 w0 Z FP w→wpListIn (Wd ro) mm P all.toArray Φ (all.drop m) a w:=by
  intro listed c Z G FP a w hcm hall hcl hs' hG hE
  have hTe:runM (fun k=>listed.getD k false) 0 (all.take m) xs T0=runM (fun _=>true) 0 (all.take m) xs T0:=by
   funext t
   refine runM_at _ _ _ _ _ rfl fun j hj=>?_
   obtain ⟨oj,h1,h2,h3⟩:=take_dst hj
   simp only[Nat.zero_add]
   exact hall j h3
  have hHe:heapAt H0 hs m=heapAt H0 hs c:=heapAt_same hc0 m c hcm (by omega) fun j h1 h2=>by
   cases hv' : hv.contains j with
   | false=>rfl
   | true=>have:=(hcl j h2 hv').1 (hall j h2);omega
  exact hend Z G FP a w (by rw[←hTe,hHe];exact hs') hG hE
 intro fuel
 induction fuel with
 | zero =>
  intro listed c Z G FP a w hsz hf hc hm hcm hcl hs' hG hE
  have hall:=left_zero (Nat.le_zero.1 hf)
  have hml' : all.length≤m:=by
   rcases Nat.lt_or_ge m all.length with h | h
   ·have h1:=hm m (Nat.le_refl _) h
    rw[hall m (by omega)] at h1;cases h1
   ·exact h
  have hno:Region.ready .any all.toArray listed=[]:=by
   rw[List.eq_nil_iff_forall_not_mem]
   intro i hi
   obtain ⟨h1,o,ho,_⟩:=mem_ready.1 hi
   rw[List.getElem?_toArray] at ho
   have hi':=(List.getElem?_eq_some_iff.1 ho).1
   have h2:=hall i (by omega)
   rw[Array.getD_eq_getD_getElem?,not_listed h1] at h2
   simp at h2
  refine ⟨hno,?_⟩
  have:=fin listed c Z G FP a w hcm (fun k hk=>hall k (by omega)) hcl hs' hG hE
  rw[List.drop_eq_nil_of_le hml'] at this
  exact this
 | succ fuel ih =>
  intro listed c Z G FP a w hsz hf hc hm hcm hcl hs' hG hE
  by_cases hall:∀k,k<m→listed.getD k false=true
  ·have h:=fin listed c Z G FP a w hcm hall hcl hs' hG hE
   refine any_tail hA.base (all.drop m) m (fuel+1) listed a w rfl (Nat.le_refl _) hml hsz hf hc (fun i hi=>⟨fun hx=>?_,fun hx=>hall i hx⟩) h
   rcases Nat.lt_or_ge i m with h' | h'
   ·exact h'
   ·rw[hm i h' hi] at hx;cases hx
  ·have hex:∃k,k<m∧listed.getD k false=false:=by
    apply Classical.byContradiction
    intro hn
    refine hall fun k h1=>?_
    cases hx:listed.getD k false with
    | true=>rfl
    | false=>exact absurd ⟨k,h1,hx⟩ hn
   obtain ⟨k,⟨hk1,hk3⟩,hkl⟩:=exists_least (p:=fun k=>k<m∧listed.getD k false=false) hex
   have hkr:k∈Region.ready .any all.toArray listed:=ready_least hA.base hsz (by omega) hk3 (fun j hj=>by
    cases hx:listed.getD j false with
    | true=>rfl
    | false=>have:=hkl j ⟨by omega,hx⟩;omega)
   refine ⟨fun h0=>by rw[h0] at hkr;simp at hkr,fun i hi=>?_⟩
   obtain ⟨h1,o,ho,ha⟩:=mem_ready.1 hi
   rw[List.getElem?_toArray] at ho
   have hil:=(List.getElem?_eq_some_iff.1 ho).1
   have hnl:=not_listed h1
   have hnf:listed.getD i false=false:=by rw[Array.getD_eq_getD_getElem?,hnl];rfl
   have him:i<m:=by
    rcases Nat.lt_or_ge i m with h' | h'
    ·exact h'
    ·have:=ready_must hA.base hc hi (hA.base.ord k i _ o (by omega) (List.getElem?_eq_getElem (show k<all.length by omega)) ho (.inl h'))
     rw[hk3] at this;cases this
   have hoT:(all.take m)[i]?=some o:=by rw[List.getElem?_take,if_pos him];exact ho
   obtain ⟨x,hx,hcert⟩:=CertNL_at (all.take m) xs hs 0 i T0 H0 o hc0 hoT
   obtain ⟨hok,hnd⟩:=hA.base.ok i o ho
   have hsee:∀t∈seenT all o,runM (fun k=>decide (k<0+i)) 0 (all.take m) xs T0 t=runM (fun k=>listed.getD k false) 0 (all.take m) xs T0 t:=by
    intro t ht
    refine runM_at _ _ _ _ _ rfl fun j hj=>?_
    obtain ⟨oj,hoj,hd,hjm⟩:=take_dst hj
    simp only[Nat.zero_add]
    rcases Nat.lt_trichotomy j i with h' | h' | h'
    ·have:=ready_must hA.base hc hi (hA.base.ord j i oj o h' hoj ho (.inr (by simp[confB,hd,ht])))
     rw[this];simp[h']
    ·subst h';rw[hnf];simp
    ·have hjl:=(List.getElem?_eq_some_iff.1 hoj).1
     cases hx:listed.getD j false with
     | false=>simp;omega
     | true =>
      have:=closed_must hA.base hc j i oj hoj (hc j oj hoj hx) (hA.base.ord i j o oj h' ho hoj (.inr (by
       unfold confB
       rw[hd]
       simp[ht])))
      rw[hnf] at this;cases this
   have hcert':=CertN_congr hsee hcert
   rw[Nat.zero_add] at hcert'
   have hdall:all.all (dstOk N)=true:=by
    rw[List.all_eq_true]
    intro o' ho'
    obtain ⟨j',hj'⟩:=List.mem_iff_getElem?.1 ho'
    have:=(hA.base.ok j' o' hj').1
    simp only[operOk,Bool.and_eq_true] at this
    exact this.1
   have heavyAt:hv.contains i=true→heapAt H0 hs c=heapAt H0 hs i∧c≤i:=fun hvi=>by
    have hci:c≤i:=by
     rcases Nat.lt_or_ge i c with h | h
     ·have:=(hcl i him hvi).2 h;rw[hnf] at this;cases this
     ·exact h
    refine ⟨(heapAt_same hc0 i c hci (by omega) fun j h1 h2=>?_).symm,hci⟩
    cases hv' : hv.contains j with
    | false=>rfl
    | true =>
     have:=ready_must hA.base hc hi (hA.hv j i _ o h2 (List.getElem?_eq_getElem (show j<all.length by omega)) ho hv' hvi)
     have:=(hcl j (by omega) hv').1 this
     omega
   have hquiet0:SameTo base.1 (heapAt H0 hs i) (heapAt H0 hs c):=by
    rcases Nat.lt_or_ge i c with h | h
    ·exact (heapAt_mono hc0 c i (by omega) (by omega)).1
    ·intro id hid
     exact ((heapAt_mono hc0 i c h (by omega)).1 id hid).symm
   have hquiet:hv.contains i=false→SameTo (bsO hv base i) (heapAt H0 hs i) (heapAt H0 hs c):=fun hvi0=>by
    cases hod:hv.contains (1000+i) with
    | false =>
     have:bsO hv base i=base.1:=by unfold bsO;rw[if_neg (by rw[hvi0];simp),if_neg (by rw[hod];simp)]
     rw[this];exact hquiet0
    | true =>
     have:bsO hv base i=base.2:=by unfold bsO;rw[if_neg (by rw[hvi0];simp),if_pos hod]
     rw[this]
     rcases Nat.lt_or_ge i c with h | h
     ·refine (heapAt_mono2 hc0 c i (by omega) (by omega) fun j h1 h2 hv' hw=>?_).1
      have hjl:j<all.length:=by omega
      have hlj:=(hcl j (by omega) hv').2 h2
      rcases Nat.lt_or_ge i j with h3 | h3
      ·have:=closed_must hA.base hc j i all[j] (List.getElem?_eq_getElem hjl) (hc j all[j] (List.getElem?_eq_getElem hjl) hlj) (hA.od2 i j o all[j] h3 ho (List.getElem?_eq_getElem hjl) hod hw)
       rw[hnf] at this;cases this
      ·obtain rfl:i=j:=by omega
       rw[hnf] at hlj;cases hlj
     ·intro id hid
      refine ((heapAt_mono2 hc0 i c h (by omega) fun j h1 h2 hv' hw=>?_).1 id hid).symm
      have:=ready_must hA.base hc hi (hA.od1 j i _ o h2 (List.getElem?_eq_getElem (show j<all.length by omega)) ho hw hod)
      have:=(hcl j (by omega) hv').1 this
      omega
   have hadd:=left_add hnl
   have hcl2:=closed_add hc (fun o' ho' e he hb=>by rw[ho] at ho';cases ho';exact ha e (by simpa using he) hb)
   have hT:runM (fun k=>(listed.setIfInBounds i true).getD k false) 0 (all.take m) xs T0=updO (runM (fun k=>listed.getD k false) 0 (all.take m) xs T0) o.dst x:=by
    refine runM_add (all.take m) xs 0 i T0 o x hoT hx ?_ ?_ ?_ ?_
    ·simp only[Nat.zero_add];exact getD_set_self (by omega)
    ·simp only[Nat.zero_add];exact hnf
    ·intro k hk
     simp only[Nat.zero_add] at hk
     simp only[Array.getD_eq_getD_getElem?,Array.getElem?_setIfInBounds_ne (Ne.symm hk)]
    ·intro k hk hS t ht hdk
     simp only[Nat.zero_add] at hS
     obtain ⟨ok,hok',hd,_⟩:=take_dst hdk
     have:=closed_must hA.base hc k i ok hok' (hc k ok hok' hS) (hA.base.ord i k o ok hk ho hok' (.inr (by
      unfold confB
      rw[ht]
      simp[hd])))
     rw[hnf] at this;cases this
   have hm2:∀j,m≤j→j<all.length→(listed.setIfInBounds i true).getD j false=false:=fun j h1 h2=>by
    cases hx:(listed.setIfInBounds i true).getD j false with
    | false=>rfl
    | true =>
     rcases getD_set_listed hx with rfl | hx
     ·omega
     ·rw[hm j h1 h2] at hx;cases hx
   cases hvi:hv.contains i with
   | true =>
    rw[hvi] at hcert'
    obtain ⟨hHc,hci⟩:=heavyAt hvi
    refine certN_run (L:=L) (Hn:=heapAt H0 hs (i+1)) hdall ho hok hnd hcert' hs' (hB Z FP w hE) hG.len (fun h=>by cases h) (fun _=>⟨hHc,rfl⟩) fun Z' G' FP' a' w' hs2 hG' hE'=>?_
    refine ih (listed.setIfInBounds i true) (i+1) Z' G' FP' a' w' (by simpa using hsz) (by omega) hcl2 hm2 (by omega) (fun j hj hv'=>?_) (by rw[hT];exact hs2) (hG.trans hG') (hE.trans hE')
    constructor
    ·intro hxx
     rcases getD_set_listed hxx with rfl | hxx
     ·omega
     ·have:=(hcl j hj hv').1 hxx;omega
    ·intro hlt
     by_cases e:j=i
     ·subst e;exact getD_set_self (by omega)
     ·refine getD_set_keep ?_
      exact ready_must hA.base hc hi (hA.hv j i _ o (by omega) (List.getElem?_eq_getElem (show j<all.length by omega)) ho hv' hvi)
   | false =>
    rw[hvi] at hcert'
    refine certN_run (L:=L) (Hn:=heapAt H0 hs c) hdall ho hok hnd hcert' hs' (hB Z FP w hE) hG.len (fun _=>⟨rfl,hquiet hvi⟩) (fun h=>by cases h) fun Z' G' FP' a' w' hs2 hG' hE'=>?_
    refine ih (listed.setIfInBounds i true) c Z' G' FP' a' w' (by simpa using hsz) (by omega) hcl2 hm2 hcm (fun j hj hv'=>?_) (by rw[hT];exact hs2) (hG.trans hG') (hE.trans hE')
    rw[←hcl j hj hv']
    constructor
    ·intro hxx
     rcases getD_set_listed hxx with rfl | hxx
     ·rw[hvi] at hv';cases hv'
     ·exact hxx
    ·exact getD_set_keep
end go
section
variable {P:Program} {N L base:Nat} {hv:List Nat} {Q:Exit→KS} {H:Heap}
def isTo:Nat→Heap→Heap→Prop
 | 0,_,_=>True
 | m+1,a::t,b::u=>a=b∧isTo m t u
 | _,_,_=>False
theorem isTo_spec:∀{m:Nat} {H H' : Heap},isTo m H H'→SameTo m H H'
 | 0,_,_,_=>fun id h=>absurd h (Nat.not_lt_zero _)
 | m+1,a::t,b::u,h=>by
  obtain ⟨rfl,h⟩:=h
  intro id hid
  cases id with
  | zero=>rfl
  | succ id=>simpa using isTo_spec h id (by omega)
 | _+1,[],_,h=>by simp[isTo] at h
 | _+1,_::_,[],h=>by simp[isTo] at h
def exRm (k:KS) (base:Nat) (res:Res) (d:Option Nat) (T:Nat→HV) (H:Heap):Prop:=onR res fun x H'=>isTo base H H'∧H.length≤H'.length∧k (updO T d x) H'
def exRn (k:KS) (res:Res) (d:Option Nat) (T:Nat→HV) (H:Heap):Prop:=onR res fun x _=>k (updO T d x) H
def callM (k:KS) (P:Program) (fid:Nat) (H:Heap) (args:List HV) (d:Option Nat) (T:Nat→HV):Prop :=
 ∃n R args',HFn P fid args' R∧LendOk n H args args' R∧k (updO T d (nameV R H).1) (nameV R H).2
def exCallM (k:KS) (P:Program) (f:HV) (H:Heap) (args:List HV) (d:Option Nat) (T:Nat→HV):Prop :=
 match f with
 | .fn fid caps=>callM k P (fnF fid) H (fnA fid .any args caps) d T
 | _=>False
def exInvM2 (k:KS) (P:Program) (f:Option Nat) (H:Heap) (args:List HV) (d:Option Nat) (T:Nat→HV):Prop :=
 match f with
 | some fid=>callM k P fid H args d T
 | none=>False
def exInvM (k:KS) (P:Program) (rv:HV) (name:String) (H:Heap) (args:List HV) (d:Option Nat) (T:Nat→HV):Prop :=
 match rv with
 | .ic t x=>exInvM2 k P (methodFn P t name) H (x::args) d T
 | _=>False
def callN (k:KS) (P:Program) (fid:Nat) (H:Heap) (args:List HV) (d:Option Nat) (T:Nat→HV):Prop :=
 ∃R,HFn P fid args R∧nmL 0 args=true∧k (updO T d (fzo R)) H
def exCallN (k:KS) (P:Program) (f:HV) (H:Heap) (args:List HV) (d:Option Nat) (T:Nat→HV):Prop :=
 match f with
 | .fn fid caps=>callN k P (fnF fid) H (fnA fid .any args caps) d T
 | _=>False
def exInvN2 (k:KS) (P:Program) (f:Option Nat) (H:Heap) (args:List HV) (d:Option Nat) (T:Nat→HV):Prop :=
 match f with
 | some fid=>callN k P fid H args d T
 | none=>False
def exInvN (k:KS) (P:Program) (rv:HV) (name:String) (H:Heap) (args:List HV) (d:Option Nat) (T:Nat→HV):Prop :=
 match rv with
 | .ic t x=>exInvN2 k P (methodFn P t name) H (x::args) d T
 | _=>False
def exOm (k:KS) (P:Program) (base:Nat) (d:Option Nat) (op:Op) (T:Nat→HV) (H:Heap):Prop :=
 match op with
 | .call { callee:=.value f,args:=args,argTypes:=_ }=>base≤H.length∧exCallM k P (hev T f) H (args.toList.map (hev T)) d T
 | .call { callee:=.invoke rv name,args:=args,argTypes:=_ }=>base≤H.length∧exInvM k P (hev T rv) name H (args.toList.map (hev T)) d T
 | op=>exRm k base (rop P T H op) d T H
def exOn (k:KS) (P:Program) (base:Nat) (d:Option Nat) (op:Op) (T:Nat→HV) (H:Heap):Prop :=
 match op with
 | .call { callee:=.value f,args:=args,argTypes:=_ }=>exCallN k P (hev T f) H (args.toList.map (hev T)) d T
 | .call { callee:=.invoke rv name,args:=args,argTypes:=_ }=>exInvN k P (hev T rv) name H (args.toList.map (hev T)) d T
 | .buildSlice t len parts=>exRn k (rbuildSliceF P T H t len parts.toList) d T H
 | op=>(indep op=true∨(op.operands.toList.all fun y=>nm base (hev T y))=true)∧exRn k (ropQ P T H op) d T H
def exOe (k:KS) (P:Program) (base:Nat) (h:Bool) (d:Option Nat) (op:Op) (T:Nat→HV) (H:Heap):Prop :=
 match h with
 | true=>exOm k P base d op T H
 | false=>exOn k P base d op T H
def exBm2 (k:KS) (P:Program) (base:Nat) (h:Bool) (v:HV) (b:Bool) (d:Option Nat) (op:Op) (T:Nat→HV) (H:Heap):Prop :=
 match v with
 | .v (.bool c)=>(c=b→exOe k P base h d op T H)∧(c=(!b)→k (updO T d (.v undef)) H)
 | .v (.tuple _)=>k (updO T d (.v undef)) H
 | _=>False
def exBm (k:KS) (P:Program) (base:Nat) (h:Bool) (t:Option Nat) (b:Bool) (d:Option Nat) (op:Op) (T:Nat→HV) (H:Heap):Prop :=
 match t with
 | some t=>exBm2 k P base h (T t) b d op T H
 | none=>False
def exGm (P:Program) (base:Nat) (h:Bool) (all:List Oper) (o:Oper) (k:KS) (T:Nat→HV) (H:Heap):Prop :=
 match o.guard with
 | none=>exOe k P base h o.dst o.op T H
 | some (j,b)=>exBm k P base h (dstAt all j) b o.dst o.op T H
def exM (P:Program) (base:Nat×Nat) (hv:List Nat) (all:List Oper) (k:KS):Nat→List Oper→KS
 | _,[]=>k
 | j,o::l=>fun T H=>exGm P (bsO hv base j) (hv.contains j) all o (exM P base hv all k (j+1) l) T H
theorem exOm_cert {k:KS} {d:Option Nat} {op:Op} {T:Nat→HV} (h:exOm k P base d op T H):∃x H',CertM P base T H op x H'∧k (updO T d x) H':=by
 have named:∀(R:HV),base≤H.length→SameTo base H (nameV R H).2∧H.length≤(nameV R H).2.length:=fun R hb=>by
  obtain ⟨B,hB⟩:=nameV_app R H
  rw[hB]
  exact ⟨SameTo.app B hb,by simp⟩
 unfold exOm at h
 split at h
 ·rename_i f args tys
  obtain ⟨hb,h⟩:=h
  unfold exCallM at h
  split at h
  ·rename_i fid caps hf
   obtain ⟨n,R,args',h1,h2,h3⟩:=h
   obtain ⟨k1,k2⟩:=named R hb
   exact ⟨_,_,⟨k1,k2,.inl ⟨f,args,tys,fid,caps,n,R,args',rfl,hf,h1,h2,rfl⟩⟩,h3⟩
  ·exact h.elim
 ·rename_i rv name args tys
  obtain ⟨hb,h⟩:=h
  unfold exInvM at h
  split at h
  ·rename_i t y hf
   unfold exInvM2 at h
   split at h
   ·rename_i fid hm
    obtain ⟨n,R,args',h1,h2,h3⟩:=h
    obtain ⟨k1,k2⟩:=named R hb
    exact ⟨_,_,⟨k1,k2,.inr (.inl ⟨rv,name,args,tys,t,y,fid,n,R,args',rfl,hf,hm,h1,h2,rfl⟩)⟩,h3⟩
   ·exact h.elim
  ·exact h.elim
 ·unfold exRm at h
  cases hr:rop P T H op with
  | none=>rw[hr] at h;exact h.elim
  | some q =>
   obtain ⟨p,x,H'⟩:=q
   rw[hr] at h
   exact ⟨x,H',⟨isTo_spec h.2.1,h.2.2.1,.inr (.inr ⟨p,h.1,hr⟩)⟩,h.2.2.2⟩
theorem exOn_cert {k:KS} {d:Option Nat} {op:Op} {T:Nat→HV} (h:exOn k P base d op T H):∃x,CertQ P base T H op x∧k (updO T d x) H:=by
 unfold exOn at h
 split at h
 ·rename_i f args tys
  unfold exCallN at h
  split at h
  ·rename_i fid caps hf
   obtain ⟨R,h1,h2,h3⟩:=h
   exact ⟨_,.inr (.inl ⟨f,args,tys,fid,caps,R,rfl,hf,h1,h2,rfl⟩),h3⟩
  ·exact h.elim
 ·rename_i rv name args tys
  unfold exInvN at h
  split at h
  ·rename_i t y hf
   unfold exInvN2 at h
   split at h
   ·rename_i fid hm
    obtain ⟨R,h1,h2,h3⟩:=h
    exact ⟨_,.inr (.inr (.inl ⟨rv,name,args,tys,t,y,fid,R,rfl,hf,hm,h1,h2,rfl⟩)),h3⟩
   ·exact h.elim
  ·exact h.elim
 ·rename_i t len parts
  unfold exRn at h
  cases hr:rbuildSliceF P T H t len parts.toList with
  | none=>rw[hr] at h;exact h.elim
  | some q =>
   obtain ⟨p,x,H'⟩:=q
   rw[hr] at h
   exact ⟨x,.inr (.inr (.inr ⟨t,len,parts,p,H',rfl,h.1,hr⟩)),h.2⟩
 ·obtain ⟨hi,h⟩:=h
  unfold exRn at h
  cases hr:ropQ P T H op with
  | none=>rw[hr] at h;exact h.elim
  | some q =>
   obtain ⟨p,x,H'⟩:=q
   rw[hr] at h
   exact ⟨x,.inl ⟨p,H',h.1,hr,hi.imp id fun hi y hy=>List.all_eq_true.1 hi y hy⟩,h.2⟩
theorem exOe_cert {k:KS} {d:Option Nat} {h0:Bool} {op:Op} {T:Nat→HV} (h:exOe k P base h0 d op T H):∃x H',CertE P base h0 T H op x H'∧k (updO T d x) H':=by
 cases h0 with
 | true=>exact exOm_cert h
 | false =>
  obtain ⟨x,h1,h2⟩:=exOn_cert h
  exact ⟨x,H,⟨h1,rfl⟩,h2⟩
theorem exGm_cert {all:List Oper} {h0:Bool} {o:Oper} {k:KS} {T:Nat→HV} (h:exGm P base h0 all o k T H):∃x H',CertN P base h0 all T H o x H'∧k (updO T o.dst x) H':=by
 unfold exGm at h
 unfold CertN
 split at h
 ·rename_i hg
  try rw[hg]
  exact exOe_cert h
 ·rename_i j b hg
  try rw[hg]
  try simp only
  unfold exBm at h
  split at h
  ·rename_i t ht
   unfold exBm2 at h
   split at h
   ·rename_i c hv
    by_cases hcb:c=b
    ·obtain ⟨x,H',h1,h2⟩:=exOe_cert (h.1 hcb)
     exact ⟨x,H',⟨t,ht,.inl ⟨c,hv,fun _=>h1,fun hc=>by subst hcb;cases c <;> simp at hc⟩⟩,h2⟩
    ·have hc:c=(!b):=by cases c <;> cases b <;> simp_all
     exact ⟨.v undef,H,⟨t,ht,.inl ⟨c,hv,fun hc'=>absurd hc' hcb,fun _=>⟨rfl,rfl⟩⟩⟩,h.2 hc⟩
   ·rename_i ts hv
    exact ⟨.v undef,H,⟨t,ht,.inr ⟨ts,hv,rfl,rfl⟩⟩,h⟩
   ·exact h.elim
  ·exact h.elim
theorem exM_cert {base:Nat×Nat} {all:List Oper} {k:KS}:∀(l:List Oper) (i:Nat) (T:Nat→HV) (H:Heap),exM P base hv all k i l T H→∃xs hs,CertNL P base hv all i l T H xs hs∧k (runM (fun _=>true) i l xs T) (heapAt H hs l.length)
 | [],i,T,H,h=>⟨[],[],⟨rfl,rfl⟩,h⟩
 | o::l,i,T,H,h=>by
  obtain ⟨x,H',h1,h2⟩:=exGm_cert h
  obtain ⟨xs,hs,h3,h4⟩:=exM_cert l (i+1) _ H' h2
  exact ⟨x::xs,H'::hs,⟨x,H',xs,hs,rfl,rfl,h1,h3⟩,h4⟩
theorem HW.mixed {id:Nat} {all:List Oper} {T:Nat→HV} (n m:Nat) (base:Nat×Nat) (hv:List Nat) (hm:P.follows .mixedOrders=true) (hB:anyB3 N m hv all=true) (hml:m≤all.length)
  (h:exM P base hv all (ex P N L Q n [.ops all (all.drop m)]) 0 (all.take m) T H):HW P N L (.region id all.toArray true) Q T H:=by
 obtain ⟨xs,hs,hc,hex⟩:=exM_cert (all.take m) 0 T H h
 have hlm:(all.take m).length=m:=by rw[List.length_take];omega
 rw[hlm] at hex
 intro ro mm B Z G FP ds a w hB' hL hst
 have hA:=anyB3_spec hB
 have hEv:Evo Z FP w Z FP { w with drawn:=w.drawn+1 }:=⟨rfl,rfl,rfl,Nat.le_refl _,fun _ _ _=>rfl,fun _ h=>h,fun _ h=>.inl h,fun id b hb=>.inr ⟨id,hb⟩⟩
 have hi:HInv Z G FP H { w with drawn:=w.drawn+1 }:=hst.inv.keep (Nat.le_refl _) (fun _ _=>rfl)
 have hs':=hst.evo hi (GLe.refl _) hEv
 have hallok:(all.all fun o=>operOk N o && noDefer o)=true:=by
  rw[List.all_eq_true]
  intro o ho
  obtain ⟨j,hj⟩:=List.mem_iff_getElem?.1 ho
  have:=hA.base.ok j o hj
  simp[this.1,this.2]
 have hdrop:((all.drop m).all fun o=>operOk N o && noDefer o)=true:=by
  rw[List.all_eq_true]
  intro o ho
  exact List.all_eq_true.1 hallok o (List.mem_of_mem_drop ho)
 refine wpIn_region_any hm ?_
 refine any_mix (m:=m) (B:=B) (L:=L) (Z0:=Z) (G0:=G) (FP0:=FP) (ds:=ds) (w0:=w) hA hc hml (fun Z' FP' w' hE=>hB'.evo hE) ?_ _ _ 0 Z G FP _ _ (by simp) ?_ ?_ (fun j h1 h2=>?_) (Nat.zero_le _) (fun j hj hv=>?_) ?_ (GLt.refl hL) hEv
 ·intro Z1 G1 FP1 a1 w1 hs1 hG1 hE1
  have:=ex_run n [.ops all (all.drop m)] _ _ hex (by simp[itemOk,hallok,hdrop]) ro mm B Z G FP w Z1 G1 FP1 ds a1 w1 (hB'.evo hE1) hs1 hG1 hE1
  simp only[M] at this
  exact this
 ·have:∀k:Nat,left (Array.replicate k false)=k:=by intro k;simp[left]
  rw[this];simp
 ·intro j o hj hl
  exfalso
  have hjl:=(List.getElem?_eq_some_iff.1 hj).1
  simp[Array.getD_eq_getD_getElem?,hjl] at hl
 ·simp[Array.getD_eq_getD_getElem?,h2]
 ·simp[Array.getD_eq_getD_getElem?,show j<all.length by omega]
 ·have e:runM (fun k=>(Array.replicate all.toArray.size false).getD k false) 0 (all.take m) xs T=T:=by
   funext t
   rw[runM_no]
   intro j _
   simp only[Array.getD_eq_getD_getElem?]
   by_cases hlt:0+j<all.toArray.size
   ·have:0+j<all.length:=by simpa using hlt
    rw[Array.getElem?_eq_getElem (by simpa using hlt)]
    simp
   ·rw[Array.getElem?_eq_none (by simpa using hlt)];rfl
  rw[e]
  exact hs'
end
end Go.Proofs.YtmapdjdnnhlpiaaGreatDoor
namespace Go.Proofs.YtmapdjdnnhlpiaaGreatDoor
open Go.RowKit
section
variable {P:Program} {all l:List Oper} {k:KS} {d:Option Nat} {T:Nat→HV} {H:Heap} {base j:Nat} {bs:Nat×Nat} {hv:List Nat} {h:Bool}
theorem exM_nil:exM P bs hv all k j [] T H=k T H:=rfl
theorem exM_op {op:Op} {ty:TypeId} {pos:String} {af:Array Edge}:exM P bs hv all k j (⟨d,op,ty,pos,af,none⟩::l) T H=exOe (exM P bs hv all k (j+1) l) P (bsO hv bs j) (hv.contains j) d op T H:=rfl
theorem exM_opg {op:Op} {ty:TypeId} {pos:String} {af:Array Edge} {i:Nat} {b:Bool}:exM P bs hv all k j (⟨d,op,ty,pos,af,some (i,b)⟩::l) T H=exBm (exM P bs hv all k (j+1) l) P (bsO hv bs j) (hv.contains j) (dstAt all i) b d op T H:=rfl
theorem exOe_true {op:Op}:exOe k P base true d op T H=exOm k P base d op T H:=rfl
theorem exOe_false {op:Op}:exOe k P base false d op T H=exOn k P base d op T H:=rfl
theorem exOe_congr {h h' : Bool} {op:Op} (e:h=h'):exOe k P base h d op T H=exOe k P base h' d op T H:=by rw[e]
theorem exBm_some {t:Nat} {b:Bool} {op:Op}:exBm k P base h (some t) b d op T H=exBm2 k P base h (T t) b d op T H:=rfl
theorem exBm2_tt {op:Op}:exBm2 k P base h (.v (.bool true)) true d op T H=exOe k P base h d op T H:=by simp[exBm2]
theorem exBm2_ff {op:Op}:exBm2 k P base h (.v (.bool false)) false d op T H=exOe k P base h d op T H:=by simp[exBm2]
theorem exBm2_tf {op:Op}:exBm2 k P base h (.v (.bool true)) false d op T H=k (updO T d (.v undef)) H:=by simp[exBm2]
theorem exBm2_ft {op:Op}:exBm2 k P base h (.v (.bool false)) true d op T H=k (updO T d (.v undef)) H:=by simp[exBm2]
theorem exBm2_undef {b:Bool} {op:Op}:exBm2 k P base h (.v undef) b d op T H=k (updO T d (.v undef)) H:=rfl
theorem exBm2_bool {c b:Bool} {op:Op}:exBm2 k P base h (.v (.bool c)) b d op T H=((c=b→exOe k P base h d op T H)∧(c=(!b)→k (updO T d (.v undef)) H)):=rfl
theorem exRn_rv {p:Prop} {x:HV} {H' : Heap}:exRn k (rv H' p x) d T H=(p∧k (updO T d x) H):=rfl
theorem exRn_none:exRn k none d T H=False:=rfl
theorem exRm_some {p:Prop} {x:HV} {H' : Heap}:exRm k base (some (p,x,H')) d T H=(p∧isTo base H H'∧H.length≤H'.length∧k (updO T d x) H'):=rfl
theorem exRm_rv {p:Prop} {x:HV} {H' : Heap}:exRm k base (rv H' p x) d T H=(p∧isTo base H H'∧H.length≤H'.length∧k (updO T d x) H'):=rfl
theorem exRm_none:exRm k base none d T H=False:=rfl
theorem exRn_congr {x x' : Res} (e:x=x'):exRn k x d T H=exRn k x' d T H:=by rw[e]
theorem exRm_congr {x x' : Res} (e:x=x'):exRm k base x d T H=exRm k base x' d T H:=by rw[e]
theorem exBm_congr {t t' : Option Nat} {b:Bool} {op:Op} {h h' : Bool} (e:t=t') (e2:h=h'):exBm k P base h t b d op T H=exBm k P base h' t' b d op T H:=by rw[e,e2]
theorem exBm2_congr {v v' : HV} {b:Bool} {op:Op} (e:v=v'):exBm2 k P base h v b d op T H=exBm2 k P base h v' b d op T H:=by rw[e]
theorem exCallM_fn {fid:Nat} {caps args:List HV} (h:fid<4294967296):exCallM k P (.fn fid caps) H args d T=callM k P fid H (args++caps) d T:=by
 show callM k P (fnF fid) H (fnA fid .any args caps) d T=_
 rw[fnF_lt h,fnA_lt h]
theorem exCallM_meth {fid:Nat} {x:HV} {caps args:List HV} (h:¬fid<4294967296):exCallM k P (.fn fid (x::caps)) H args d T=callM k P (fnF fid) H (x::(args++caps)) d T:=by
 show callM k P (fnF fid) H (fnA fid .any args (x::caps)) d T=_
 rw[fnA_ge h];rfl
theorem exCallM_congr {f f' : HV} {args args' : List HV} (hf:f=f') (ha:args=args'):exCallM k P f H args d T=exCallM k P f' H args' d T:=by rw[hf,ha]
theorem exInvM_ic {t:TypeId} {x:HV} {name:String} {args:List HV}:exInvM k P (.ic t x) name H args d T=exInvM2 k P (methodFn P t name) H (x::args) d T:=rfl
theorem exInvM2_some {fid:Nat} {args:List HV}:exInvM2 k P (some fid) H args d T=callM k P fid H args d T:=rfl
theorem exInvM_congr {f f' : HV} {name:String} {args args' : List HV} (hf:f=f') (ha:args=args'):exInvM k P f name H args d T=exInvM k P f' name H args' d T:=by rw[hf,ha]
theorem exInvM2_congr {f f' : Option Nat} {args args' : List HV} (hf:f=f') (ha:args=args'):exInvM2 k P f H args d T=exInvM2 k P f' H args' d T:=by rw[hf,ha]
theorem exCallN_fn {fid:Nat} {caps args:List HV} (h:fid<4294967296):exCallN k P (.fn fid caps) H args d T=callN k P fid H (args++caps) d T:=by
 show callN k P (fnF fid) H (fnA fid .any args caps) d T=_
 rw[fnF_lt h,fnA_lt h]
theorem exCallN_meth {fid:Nat} {x:HV} {caps args:List HV} (h:¬fid<4294967296):exCallN k P (.fn fid (x::caps)) H args d T=callN k P (fnF fid) H (x::(args++caps)) d T:=by
 show callN k P (fnF fid) H (fnA fid .any args (x::caps)) d T=_
 rw[fnA_ge h];rfl
theorem exCallN_congr {f f' : HV} {args args' : List HV} (hf:f=f') (ha:args=args'):exCallN k P f H args d T=exCallN k P f' H args' d T:=by rw[hf,ha]
theorem exInvN_ic {t:TypeId} {x:HV} {name:String} {args:List HV}:exInvN k P (.ic t x) name H args d T=exInvN2 k P (methodFn P t name) H (x::args) d T:=rfl
theorem exInvN2_some {fid:Nat} {args:List HV}:exInvN2 k P (some fid) H args d T=callN k P fid H args d T:=rfl
theorem exInvN_congr {f f' : HV} {name:String} {args args' : List HV} (hf:f=f') (ha:args=args'):exInvN k P f name H args d T=exInvN k P f' name H args' d T:=by rw[hf,ha]
theorem exInvN2_congr {f f' : Option Nat} {args args' : List HV} (hf:f=f') (ha:args=args'):exInvN2 k P f H args d T=exInvN2 k P f' H args' d T:=by rw[hf,ha]
theorem exOm_call {f:Operand} {args:List Operand} {tys:Array TypeId}:exOm k P base d (.call { callee:=.value f,args:=List.toArray args,argTypes:=tys }) T H=(base≤H.length∧exCallM k P (hev T f) H (args.map (hev T)) d T):=rfl
theorem exOm_invoke {rv:Operand} {name:String} {args:List Operand} {tys:Array TypeId}:exOm k P base d (.call { callee:=.invoke rv name,args:=List.toArray args,argTypes:=tys }) T H=(base≤H.length∧exInvM k P (hev T rv) name H (args.map (hev T)) d T):=rfl
theorem exOn_call {f:Operand} {args:List Operand} {tys:Array TypeId}:exOn k P base d (.call { callee:=.value f,args:=List.toArray args,argTypes:=tys }) T H=exCallN k P (hev T f) H (args.map (hev T)) d T:=rfl
theorem exOn_invoke {rv:Operand} {name:String} {args:List Operand} {tys:Array TypeId}:exOn k P base d (.call { callee:=.invoke rv name,args:=List.toArray args,argTypes:=tys }) T H=exInvN k P (hev T rv) name H (args.map (hev T)) d T:=rfl
theorem exOn_buildSlice {t:TypeId} {len:Nat} {ps:List (Nat×Operand)}:exOn k P base d (.buildSlice t len (List.toArray ps)) T H=exRn k (rbuildSliceF P T H t len ps) d T H:=rfl
theorem seesN {op:Op} {q:Prop} {b:Bool} (hi:indep op=false) (hb:(op.operands.toList.all fun y=>nm base (hev T y))=b):((indep op=true∨(op.operands.toList.all fun y=>nm base (hev T y))=true)∧q)=(b=true∧q):=by
 rw[hi,hb];simp
theorem indepN {op:Op} {q:Prop} {r:Prop} (hi:indep op=true):((indep op=true∨r)∧q)=q:=by
 rw[hi];simp
theorem exOn_move {x:Operand}:exOn k P base d (.move x) T H=exRn k (ropQ P T H (.move x)) d T H:=indepN rfl
theorem exOn_assign {x:Operand}:exOn k P base d (.assign x) T H=exRn k (ropQ P T H (.assign x)) d T H:=indepN rfl
theorem exOn_pick {c x y:Operand}:exOn k P base d (.pick c x y) T H=exRn k (ropQ P T H (.pick c x y)) d T H:=indepN rfl
theorem exOn_build {t:TypeId} {ps:Array (Nat×Operand)}:exOn k P base d (.build t ps) T H=exRn k (ropQ P T H (.build t ps)) d T H:=indepN rfl
theorem exOn_bin {op:BinOp} {t t' : TypeId} {x y:Operand}:exOn k P base d (.binOp op t x y t') T H=exRn k (ropQ P T H (.binOp op t x y t')) d T H:=indepN rfl
theorem exOn_un {op:UnOp} {t:TypeId} {x:Operand}:exOn k P base d (.unOp op t x) T H=exRn k (ropQ P T H (.unOp op t x)) d T H:=indepN rfl
theorem exOn_iface {t:TypeId} {x:Operand}:exOn k P base d (.makeInterface t x) T H=exRn k (ropQ P T H (.makeInterface t x)) d T H:=indepN rfl
theorem exOn_meth {f:Nat} {x:Operand} {cs:List Operand}:exOn k P base d (.makeFunc (.func f) (List.toArray [x]) (List.toArray cs)) T H=exRn k (ropQ P T H (.makeFunc (.func f) (List.toArray [x]) (List.toArray cs))) d T H:=indepN rfl
theorem exOn_func {f:Nat} {cs:List Operand}:exOn k P base d (.makeFunc (.func f) #[] (List.toArray cs)) T H=exRn k (ropQ P T H (.makeFunc (.func f) #[] (List.toArray cs))) d T H:=indepN rfl
theorem exOn_field {t:TypeId} {x:Operand} {i:Nat}:exOn k P base d (.field t x i) T H=exRn k (ropQ P T H (.field t x i)) d T H:=indepN rfl
theorem exOn_index {t:TypeId} {x i:Operand}:exOn k P base d (.index t x i) T H=exRn k (ropQ P T H (.index t x i)) d T H:=indepN rfl
theorem exOn_extract {x:Operand} {i:Nat}:exOn k P base d (.extract x i) T H=exRn k (ropQ P T H (.extract x i)) d T H:=indepN rfl
theorem exOn_load {t:TypeId} {a:Operand}:exOn k P base d (.load t a) T H=(nm base (hev T a)=true∧exRn k (ropQ P T H (.load t a)) d T H):=seesN rfl (by simp[Op.operands,Call.operands])
theorem exOn_nilCheck {x:Operand}:exOn k P base d (.nilCheck x) T H=(nm base (hev T x)=true∧exRn k (ropQ P T H (.nilCheck x)) d T H):=seesN rfl (by simp[Op.operands,Call.operands])
theorem exOn_conv {s t:TypeId} {x:Operand}:exOn k P base d (.convert s t x) T H=(nm base (hev T x)=true∧exRn k (ropQ P T H (.convert s t x)) d T H):=seesN rfl (by simp[Op.operands,Call.operands])
theorem exOn_fieldAddr {t:TypeId} {x:Operand} {i:Nat}:exOn k P base d (.fieldAddr t x i) T H=(nm base (hev T x)=true∧exRn k (ropQ P T H (.fieldAddr t x i)) d T H):=seesN rfl (by simp[Op.operands,Call.operands])
theorem exOn_indexAddr {t:TypeId} {x i:Operand}:exOn k P base d (.indexAddr t x i) T H=((nm base (hev T x) && nm base (hev T i))=true∧exRn k (ropQ P T H (.indexAddr t x i)) d T H):=seesN rfl (by simp[Op.operands,Call.operands])
theorem exOn_len {x:Operand} {t:TypeId}:exOn k P base d (.call { callee:=.builtin .len,args:=#[x],argTypes:=#[t] }) T H=(nm base (hev T x)=true∧exRn k (ropQ P T H (.call { callee:=.builtin .len,args:=#[x],argTypes:=#[t] })) d T H):=seesN rfl (by simp[Op.operands,Call.operands])
theorem exOn_max {x y:Operand} {t u:TypeId}:exOn k P base d (.call { callee:=.builtin .max,args:=#[x,y],argTypes:=#[t,u] }) T H=((nm base (hev T x) && nm base (hev T y))=true∧exRn k (ropQ P T H (.call { callee:=.builtin .max,args:=#[x,y],argTypes:=#[t,u] })) d T H):=seesN rfl (by simp[Op.operands,Call.operands])
theorem exOn_min {x y:Operand} {t u:TypeId}:exOn k P base d (.call { callee:=.builtin .min,args:=#[x,y],argTypes:=#[t,u] }) T H=((nm base (hev T x) && nm base (hev T y))=true∧exRn k (ropQ P T H (.call { callee:=.builtin .min,args:=#[x,y],argTypes:=#[t,u] })) d T H):=seesN rfl (by simp[Op.operands,Call.operands])
theorem exOm_alloc {t:TypeId}:exOm k P base d (.alloc t) T H=exRm k base (ralloc P H t) d T H:=rfl
theorem exOm_box {t:TypeId} {x:Operand}:exOm k P base d (.box t x) T H=exRm k base (rbox P H t (hev T x)) d T H:=rfl
theorem exOm_buildSlice {t:TypeId} {len:Nat} {ps:List (Nat×Operand)}:exOm k P base d (.buildSlice t len (List.toArray ps)) T H=exRm k base (rbuildSlice P T H t len ps) d T H:=rfl
theorem exOm_makeSlice {t:TypeId} {x y:Operand}:exOm k P base d (.makeSlice t x y) T H=exRm k base (rmakeSlice P H t (hev T x) (hev T y)) d T H:=rfl
theorem exOm_load {t:TypeId} {a:Operand}:exOm k P base d (.load t a) T H=exRm k base (rload P H t (hev T a)) d T H:=rfl
theorem exOm_store {t:TypeId} {a x:Operand}:exOm k P base d (.store t a x) T H=exRm k base (rstore P H t (hev T a) (hev T x)) d T H:=rfl
theorem exOm_append {s x:Operand} {t:TypeId}:exOm k P base d (.call { callee:=.builtin .append,args:=#[s,x],argTypes:=#[t,t] }) T H=exRm k base (rappend P H t (hev T s) (hev T x)) d T H:=by
 show exRm k base (if t=t then rappend P H t (hev T s) (hev T x) else none) d T H=_
 rw[if_pos rfl]
theorem isTo_zero {H H' : Heap}:isTo 0 H H'=True:=by cases H <;> cases H' <;> rfl
theorem isTo_cons {m:Nat} {a:Option HObj} {t u:Heap}:isTo (m+1) (a::t) (a::u)=isTo m t u:=by simp[isTo]
end
attribute [congr] exRn_congr exRm_congr exBm_congr exBm2_congr exCallM_congr exInvM_congr exInvM2_congr exCallN_congr exInvN_congr exInvN2_congr exOe_congr
attribute [go_sem high] exBm2_tt exBm2_ff exBm2_tf exBm2_ft exBm2_undef exOe_true exOe_false
attribute [go_sem] bsO exRn_rv exRn_none exRm_some exRm_rv exRm_none exBm_some exBm2_bool exCallM_fn exCallM_meth exCallN_meth exInvM_ic exInvM2_some exCallN_fn exInvN_ic exInvN2_some isTo_zero isTo_cons List.contains_cons List.contains_nil
attribute [go_sem ↓] exM_nil exM_op exM_opg exOm_call exOm_invoke exOn_call exOn_invoke exOn_buildSlice exOm_append exOn_move exOn_assign exOn_pick exOn_build exOn_bin exOn_un exOn_iface exOn_func exOn_meth exOn_field exOn_index exOn_extract exOn_load exOn_nilCheck exOn_conv exOn_fieldAddr exOn_indexAddr exOn_len exOn_max exOn_min exOm_alloc exOm_box exOm_buildSlice exOm_makeSlice exOm_load exOm_store
end Go.Proofs.YtmapdjdnnhlpiaaGreatDoor
namespace Go.Proofs.YtmapdjdnnhlpiaaGreatDoor
open Go.RowKit
section
variable {N L:Nat} {T:Nat→HV} {H:Heap}
theorem Ghost.open (id r c:Nat):Ghost N L T H T (gopen H id r c):=fun B Z G FP ds a w hL hs=>by
 obtain ⟨G',FP',h1,h2,h3⟩:=gopen_inv hs.inv id r c
 exact ⟨Z,G',FP',hs.evo h1 h2 h3,GLt.of hL h2,h3⟩
theorem Ghost.to {T' : Nat→HV} {H1 H2:Heap} (g:Ghost N L T H T' H1) (e:H1=H2):Ghost N L T H T' H2:=e▸g
theorem absorb_hd {id r c j len:Nat} {ob oj:HObj} {row:List HV} (ho:H[id]?=some (some ob)) (hr:ob.rows[r]?=some row) (hc:row[c]?=some (.hd j 0 len)) (hj:H[j]?=some (some oj)) (h1:j≠id) (h2:len=oj.rows.length) (h3:nmR 0 oj.rows=true) :
  absorb H id r c=(H.set j none).set id (some { ob with rows:=ob.rows.set r (row.set c (.ow oj.e oj.sz oj.rows)) }):=by
 unfold absorb
 simp only[ho,hr,hc,hj]
 rw[if_pos ⟨h1,h2,h3⟩]
theorem Ghost.absorbHd (id r c:Nat) {j len:Nat} {ob oj:HObj} {row:List HV} (ho:H[id]?=some (some ob)) (hr:ob.rows[r]?=some row) (hc:row[c]?=some (.hd j 0 len)) (hj:H[j]?=some (some oj)) (h1:j≠id) (h2:len=oj.rows.length) (h3:nmR 0 oj.rows=true) :
  Ghost N L T H T ((H.set j none).set id (some { ob with rows:=ob.rows.set r (row.set c (.ow oj.e oj.sz oj.rows)) })):=(Ghost.absorb id r c).to (absorb_hd ho hr hc hj h1 h2 h3)
theorem row_last {A:List (List HV)} {r:List HV} {i:Nat} (h:A.length=i):(A++[r])[i]?=some r:=by subst h;simp
theorem set_last {A:List (List HV)} {r x:List HV} {i:Nat} (h:A.length=i):(A++[r]).set i x=A++[x]:=by subst h;simp
variable {R:(Nat→HV)→Heap→Prop} {T' : Nat→HV} {H' : Heap}
theorem GQ.step (g:Ghost N L T H T' H') (h:GQ N L R T' H'):GQ N L R T H:=by
 obtain ⟨T2,H2,g2,hR⟩:=h
 exact ⟨T2,H2,g.trans g2,hR⟩
theorem GQ.done (h:R T H):GQ N L R T H:=⟨T,H,Ghost.refl,h⟩
end
theorem gopens_4 {H:Heap} {id r c:Nat}:gopens H id r c 4=gopen (gopen (gopen (gopen H id r c) id r (c+1)) id r (c+1+1)) id r (c+1+1+1):=rfl
theorem set_set {A:List (List HV)} {i:Nat} (X Y:List HV):(A.set i X).set i Y=A.set i Y:=by simp
theorem fz_ow {k:Nat} {H:Heap} {e:TypeId} {sz:Nat} {rows:List (List HV)}:fz (k+1) H (.ow e sz rows)=.sl (fzoR rows):=rfl
attribute [go_sem] fz_ow gopens_4 set_set Option.getD_some Option.getD_none Option.isSome_none List.length_set
end Go.Proofs.YtmapdjdnnhlpiaaGreatDoor
namespace Go.Proofs.YtmapdjdnnhlpiaaGreatDoor
open Go.RowKit
def head (all:List Oper) (m f:Nat) (of:Oper):List Oper:=(all.take m).set f { of with op:=.move (.global 999999) }
structure Pend (te:TypeId) (zc:Array Value) (w0:World) (Z:Nat→Prop) (FP:Nat→List Nat) (w:World) (b:Nat):Prop where
 new:w0.heap.size≤b
 cells:w.heap[b]?=some (.cells zc te (0,0))
 z:¬Z b
 fp:∀id,b∉FP id
theorem Pend.evo {te:TypeId} {zc:Array Value} {w0 w w' : World} {Z Z' : Nat→Prop} {FP FP' : Nat→List Nat} {b:Nat} (h:Pend te zc w0 Z FP w b) (e:Evo Z FP w Z' FP' w'):Pend te zc w0 Z' FP' w' b:=by
 have hlt:=(Array.getElem?_eq_some_iff.1 h.cells).1
 refine ⟨h.new,(e.keep b hlt h.fp).trans h.cells,fun hz=>?_,fun id hc=>?_⟩
 ·rcases e.znew b hz with h1 | h1 | ⟨id,h1⟩
  ·exact h.z h1
  ·omega
  ·exact h.fp id h1
 ·rcases e.fnew id b hc with h1 | ⟨id',h1⟩
  ·omega
  ·exact h.fp id' h1
section go
variable {P:Program} {N L m mm B:Nat} {base:Nat×Nat} {hv:List Nat} {ro:Option Nat} {all:List Oper} {Φ:Exit→Act→World→Prop}
end go
section
variable {P:Program} {N L:Nat} {base:Nat×Nat} {hv:List Nat} {Q:Exit→KS} {H:Heap}
def nameFl (P:Program) (k:KS) (of:Oper):KS:=fun T H =>
 match of.op with
 | .alloc t=>onR (ralloc P H t) fun x H'=>k (updO T of.dst x) H'
 | _=>False
theorem nameFl_alloc {k:KS} {d:Option Nat} {t ty:TypeId} {pos:String} {af:Array Edge} {g:Option (Nat×Bool)} {T:Nat→HV}:nameFl P k { dst:=d,op:=.alloc t,type:=ty,pos:=pos,after:=af,guard:=g } T H=onR (ralloc P H t) fun x H'=>k (updO T d x) H':=rfl
theorem onR_some {p:Prop} {x:HV} {H' : Heap} {K:KT}:onR (some (p,x,H')) K=(p∧K x H'):=rfl
theorem hev_global {T:Nat→HV} {g:Nat}:hev T (.global g)=if globE g=true then .fp [[.ic globT (.gv g)]] 0 0 else .any:=rfl
attribute [go_sem] nameFl_alloc onR_some hev_global head
end
end Go.Proofs.YtmapdjdnnhlpiaaGreatDoor
namespace Go.Proofs.YtmapdjdnnhlpiaaGreatDoor
open Go.RowKit
section
variable {N L:Nat} {T:Nat→HV} {H:Heap}
theorem Ghost.freeze (i n j q o:Nat) {ob:HObj} {row:List HV} (hi:T i=.pt n j q o) (ho:H[n]?=some (some ob)) (hj:j=ob.rows.length) (hq:ob.rows[q]?=some row):Ghost N L T H (upd T i (.fp (fzoR ob.rows) q o)) (H.set n none):=fun B Z G FP ds a w hL hs=>by
 have hk:=hs.inv.freeze n
 have hG:GLe G (G.set n none):=GLe.kill n
 have hE:Evo Z FP w (Zid Z FP n) (fun j=>if j=n then [] else FP j) w:=evo_freeze n
 have hs':=hs.evo hk hG hE
 refine ⟨_,_,_,⟨hs'.inv,hs'.size,fun c hc=>?_,hs'.defers,hs'.dsn,hs'.dsat⟩,GLt.of hL hG,hE⟩
 unfold upd
 split
 ·rename_i e
  subst e
  have h0:=hs.tmps c hc
  rw[hi] at h0
  obtain ⟨g,b,cells,f,hg,hOB,hb,e2,e3,e4,e5,e6,e7,hy,hrl⟩:=pt_at hs.inv ho hj hq h0
  rw[hy]
  simp only[RV]
  have hrow:rowLen (fzoR ob.rows)=ob.sz:=by
   cases hr:ob.rows with
   | nil=>rw[hr] at hq;cases hq
   | cons r0 rs =>
    have:=hOB.len r0 (by rw[hr];simp)
    simp only[fzoR,rowLen,List.headD_cons]
    rw[fzoL_length];exact this
  refine ⟨trivial,b,0,by rw[hrow,Nat.zero_add],.inr (by rw[e2];simp),?_,?_⟩
  ·refine uni_len (sz:=ob.sz) fun r hr=>?_
   rw[fzoR_get] at hr
   obtain ⟨r',hr',rfl⟩:=List.mem_map.1 hr
   rw[fzoL_length];exact hOB.len r' hr'
  ·exact fzoR_spec ob.rows G b 0 f ⟨fun b hb=>.inl hb,fun b hb=>.inr (by rw[e2];simp[hb])⟩ e7
 ·exact hs'.tmps c hc
end
end Go.Proofs.YtmapdjdnnhlpiaaGreatDoor
