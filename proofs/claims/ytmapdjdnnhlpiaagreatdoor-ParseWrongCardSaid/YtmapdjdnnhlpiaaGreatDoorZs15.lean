/- Parts of the proof: Vc. -/
import Derived.Test.YtmapdjdnnhlpiaaGreatDoorZs14
set_option linter.unusedSectionVars false
set_option linter.unusedVariables false
set_option linter.unusedSimpArgs false
namespace Go.Proofs.YtmapdjdnnhlpiaaGreatDoor
open Go.RowKit
set_option maxRecDepth 8000
theorem check_in {f:Fl} (h0:(checkF f).2.2≠0):∀(i:Nat) (l:List LT),f.thr[i]?=some l→(checkF f).1=(i:Int)→0≤(checkF f).2.1∧(checkF f).2.1.toNat<l.length:=fun i l hl ht=>by
 have ag:Agree (⟨f,0,f.thr.map fun l=>l.map fun _=>0,0,0⟩:PS):=⟨by simp,fun h=>by simp at h⟩
 have hlt:=(List.getElem?_eq_some_iff.1 hl).1
 obtain ⟨g1,ln,e1,e2⟩:=checkF_at ag h0 (by show 0≤(checkF f).1;omega) (by show (checkF f).1≠f.thr.length;omega)
 have e1:(f.thr.map fun l=>l.map fun _=>(0:Int))[(checkF f).1.toNat]?=some ln:=e1
 rw[ht,Int.toNat_natCast,List.getElem?_map,hl] at e1
 simp at e1
 subst e1
 exact ⟨g1,by simpa using e2⟩
theorem check_lt {f:Fl} (h0:(checkF f).2.2≠0):0≤(checkF f).1→(checkF f).1≠f.thr.length→(checkF f).1.toNat<f.thr.length:=fun h1 h2=>by
 have ag:Agree (⟨f,0,f.thr.map fun l=>l.map fun _=>0,0,0⟩:PS):=⟨by simp,fun h=>by simp at h⟩
 obtain ⟨g1,ln,e1,e2⟩:=checkF_at ag h0 h1 h2
 have e1:(f.thr.map fun l=>l.map fun _=>(0:Int))[(checkF f).1.toNat]?=some ln:=e1
 have:=(List.getElem?_eq_some_iff.1 e1).1
 simpa using this
def atW (p t ii:Int) (i j:Nat):Int:=if 0≤t∧(t.toNat<i∨(t.toNat=i∧0≤ii∧ii.toNat<j)) then p else 1
theorem atW_hit {p t ii:Int} {i j:Nat} (h1:t=(i:Int)) (h2:ii=(j:Int)):atW p t ii i (j+1)=p:=by
 unfold atW;rw[if_pos];subst h1 h2;exact ⟨by omega,.inr ⟨by omega,by omega,by omega⟩⟩
theorem atW_miss {p t ii:Int} {i j:Nat} (h:¬(t=(i:Int)∧ii=(j:Int))):atW p t ii i (j+1)=atW p t ii i j:=by
 unfold atW
 by_cases h1:0≤t∧(t.toNat<i∨(t.toNat=i∧0≤ii∧ii.toNat<j))
 ·rw[if_pos h1,if_pos]
  obtain ⟨g1,g2 | ⟨g2,g3,g4⟩⟩:=h1
  ·exact ⟨g1,.inl g2⟩
  ·exact ⟨g1,.inr ⟨g2,g3,by omega⟩⟩
 ·rw[if_neg h1,if_neg]
  rintro ⟨g1,g2 | ⟨g2,g3,g4⟩⟩
  ·exact h1 ⟨g1,.inl g2⟩
  ·by_cases g5:ii.toNat<j
   ·exact h1 ⟨g1,.inr ⟨g2,g3,g5⟩⟩
   ·exact h ⟨by omega,by omega⟩
theorem atW_next {p t ii:Int} {i n:Nat} (h:t=(i:Int)→0≤ii∧ii.toNat<n):atW p t ii i n=atW p t ii (i+1) 0:=by
 unfold atW
 by_cases h1:0≤t∧(t.toNat<i∨(t.toNat=i∧0≤ii∧ii.toNat<n))
 ·rw[if_pos h1,if_pos]
  obtain ⟨g1,g2 | ⟨g2,g3,g4⟩⟩:=h1
  ·exact ⟨g1,.inl (by omega)⟩
  ·exact ⟨g1,.inl (by omega)⟩
 ·rw[if_neg h1,if_neg]
  rintro ⟨g1,g2 | ⟨g2,g3,g4⟩⟩
  ·by_cases g5:t.toNat<i
   ·exact h1 ⟨g1,.inl g5⟩
   ·have:=h (by omega)
    exact h1 ⟨g1,.inr ⟨by omega,this.1,this.2⟩⟩
  ·omega
theorem lines_some {s:List UInt8} (h:s≠[]):∃a r,linesB s=a::r:=⟨_,_,(linesB_step h).1⟩
theorem words_ne_nil {s w:List UInt8} {r:List (List UInt8)} (h:wordsB s=w::r):s≠[]:=fun e=>by subst e;rw[wordsB_nil] at h;cases h
set_option maxHeartbeats 32000000 in
theorem parseWrongH (f:Fl) (hi:∀c∈f.init,inI c.2) (ht:∀l∈f.thr,∀x∈l,inI x.n) (hc:∀a∈f.cond,inI a.n):HFn Tryz.prog 8 [fileH f] (.v (.bool true)):=by
 refine HCalls_body (fn:=Tryz.f8) 213 [2] (by kernel_rfl) rfl (by kernel_rfl) (HW.run 400 (by kernel_rfl) ?_)
 simp (config:={ decide:=true }) only[go_sem,Int.reduceToNat,Nat.reduceAdd,Nat.reduceSub,Nat.reduceMul,Nat.reduceBEq,reduceIte,reduceCtorEq]
 refine callX_fn 3 (parHead) (by simp only[go_sem]) rfl ?_
 simp (config:={ decide:=true }) only[go_sem,Int.reduceToNat,Nat.reduceAdd,Nat.reduceSub,Nat.reduceMul,Nat.reduceBEq,reduceIte,reduceCtorEq]
 refine callX_nm (lawGreat4 f) rfl rfl ?_
 cases hb:bigF f with
 | true=>simp (config:={ decide:=true }) only[go_sem,Int.reduceToNat,Nat.reduceAdd,Nat.reduceSub,Nat.reduceMul,Nat.reduceBEq,reduceIte,reduceCtorEq]
 | false =>
  have hf:=bigF_few hb
  have f1:=hf.thr
  have f2:=hf.init
  have f3:=hf.cond
  have f4:=hf.nm
  rcases tfP ((f.thr.length:Int)=0) with ⟨d1,c1⟩ | ⟨d1,c1⟩
  ·simp (config:={ decide:=true }) only[go_sem,Int.reduceToNat,Nat.reduceAdd,Nat.reduceSub,Nat.reduceMul,Nat.reduceBEq,reduceIte,reduceCtorEq,c1]
  simp (config:={ decide:=true }) only[go_sem,Int.reduceToNat,Nat.reduceAdd,Nat.reduceSub,Nat.reduceMul,Nat.reduceBEq,reduceIte,reduceCtorEq,c1]
  refine callX_nm (refCheck4 f (okR_few hf)) rfl rfl ?_
  have hin:=check_in (f:=f)
  have hlt9:=check_lt (f:=f)
  have hPP:=fun h hl=>parse_plain (f:=f) h hl
  have hWE:=fun h h0=>whereF_end (f:=f) h h0
  generalize checkF f=c at *
  obtain ⟨t,ii,e⟩:=c
  simp only at hin hPP hWE hlt9
  simp (config:={ decide:=true }) only[go_sem,Int.reduceToNat,Nat.reduceAdd,Nat.reduceSub,Nat.reduceMul,Nat.reduceBEq,reduceIte,reduceCtorEq]
  rcases tfP (e=0) with ⟨n0,m0⟩ | ⟨n0,m0⟩
  ·refine HW.tree 1 (.light 0 (.light 1 (.light 2 (.light 3 (.light 4 (.light 5 (.light 6 (.light 7 (.light 8 (.light 9 (.light 10 (.light 11 (.light 12 (.heavy 13 [] (.light 14 (.light 15 (.light 16 (.light 17 (.light 18 (.light 19 (.light 24 (.light 25 (.light 26 (.heavy 20 [24,25,26] (.light 21 (.light 22 (.light 23 (.light 27 (.light 28 (.light 29 (.light 30 (.light 31 (.light 35 (.light 36 (.heavy 32 [35,36] (.light 33 (.light 34 (.light 37 (.light 38 .leaf)))) .stop))))))))))) .stop)))))))))) .stop)))))))))))))) follows (by kernel_rfl) (by kernel_rfl) ?_
   simp (config:={ decide:=true }) only[go_sem,Int.reduceToNat,Nat.reduceAdd,Nat.reduceSub,Nat.reduceMul,Nat.reduceBEq,reduceIte,reduceCtorEq,m0]
  rcases tfP (e=11) with ⟨n1,m1⟩ | ⟨n1,m1⟩
  ·refine HW.tree 1 (.light 0 (.light 1 (.light 2 (.light 3 (.light 4 (.light 5 (.light 6 (.light 7 (.light 8 (.light 9 (.light 10 (.light 11 (.light 12 (.heavy 13 [] (.light 14 (.light 15 (.light 16 (.light 17 (.light 18 (.light 19 (.light 24 (.light 25 (.light 26 (.heavy 20 [24,25,26] (.light 21 (.light 22 (.light 23 (.light 27 (.light 28 (.light 29 (.light 30 (.light 31 (.light 35 (.light 36 (.heavy 32 [35,36] (.light 33 (.light 34 (.light 37 (.light 38 .leaf)))) .stop))))))))))) .stop)))))))))) .stop)))))))))))))) follows (by kernel_rfl) (by kernel_rfl) ?_
   simp (config:={ decide:=true }) only[go_sem,Int.reduceToNat,Nat.reduceAdd,Nat.reduceSub,Nat.reduceMul,Nat.reduceBEq,reduceIte,reduceCtorEq,m0,m1]
  rcases tfP (e=1) with ⟨n2,m2⟩ | ⟨n2,m2⟩
  ·refine HW.tree 1 (.light 0 (.light 1 (.light 2 (.light 3 (.light 4 (.light 5 (.light 6 (.light 7 (.light 8 (.light 9 (.light 10 (.light 11 (.light 12 (.heavy 13 [] (.light 14 (.light 15 (.light 16 (.light 17 (.light 18 (.light 19 (.light 24 (.light 25 (.light 26 (.heavy 20 [24,25,26] (.light 21 (.light 22 (.light 23 (.light 27 (.light 28 (.light 29 (.light 30 (.light 31 (.light 35 (.light 36 (.heavy 32 [35,36] (.light 33 (.light 34 (.light 37 (.light 38 .leaf)))) .stop))))))))))) .stop)))))))))) .stop)))))))))))))) follows (by kernel_rfl) (by kernel_rfl) ?_
   simp (config:={ decide:=true }) only[go_sem,Int.reduceToNat,Nat.reduceAdd,Nat.reduceSub,Nat.reduceMul,Nat.reduceBEq,reduceIte,reduceCtorEq,m0,m1,m2]
  have hWn:=refWordsS f.name (by omega)
  have hLn:=refLinesS f.name (by omega)
  have hin:=hin n0
  rcases tfP (((wordsB f.name).length:Int)=1) with ⟨n3,m3⟩ | ⟨n3,m3⟩
  case inr =>
   refine HW.tree 1 (.light 0 (.light 1 (.light 2 (.light 3 (.light 4 (.light 5 (.light 6 (.light 7 (.light 8 (.light 9 (.light 10 (.light 11 (.light 12 (.heavy 13 [] (.light 14 (.light 15 (.light 16 (.light 17 (.light 18 (.light 19 (.light 24 (.light 25 (.light 26 (.heavy 20 [24,25,26] (.light 21 (.light 22 (.light 23 (.light 27 (.light 28 (.light 29 (.light 30 (.light 31 (.light 35 (.light 36 (.heavy 32 [35,36] (.light 33 (.light 34 (.light 37 (.light 38 .leaf)))) .stop))))))))))) .stop)))))))))) .stop)))))))))))))) follows (by kernel_rfl) (by kernel_rfl) ?_
   simp (config:={ decide:=true }) only[go_sem,Int.reduceToNat,Nat.reduceAdd,Nat.reduceSub,Nat.reduceMul,Nat.reduceBEq,reduceIte,reduceCtorEq,m0,m1,m2]
   refine callX_nm (hWn) rfl rfl ?_
   simp (config:={ decide:=true }) only[go_sem,Int.reduceToNat,Nat.reduceAdd,Nat.reduceSub,Nat.reduceMul,Nat.reduceBEq,reduceIte,reduceCtorEq,m0,m1,m2,m3]
  obtain ⟨w0,hw0⟩:∃w0,wordsB f.name=[w0]:=List.length_eq_one_iff.1 (by omega)
  obtain ⟨l0,lr,hl0⟩:=lines_some (words_ne_nil hw0)
  have hcl:=clean_of hw0
  rw[hw0] at hWn
  rw[hl0] at hLn hcl
  rcases tfP ((w0.length:Int)=(f.name.length:Int)) with ⟨n4,m4⟩ | ⟨n4,m4⟩
  case inr =>
   refine HW.tree 1 (.light 0 (.light 1 (.light 2 (.light 3 (.light 4 (.light 5 (.light 6 (.light 7 (.light 8 (.light 9 (.light 10 (.light 11 (.light 12 (.heavy 13 [] (.light 14 (.light 15 (.light 16 (.light 17 (.light 18 (.light 19 (.light 24 (.light 25 (.light 26 (.heavy 20 [24,25,26] (.light 21 (.light 22 (.light 23 (.light 27 (.light 28 (.light 29 (.light 30 (.light 31 (.light 35 (.light 36 (.heavy 32 [35,36] (.light 33 (.light 34 (.light 37 (.light 38 .leaf)))) .stop))))))))))) .stop)))))))))) .stop)))))))))))))) follows (by kernel_rfl) (by kernel_rfl) ?_
   simp (config:={ decide:=true }) only[go_sem,Int.reduceToNat,Nat.reduceAdd,Nat.reduceSub,Nat.reduceMul,Nat.reduceBEq,reduceIte,reduceCtorEq,m0,m1,m2]
   refine callX_nm (hWn) rfl rfl ?_
   simp (config:={ decide:=true }) only[go_sem,Int.reduceToNat,Nat.reduceAdd,Nat.reduceSub,Nat.reduceMul,Nat.reduceBEq,reduceIte,reduceCtorEq,m0,m1,m2]
   refine callX_nm (hWn) rfl rfl ?_
   simp (config:={ decide:=true }) only[go_sem,Int.reduceToNat,Nat.reduceAdd,Nat.reduceSub,Nat.reduceMul,Nat.reduceBEq,reduceIte,reduceCtorEq,m0,m1,m2,m4]
  rcases tfP (l0=f.name) with ⟨n5,m5⟩ | ⟨n5,m5⟩
  case inr =>
   refine HW.tree 1 (.light 0 (.light 1 (.light 2 (.light 3 (.light 4 (.light 5 (.light 6 (.light 7 (.light 8 (.light 9 (.light 10 (.light 11 (.light 12 (.heavy 13 [] (.light 14 (.light 15 (.light 16 (.light 17 (.light 18 (.light 19 (.light 24 (.light 25 (.light 26 (.heavy 20 [24,25,26] (.light 21 (.light 22 (.light 23 (.light 27 (.light 28 (.light 29 (.light 30 (.light 31 (.light 35 (.light 36 (.heavy 32 [35,36] (.light 33 (.light 34 (.light 37 (.light 38 .leaf)))) .stop))))))))))) .stop)))))))))) .stop)))))))))))))) follows (by kernel_rfl) (by kernel_rfl) ?_
   simp (config:={ decide:=true }) only[go_sem,Int.reduceToNat,Nat.reduceAdd,Nat.reduceSub,Nat.reduceMul,Nat.reduceBEq,reduceIte,reduceCtorEq,m0,m1,m2]
   refine callX_nm (hWn) rfl rfl ?_
   simp (config:={ decide:=true }) only[go_sem,Int.reduceToNat,Nat.reduceAdd,Nat.reduceSub,Nat.reduceMul,Nat.reduceBEq,reduceIte,reduceCtorEq,m0,m1,m2]
   refine callX_nm (hWn) rfl rfl ?_
   simp (config:={ decide:=true }) only[go_sem,Int.reduceToNat,Nat.reduceAdd,Nat.reduceSub,Nat.reduceMul,Nat.reduceBEq,reduceIte,reduceCtorEq,m0,m1,m2,m4]
   refine callX_nm (hLn) rfl rfl ?_
   simp (config:={ decide:=true }) only[go_sem,Int.reduceToNat,Nat.reduceAdd,Nat.reduceSub,Nat.reduceMul,Nat.reduceBEq,reduceIte,reduceCtorEq,m0,m1,m2,m4,m5]
   omega
  have hnm:=hcl (by omega) (by rw[n5];rfl)
  refine HW.tree 1 (.light 0 (.light 1 (.light 2 (.light 3 (.light 4 (.light 5 (.light 6 (.light 7 (.light 8 (.light 9 (.light 10 (.light 11 (.light 12 (.heavy 13 [] (.light 14 (.light 15 (.light 16 (.light 17 (.light 18 (.light 19 (.light 24 (.light 25 (.light 26 (.heavy 20 [24,25,26] (.light 21 (.light 22 (.light 23 (.light 27 (.light 28 (.light 29 (.light 30 (.light 31 (.light 35 (.light 36 (.heavy 32 [35,36] (.light 33 (.light 34 (.light 37 (.light 38 .leaf)))) .stop))))))))))) .stop)))))))))) .stop)))))))))))))) follows (by kernel_rfl) (by kernel_rfl) ?_
  simp (config:={ decide:=true }) only[go_sem,Int.reduceToNat,Nat.reduceAdd,Nat.reduceSub,Nat.reduceMul,Nat.reduceBEq,reduceIte,reduceCtorEq,m0,m1,m2]
  refine callX_nm (hWn) rfl rfl ?_
  simp (config:={ decide:=true }) only[go_sem,Int.reduceToNat,Nat.reduceAdd,Nat.reduceSub,Nat.reduceMul,Nat.reduceBEq,reduceIte,reduceCtorEq,m0,m1,m2]
  refine callX_nm (hWn) rfl rfl ?_
  simp (config:={ decide:=true }) only[go_sem,Int.reduceToNat,Nat.reduceAdd,Nat.reduceSub,Nat.reduceMul,Nat.reduceBEq,reduceIte,reduceCtorEq,m0,m1,m2,m4]
  refine callX_nm (hLn) rfl rfl ?_
  simp (config:={ decide:=true }) only[go_sem,Int.reduceToNat,Nat.reduceAdd,Nat.reduceSub,Nat.reduceMul,Nat.reduceBEq,reduceIte,reduceCtorEq,m0,m1,m2,m4,m5]
  repeat (with_reducible refine And.intro ?_ ?_;·(with_reducible and_intros) <;> omega)
  refine HW.loopG (fun k T H=>∃(i:Nat),k=f.init.length-i∧i≤f.init.length∧(∀c∈f.init.take i,Clean c.1)∧T 1=.pt 0 1 0 0∧T 3=.v (.bool true)∧T 4=.v (.int .i64 t)∧T 5=.v (.int .i64 ii)∧T 6=.v (.int .i64 e)∧T 7=.v (.int .i64 i)∧H=[some (fileO f)]) f.init.length ⟨_,_,Ghost.refl,0,rfl,by omega,by simp,rfl,rfl,rfl,rfl,rfl,rfl,rfl⟩ ?_
  clear hWn hLn hw0 hl0 m3 n3 m4 n4 m5 n5 hcl w0 l0 lr
  rintro k T H ⟨i,rfl,hil,hA,h1,h3,h4,h5,h6,h7,rfl⟩
  refine HW.run 200 (by kernel_rfl) ?_
  by_cases hlt:i<f.init.length
  ·have hlt' : ((i:Int)<(f.init.length:Int))=True:=eq_true (by omega)
   have hx:f.init[i]?=some f.init[i]:=List.getElem?_eq_getElem hlt
   have hcx:=hf.i _ (List.getElem_mem hlt)
   generalize f.init[i]=x at hx hcx
   have hWn:=refWordsS x.1 (by omega)
   have hLn:=refLinesS x.1 (by omega)
   rcases tfP (((wordsB x.1).length:Int)=1) with ⟨n3,m3⟩ | ⟨n3,m3⟩
   case inr =>
    simp (config:={ decide:=true }) only[go_sem,Int.reduceToNat,Nat.reduceAdd,Nat.reduceSub,Nat.reduceMul,Nat.reduceBEq,reduceIte,reduceCtorEq,h1,h3,h4,h5,h6,h7,hlt',hx,crow]
    repeat (with_reducible refine And.intro ?_ ?_;·(with_reducible and_intros) <;> omega)
    refine callX_nm (hWn) rfl rfl ?_
    simp (config:={ decide:=true }) only[go_sem,Int.reduceToNat,Nat.reduceAdd,Nat.reduceSub,Nat.reduceMul,Nat.reduceBEq,reduceIte,reduceCtorEq,h1,h3,h4,h5,h6,h7,hlt',hx,crow]
    refine HW.tree 1 (.light 0 (.light 1 (.light 2 (.light 3 (.light 4 (.light 5 (.light 6 (.light 7 (.light 8 (.light 9 (.light 10 (.light 11 (.light 12 (.light 13 (.light 14 (.light 15 (.light 16 (.light 17 (.light 18 (.light 19 (.light 20 (.light 21 (.light 22 (.light 23 (.light 27 (.light 28 (.light 29 (.light 30 (.light 31 (.light 32 (.heavy 24 [27,28,29,30,31,32] (.light 25 (.light 26 (.light 33 (.light 34 .leaf)))) .stop))))))))))))))))))))))))))))))) follows (by kernel_rfl) (by kernel_rfl) ?_
    simp (config:={ decide:=true }) only[go_sem,Int.reduceToNat,Nat.reduceAdd,Nat.reduceSub,Nat.reduceMul,Nat.reduceBEq,reduceIte,reduceCtorEq,h1,h3,h4,h5,h6,h7,hlt',hx,crow,m3]
   obtain ⟨w0,hw0⟩:∃w0,wordsB x.1=[w0]:=List.length_eq_one_iff.1 (by omega)
   obtain ⟨l0,lr,hl0⟩:=lines_some (words_ne_nil hw0)
   have hcl:=clean_of hw0
   rw[hw0] at hWn
   rw[hl0] at hLn hcl
   rcases tfP ((w0.length:Int)=(x.1.length:Int)) with ⟨n4,m4⟩ | ⟨n4,m4⟩
   case inr =>
    simp (config:={ decide:=true }) only[go_sem,Int.reduceToNat,Nat.reduceAdd,Nat.reduceSub,Nat.reduceMul,Nat.reduceBEq,reduceIte,reduceCtorEq,h1,h3,h4,h5,h6,h7,hlt',hx,crow]
    repeat (with_reducible refine And.intro ?_ ?_;·(with_reducible and_intros) <;> omega)
    refine callX_nm (hWn) rfl rfl ?_
    simp (config:={ decide:=true }) only[go_sem,Int.reduceToNat,Nat.reduceAdd,Nat.reduceSub,Nat.reduceMul,Nat.reduceBEq,reduceIte,reduceCtorEq,h1,h3,h4,h5,h6,h7,hlt',hx,crow]
    refine HW.tree 1 (.light 0 (.light 1 (.light 2 (.light 3 (.light 4 (.light 5 (.light 6 (.light 7 (.light 8 (.light 9 (.light 10 (.light 11 (.light 12 (.light 13 (.light 14 (.light 15 (.light 16 (.light 17 (.light 18 (.light 19 (.light 20 (.light 21 (.light 22 (.light 23 (.light 27 (.light 28 (.light 29 (.light 30 (.light 31 (.light 32 (.heavy 24 [27,28,29,30,31,32] (.light 25 (.light 26 (.light 33 (.light 34 .leaf)))) .stop))))))))))))))))))))))))))))))) follows (by kernel_rfl) (by kernel_rfl) ?_
    simp (config:={ decide:=true }) only[go_sem,Int.reduceToNat,Nat.reduceAdd,Nat.reduceSub,Nat.reduceMul,Nat.reduceBEq,reduceIte,reduceCtorEq,h1,h3,h4,h5,h6,h7,hlt',hx,crow,m4]
    try omega
   rcases tfP (l0=x.1) with ⟨n5,m5⟩ | ⟨n5,m5⟩
   case inr =>
    simp (config:={ decide:=true }) only[go_sem,Int.reduceToNat,Nat.reduceAdd,Nat.reduceSub,Nat.reduceMul,Nat.reduceBEq,reduceIte,reduceCtorEq,h1,h3,h4,h5,h6,h7,hlt',hx,crow]
    repeat (with_reducible refine And.intro ?_ ?_;·(with_reducible and_intros) <;> omega)
    refine callX_nm (hWn) rfl rfl ?_
    simp (config:={ decide:=true }) only[go_sem,Int.reduceToNat,Nat.reduceAdd,Nat.reduceSub,Nat.reduceMul,Nat.reduceBEq,reduceIte,reduceCtorEq,h1,h3,h4,h5,h6,h7,hlt',hx,crow]
    refine HW.tree 1 (.light 0 (.light 1 (.light 2 (.light 3 (.light 4 (.light 5 (.light 6 (.light 7 (.light 8 (.light 9 (.light 10 (.light 11 (.light 12 (.light 13 (.light 14 (.light 15 (.light 16 (.light 17 (.light 18 (.light 19 (.light 20 (.light 21 (.light 22 (.light 23 (.light 27 (.light 28 (.light 29 (.light 30 (.light 31 (.light 32 (.heavy 24 [27,28,29,30,31,32] (.light 25 (.light 26 (.light 33 (.light 34 .leaf)))) .stop))))))))))))))))))))))))))))))) follows (by kernel_rfl) (by kernel_rfl) ?_
    simp (config:={ decide:=true }) only[go_sem,Int.reduceToNat,Nat.reduceAdd,Nat.reduceSub,Nat.reduceMul,Nat.reduceBEq,reduceIte,reduceCtorEq,h1,h3,h4,h5,h6,h7,hlt',hx,crow,m4]
    repeat (with_reducible refine And.intro ?_ ?_;·(with_reducible and_intros) <;> omega)
    refine callX_nm (hLn) rfl rfl ?_
    simp (config:={ decide:=true }) only[go_sem,Int.reduceToNat,Nat.reduceAdd,Nat.reduceSub,Nat.reduceMul,Nat.reduceBEq,reduceIte,reduceCtorEq,h1,h3,h4,h5,h6,h7,hlt',hx,crow,m4,m5]
    (with_reducible and_intros) <;> omega
   have hxc:=hcl (by omega) (by rw[n5];rfl)
   simp (config:={ decide:=true }) only[go_sem,Int.reduceToNat,Nat.reduceAdd,Nat.reduceSub,Nat.reduceMul,Nat.reduceBEq,reduceIte,reduceCtorEq,h1,h3,h4,h5,h6,h7,hlt',hx,crow]
   repeat (with_reducible refine And.intro ?_ ?_;·(with_reducible and_intros) <;> omega)
   refine callX_nm (hWn) rfl rfl ?_
   simp (config:={ decide:=true }) only[go_sem,Int.reduceToNat,Nat.reduceAdd,Nat.reduceSub,Nat.reduceMul,Nat.reduceBEq,reduceIte,reduceCtorEq,h1,h3,h4,h5,h6,h7,hlt',hx,crow]
   refine HW.tree 1 (.light 0 (.light 1 (.light 2 (.light 3 (.light 4 (.light 5 (.light 6 (.light 7 (.light 8 (.light 9 (.light 10 (.light 11 (.light 12 (.light 13 (.light 14 (.light 15 (.light 16 (.light 17 (.light 18 (.light 19 (.light 20 (.light 21 (.light 22 (.light 23 (.light 27 (.light 28 (.light 29 (.light 30 (.light 31 (.light 32 (.heavy 24 [27,28,29,30,31,32] (.light 25 (.light 26 (.light 33 (.light 34 .leaf)))) .stop))))))))))))))))))))))))))))))) follows (by kernel_rfl) (by kernel_rfl) ?_
   simp (config:={ decide:=true }) only[go_sem,Int.reduceToNat,Nat.reduceAdd,Nat.reduceSub,Nat.reduceMul,Nat.reduceBEq,reduceIte,reduceCtorEq,h1,h3,h4,h5,h6,h7,hlt',hx,crow,m4]
   repeat (with_reducible refine And.intro ?_ ?_;·(with_reducible and_intros) <;> omega)
   refine callX_nm (hLn) rfl rfl ?_
   simp (config:={ decide:=true }) only[go_sem,Int.reduceToNat,Nat.reduceAdd,Nat.reduceSub,Nat.reduceMul,Nat.reduceBEq,reduceIte,reduceCtorEq,h1,h3,h4,h5,h6,h7,hlt',hx,crow,m4,m5]
   repeat (with_reducible refine And.intro ?_ ?_;·(with_reducible and_intros) <;> omega)
   refine ⟨_,_,Ghost.refl,f.init.length-(i+1),by omega,i+1,rfl,by omega,fun c hc=>?_,?_,?_,?_,?_,?_,?_,rfl⟩
   ·rw[takeX hx] at hc
    rcases List.mem_append.1 hc with hc | hc
    ·exact hA c hc
    ·rw[List.mem_singleton.1 hc];exact hxc
   all_goals first | (simp (config:={ decide:=true }) only[go_sem,Nat.reduceBEq,reduceIte,h1,h3,h4,h5,h6];done) | (simp (config:={ decide:=true }) only[go_sem,Nat.reduceBEq,reduceIte];rw[w64 (by omega) (by omega)];rfl)
  obtain rfl:i=f.init.length:=by omega
  have hlt' : ((f.init.length:Int)<(f.init.length:Int))=False:=eq_false (by omega)
  rw[List.take_length] at hA
  simp (config:={ decide:=true }) only[go_sem,Int.reduceToNat,Nat.reduceAdd,Nat.reduceSub,Nat.reduceMul,Nat.reduceBEq,reduceIte,reduceCtorEq,h1,h3,h4,h5,h6,h7,hlt']
  refine HW.loopG (fun k T H=>∃(i:Nat),k=f.thr.length-i∧i≤f.thr.length∧(∀l∈f.thr.take i,∀x∈l,x.right=true)∧cntL (f.thr.take i)≤200*i∧T 1=.pt 0 1 0 0∧T 3=.v (.bool true)∧T 4=.v (.int .i64 t)∧T 5=.v (.int .i64 ii)∧T 6=.v (.int .i64 e)∧T 9=.v (.int .i64 (cntL (f.thr.take i)))∧T 10=.v (.int .i64 (atW (posT f t ii) t ii i 0))∧T 11=.v (.int .i64 i)∧H=[some (fileO f)]) f.thr.length ⟨_,_,Ghost.refl,0,rfl,by omega,by simp,by simp[cntL],by simp (config:={ decide:=true }) only[go_sem,Nat.reduceBEq,reduceIte,h1],by simp (config:={ decide:=true }) only[go_sem,Nat.reduceBEq,reduceIte,h3],by simp (config:={ decide:=true }) only[go_sem,Nat.reduceBEq,reduceIte,h4],by simp (config:={ decide:=true }) only[go_sem,Nat.reduceBEq,reduceIte,h5],by simp (config:={ decide:=true }) only[go_sem,Nat.reduceBEq,reduceIte,h6],rfl,?_,rfl,rfl⟩ ?_
  ·simp (config:={ decide:=true }) only[go_sem,Nat.reduceBEq,reduceIte]
   unfold atW
   rw[if_neg (by rintro ⟨g1,g2 | ⟨g2,g3,g4⟩⟩ <;> omega)]
  clear h1 h3 h4 h5 h6 h7 hil
  rintro k T H ⟨i,rfl,hil,hR,hcn,h1,h3,h4,h5,h6,h9,h10,h11,rfl⟩
  refine HW.run 200 (by kernel_rfl) ?_
  by_cases hlt:i<f.thr.length
  ·have hlt' : ((i:Int)<(f.thr.length:Int))=True:=eq_true (by omega)
   have hx:f.thr[i]?=some f.thr[i]:=List.getElem?_eq_getElem hlt
   have hxl:=hf.l _ (List.getElem_mem hlt)
   have hxb:=hf.x _ (List.getElem_mem hlt)
   have hv:=hin i _ hx
   have hcs:=cntL_snoc (f.thr.take i) f.thr[i]
   rw[←takeX hx] at hcs
   have htk:=takeX hx
   generalize f.thr[i]=l at hx hxl hxb hv hcs htk
   generalize hcc:cntL (f.thr.take i)=cc at h9 hcn hcs
   have w1:IntKind.i64.wrap ((cc:Int)+1)=((cc+1:Nat):Int):=by rw[w64 (by omega) (by omega)];rfl
   simp (config:={ decide:=true }) only[go_sem,Int.reduceToNat,Nat.reduceAdd,Nat.reduceSub,Nat.reduceMul,Nat.reduceBEq,reduceIte,reduceCtorEq,h1,h3,h4,h5,h6,h9,h10,h11,hlt',w1]
   refine HW.loopG (fun k T H=>∃(j:Nat),k=l.length-j∧j≤l.length∧(∀x∈l.take j,x.right=true)∧T 1=.pt 0 1 0 0∧T 3=.v (.bool true)∧T 4=.v (.int .i64 t)∧T 5=.v (.int .i64 ii)∧T 6=.v (.int .i64 e)∧T 9=.v (.int .i64 ((cc+1+j:Nat):Int))∧T 10=.v (.int .i64 (atW (posT f t ii) t ii i j))∧T 11=.v (.int .i64 i)∧T 12=.v (.int .i64 j)∧H=[some (fileO f)]) l.length ⟨_,_,Ghost.refl,0,rfl,by omega,by simp,by simp (config:={ decide:=true }) only[go_sem,Nat.reduceBEq,reduceIte,h1],by simp (config:={ decide:=true }) only[go_sem,Nat.reduceBEq,reduceIte,h3],by simp (config:={ decide:=true }) only[go_sem,Nat.reduceBEq,reduceIte,h4],by simp (config:={ decide:=true }) only[go_sem,Nat.reduceBEq,reduceIte,h5],by simp (config:={ decide:=true }) only[go_sem,Nat.reduceBEq,reduceIte,h6],rfl,by simp (config:={ decide:=true }) only[go_sem,Nat.reduceBEq,reduceIte,h10],by simp (config:={ decide:=true }) only[go_sem,Nat.reduceBEq,reduceIte,h11],rfl,rfl⟩ ?_
   clear h1 h3 h4 h5 h6 h9 h10 h11
   rintro k T H ⟨j,rfl,hjl,hJ,h1,h3,h4,h5,h6,h9,h10,h11,h12,rfl⟩
   refine HW.run 200 (by kernel_rfl) ?_
   by_cases hjt:j<l.length
   ·have hjt' : ((j:Int)<(l.length:Int))=True:=eq_true (by omega)
    have hy:l[j]?=some l[j]:=List.getElem?_eq_getElem hjt
    have hyb:=hxb _ (List.getElem_mem hjt)
    have htk2:=takeX hy
    generalize l[j]=x at hy hyb htk2
    obtain ⟨g1,g2,g3⟩:=small_l hyb
    have hQ:=refRight x.op x.rg x.loc x.lab x.n (by omega) (by omega) (by omega)
    have hr0:rightB x.op x.rg x.loc x.lab x.n=x.right:=rfl
    rw[hr0] at hQ
    have w2:IntKind.i64.wrap (((cc+1+j:Nat):Int)+1)=((cc+1+(j+1):Nat):Int):=by rw[w64 (by omega) (by omega)];omega
    have w3:IntKind.i64.wrap (2+((cc+1+(j+1):Nat):Int))=((cc+1+(j+1)+2:Nat):Int):=by rw[w64 (by omega) (by omega)];omega
    cases hr:x.right with
    | false =>
     rw[hr] at hQ
     simp (config:={ decide:=true }) only[go_sem,Int.reduceToNat,Nat.reduceAdd,Nat.reduceSub,Nat.reduceMul,Nat.reduceBEq,reduceIte,reduceCtorEq,h1,h3,h4,h5,h6,h9,h10,h11,h12,hlt',hx,tdrow,hjt',hy,lnrow,w2]
     repeat (with_reducible refine And.intro ?_ ?_;·(with_reducible and_intros) <;> omega)
     refine callX_nm (hQ) rfl rfl ?_
     simp (config:={ decide:=true }) only[go_sem,Int.reduceToNat,Nat.reduceAdd,Nat.reduceSub,Nat.reduceMul,Nat.reduceBEq,reduceIte,reduceCtorEq,h1,h3,h4,h5,h6,h9,h10,h11,h12]
    | true =>
     rw[hr] at hQ
     have hJ2:∀y∈l.take (j+1),y.right=true:=fun y hy2=>by
      rw[htk2] at hy2
      rcases List.mem_append.1 hy2 with hy2 | hy2
      ·exact hJ y hy2
      ·rw[List.mem_singleton.1 hy2];exact hr
     by_cases k1:(i:Int)=t
     ·by_cases k2:(j:Int)=ii
      ·have hp:posT f t ii=((cc+1+(j+1)+2:Nat):Int):=by
        unfold posT;rw[←k1,←k2,Int.toNat_natCast,Int.toNat_natCast,hcc];omega
       simp (config:={ decide:=true }) only[go_sem,Int.reduceToNat,Nat.reduceAdd,Nat.reduceSub,Nat.reduceMul,Nat.reduceBEq,reduceIte,reduceCtorEq,h1,h3,h4,h5,h6,h9,h10,h11,h12,hlt',hx,tdrow,hjt',hy,lnrow,w2]
       repeat (with_reducible refine And.intro ?_ ?_;·(with_reducible and_intros) <;> omega)
       refine callX_nm (hQ) rfl rfl ?_
       simp (config:={ decide:=true }) only[go_sem,Int.reduceToNat,Nat.reduceAdd,Nat.reduceSub,Nat.reduceMul,Nat.reduceBEq,reduceIte,reduceCtorEq,h1,h3,h4,h5,h6,h9,h10,h11,h12,eq_true k1,eq_true k2,w3]
       refine ⟨_,_,Ghost.refl,l.length-(j+1),by omega,j+1,rfl,by omega,hJ2,?_,?_,?_,?_,?_,?_,?_,?_,?_,rfl⟩
       all_goals first | (simp (config:={ decide:=true }) only[go_sem,Nat.reduceBEq,reduceIte,h1,h3,h4,h5,h6,h11];done) | (simp (config:={ decide:=true }) only[go_sem,Nat.reduceBEq,reduceIte];rw[w64 (by omega) (by omega)];rfl) | (simp (config:={ decide:=true }) only[go_sem,Nat.reduceBEq,reduceIte];rw[atW_hit k1.symm k2.symm,hp])
      ·simp (config:={ decide:=true }) only[go_sem,Int.reduceToNat,Nat.reduceAdd,Nat.reduceSub,Nat.reduceMul,Nat.reduceBEq,reduceIte,reduceCtorEq,h1,h3,h4,h5,h6,h9,h10,h11,h12,hlt',hx,tdrow,hjt',hy,lnrow,w2]
       repeat (with_reducible refine And.intro ?_ ?_;·(with_reducible and_intros) <;> omega)
       refine callX_nm (hQ) rfl rfl ?_
       simp (config:={ decide:=true }) only[go_sem,Int.reduceToNat,Nat.reduceAdd,Nat.reduceSub,Nat.reduceMul,Nat.reduceBEq,reduceIte,reduceCtorEq,h1,h3,h4,h5,h6,h9,h10,h11,h12,eq_true k1,k2,w3]
       refine ⟨_,_,Ghost.refl,l.length-(j+1),by omega,j+1,rfl,by omega,hJ2,?_,?_,?_,?_,?_,?_,?_,?_,?_,rfl⟩
       all_goals first | (simp (config:={ decide:=true }) only[go_sem,Nat.reduceBEq,reduceIte,h1,h3,h4,h5,h6,h11];done) | (simp (config:={ decide:=true }) only[go_sem,Nat.reduceBEq,reduceIte];rw[w64 (by omega) (by omega)];rfl) | (simp (config:={ decide:=true }) only[go_sem,Nat.reduceBEq,reduceIte,h10];rw[atW_miss (fun h=>k2 h.2.symm)])
     ·simp (config:={ decide:=true }) only[go_sem,Int.reduceToNat,Nat.reduceAdd,Nat.reduceSub,Nat.reduceMul,Nat.reduceBEq,reduceIte,reduceCtorEq,h1,h3,h4,h5,h6,h9,h10,h11,h12,hlt',hx,tdrow,hjt',hy,lnrow,w2]
      repeat (with_reducible refine And.intro ?_ ?_;·(with_reducible and_intros) <;> omega)
      refine callX_nm (hQ) rfl rfl ?_
      simp (config:={ decide:=true }) only[go_sem,Int.reduceToNat,Nat.reduceAdd,Nat.reduceSub,Nat.reduceMul,Nat.reduceBEq,reduceIte,reduceCtorEq,h1,h3,h4,h5,h6,h9,h10,h11,h12,k1,w3]
      refine ⟨_,_,Ghost.refl,l.length-(j+1),by omega,j+1,rfl,by omega,hJ2,?_,?_,?_,?_,?_,?_,?_,?_,?_,rfl⟩
      all_goals first | (simp (config:={ decide:=true }) only[go_sem,Nat.reduceBEq,reduceIte,h1,h3,h4,h5,h6,h11];done) | (simp (config:={ decide:=true }) only[go_sem,Nat.reduceBEq,reduceIte];rw[w64 (by omega) (by omega)];rfl) | (simp (config:={ decide:=true }) only[go_sem,Nat.reduceBEq,reduceIte,h10];rw[atW_miss (fun h=>k1 h.1.symm)])
   ·obtain rfl:j=l.length:=by omega
    have hjt' : ((l.length:Int)<(l.length:Int))=False:=eq_false (by omega)
    rw[List.take_length] at hJ
    simp (config:={ decide:=true }) only[go_sem,Int.reduceToNat,Nat.reduceAdd,Nat.reduceSub,Nat.reduceMul,Nat.reduceBEq,reduceIte,reduceCtorEq,h1,h3,h4,h5,h6,h9,h10,h11,h12,hlt',hx,tdrow,hjt']
    repeat (with_reducible refine And.intro ?_ ?_;·(with_reducible and_intros) <;> omega)
    refine ⟨_,_,Ghost.refl,f.thr.length-(i+1),by omega,i+1,rfl,by omega,fun m hm=>?_,by omega,?_,?_,?_,?_,?_,?_,?_,?_,rfl⟩
    ·rw[htk] at hm
     rcases List.mem_append.1 hm with hm | hm
     ·exact hR m hm
     ·rw[List.mem_singleton.1 hm];exact hJ
    all_goals first | (simp (config:={ decide:=true }) only[go_sem,Nat.reduceBEq,reduceIte,h1,h3,h4,h5,h6];done) | (simp (config:={ decide:=true }) only[go_sem,Nat.reduceBEq,reduceIte];rw[w64 (by omega) (by omega)];rfl) | (simp (config:={ decide:=true }) only[go_sem,Nat.reduceBEq,reduceIte,h9];rw[hcs];done) | (simp (config:={ decide:=true }) only[go_sem,Nat.reduceBEq,reduceIte,h10];rw[atW_next hv];done)
  obtain rfl:i=f.thr.length:=by omega
  have hlt' : ((f.thr.length:Int)<(f.thr.length:Int))=False:=eq_false (by omega)
  rw[List.take_length] at hR hcn h9
  simp (config:={ decide:=true }) only[go_sem,Int.reduceToNat,Nat.reduceAdd,Nat.reduceSub,Nat.reduceMul,Nat.reduceBEq,reduceIte,reduceCtorEq,h1,h3,h4,h5,h6,h9,h10,h11,hlt']
  refine HW.loopG (fun k T H=>∃(i:Nat),k=f.cond.length-i∧i≤f.cond.length∧(∀a∈f.cond.take i,a.asked=true)∧T 1=.pt 0 1 0 0∧T 3=.v (.bool true)∧T 4=.v (.int .i64 t)∧T 6=.v (.int .i64 e)∧T 9=.v (.int .i64 (cntL f.thr))∧T 10=.v (.int .i64 (atW (posT f t ii) t ii f.thr.length 0))∧T 13=.v (.int .i64 i)∧H=[some (fileO f)]) f.cond.length ⟨_,_,Ghost.refl,0,rfl,by omega,by simp,by simp (config:={ decide:=true }) only[go_sem,Nat.reduceBEq,reduceIte,h1],by simp (config:={ decide:=true }) only[go_sem,Nat.reduceBEq,reduceIte,h3],by simp (config:={ decide:=true }) only[go_sem,Nat.reduceBEq,reduceIte,h4],by simp (config:={ decide:=true }) only[go_sem,Nat.reduceBEq,reduceIte,h6],by simp (config:={ decide:=true }) only[go_sem,Nat.reduceBEq,reduceIte,h9],by simp (config:={ decide:=true }) only[go_sem,Nat.reduceBEq,reduceIte,h10],rfl,rfl⟩ ?_
  clear h1 h3 h4 h5 h6 h9 h10 h11 hil
  rintro k T H ⟨i,rfl,hil,hQ,h1,h3,h4,h6,h9,h10,h13,rfl⟩
  refine HW.run 200 (by kernel_rfl) ?_
  by_cases hlt:i<f.cond.length
  ·have hlt' : ((i:Int)<(f.cond.length:Int))=True:=eq_true (by omega)
   have hx:f.cond[i]?=some f.cond[i]:=List.getElem?_eq_getElem hlt
   have hnl:=hf.c _ (List.getElem_mem hlt)
   have htk:=takeX hx
   generalize f.cond[i]=a at hx hnl htk
   have hA1:=refAsked a.th a.nm a.n (by omega)
   have hr0:askedB a.th a.nm=a.asked:=rfl
   rw[hr0] at hA1
   cases hr:a.asked with
   | false =>
    rw[hr] at hA1
    simp (config:={ decide:=true }) only[go_sem,Int.reduceToNat,Nat.reduceAdd,Nat.reduceSub,Nat.reduceMul,Nat.reduceBEq,reduceIte,reduceCtorEq,h1,h3,h4,h6,h9,h10,h13,hlt',hx,arow]
    repeat (with_reducible refine And.intro ?_ ?_;·(with_reducible and_intros) <;> omega)
    refine callX_nm (hA1) rfl rfl ?_
    simp (config:={ decide:=true }) only[go_sem,Int.reduceToNat,Nat.reduceAdd,Nat.reduceSub,Nat.reduceMul,Nat.reduceBEq,reduceIte,reduceCtorEq,h1,h3,h4,h6,h9,h10,h13]
   | true =>
    rw[hr] at hA1
    simp (config:={ decide:=true }) only[go_sem,Int.reduceToNat,Nat.reduceAdd,Nat.reduceSub,Nat.reduceMul,Nat.reduceBEq,reduceIte,reduceCtorEq,h1,h3,h4,h6,h9,h10,h13,hlt',hx,arow]
    repeat (with_reducible refine And.intro ?_ ?_;·(with_reducible and_intros) <;> omega)
    refine callX_nm (hA1) rfl rfl ?_
    simp (config:={ decide:=true }) only[go_sem,Int.reduceToNat,Nat.reduceAdd,Nat.reduceSub,Nat.reduceMul,Nat.reduceBEq,reduceIte,reduceCtorEq,h1,h3,h4,h6,h9,h10,h13]
    refine ⟨_,_,Ghost.refl,f.cond.length-(i+1),by omega,i+1,rfl,by omega,fun c hc=>?_,?_,?_,?_,?_,?_,?_,?_,rfl⟩
    ·rw[htk] at hc
     rcases List.mem_append.1 hc with hc | hc
     ·exact hQ c hc
     ·rw[List.mem_singleton.1 hc];exact hr
    all_goals first | (simp (config:={ decide:=true }) only[go_sem,Nat.reduceBEq,reduceIte,h1,h3,h4,h6,h9,h10];done) | (simp (config:={ decide:=true }) only[go_sem,Nat.reduceBEq,reduceIte];rw[w64 (by omega) (by omega)];rfl)
  obtain rfl:i=f.cond.length:=by omega
  have hlt' : ((f.cond.length:Int)<(f.cond.length:Int))=False:=eq_false (by omega)
  rw[List.take_length] at hQ
  have hm:MayF f:=⟨hnm,fun c hc=>⟨hA c hc,hi c hc⟩,fun l hl x hx=>⟨hR l hl x hx,ht l hl x hx⟩,fun a ha=>⟨hQ a ha,hc a ha⟩,fun e=>by rw[e] at d1;simp at d1⟩
  have hp:PlainF f:=⟨hf,hi,fun l hl x hx=>⟨hR l hl x hx,ht l hl x hx⟩,fun a ha=>⟨hQ a ha,hc a ha⟩⟩
  have hl:=plain_len hp
  have hP:=lawPlain f hp
  have hpp:=hPP hm
  rw[if_neg n0,hWE hm n0] at hpp
  generalize joinN (plainL f)=u at hl hP hpp
  have w4:IntKind.i64.wrap (3+(cntL f.thr:Int))=((3+cntL f.thr:Nat):Int):=by rw[w64 (by omega) (by omega)];omega
  rcases tfP ((4000:Int)<(u.length:Int)) with ⟨d9,c9⟩ | ⟨d9,c9⟩
  ·by_cases k1:t=(f.thr.length:Int)
   ·simp (config:={ decide:=true }) only[go_sem,Int.reduceToNat,Nat.reduceAdd,Nat.reduceSub,Nat.reduceMul,Nat.reduceBEq,reduceIte,reduceCtorEq,h1,h3,h4,h6,h9,h10,h13,hlt',eq_true k1,w4]
    refine callX_nm (hP) rfl rfl ?_
    simp (config:={ decide:=true }) only[go_sem,Int.reduceToNat,Nat.reduceAdd,Nat.reduceSub,Nat.reduceMul,Nat.reduceBEq,reduceIte,reduceCtorEq,h1,h3,h4,h6,h9,h10,h13,c9]
   ·simp (config:={ decide:=true }) only[go_sem,Int.reduceToNat,Nat.reduceAdd,Nat.reduceSub,Nat.reduceMul,Nat.reduceBEq,reduceIte,reduceCtorEq,h1,h3,h4,h6,h9,h10,h13,hlt',k1]
    refine callX_nm (hP) rfl rfl ?_
    simp (config:={ decide:=true }) only[go_sem,Int.reduceToNat,Nat.reduceAdd,Nat.reduceSub,Nat.reduceMul,Nat.reduceBEq,reduceIte,reduceCtorEq,h1,h3,h4,h6,h9,h10,h13,c9]
  have hpp:=hpp (by omega)
  by_cases k1:t=(f.thr.length:Int)
  ·rw[if_neg (by omega),if_pos k1] at hpp
   simp (config:={ decide:=true }) only[go_sem,Int.reduceToNat,Nat.reduceAdd,Nat.reduceSub,Nat.reduceMul,Nat.reduceBEq,reduceIte,reduceCtorEq,h1,h3,h4,h6,h9,h10,h13,hlt',eq_true k1,w4]
   refine callX_nm (hP) rfl rfl ?_
   simp (config:={ decide:=true }) only[go_sem,Int.reduceToNat,Nat.reduceAdd,Nat.reduceSub,Nat.reduceMul,Nat.reduceBEq,reduceIte,reduceCtorEq,h1,h3,h4,h6,h9,h10,h13,c9]
   refine callX_nm (parse_at u _ hpp (by omega)) rfl rfl ?_
   simp (config:={ decide:=true }) only[go_sem,Int.reduceToNat,Nat.reduceAdd,Nat.reduceSub,Nat.reduceMul,Nat.reduceBEq,reduceIte,reduceCtorEq,h1,h3,h4,h6,h9,h10,h13,c9,w4]
  ·rw[if_neg k1] at hpp
   have hat:atW (posT f t ii) t ii f.thr.length 0=if t<0 then 1 else posT f t ii:=by
    unfold atW
    by_cases k2:t<0
    ·rw[if_neg (by omega),if_pos k2]
    ·rw[if_neg k2]
     by_cases k3:t.toNat<f.thr.length
     ·rw[if_pos ⟨by omega,.inl k3⟩]
     ·exact absurd (hlt9 n0 (by omega) k1) k3
   rw[hat] at h10
   generalize (if t<0 then 1 else posT f t ii)=p at h10 hpp
   simp (config:={ decide:=true }) only[go_sem,Int.reduceToNat,Nat.reduceAdd,Nat.reduceSub,Nat.reduceMul,Nat.reduceBEq,reduceIte,reduceCtorEq,h1,h3,h4,h6,h9,h10,h13,hlt',k1]
   refine callX_nm (hP) rfl rfl ?_
   simp (config:={ decide:=true }) only[go_sem,Int.reduceToNat,Nat.reduceAdd,Nat.reduceSub,Nat.reduceMul,Nat.reduceBEq,reduceIte,reduceCtorEq,h1,h3,h4,h6,h9,h10,h13,c9]
   refine callX_nm (parse_at u _ hpp (by omega)) rfl rfl ?_
   simp (config:={ decide:=true }) only[go_sem,Int.reduceToNat,Nat.reduceAdd,Nat.reduceSub,Nat.reduceMul,Nat.reduceBEq,reduceIte,reduceCtorEq,h1,h3,h4,h6,h9,h10,h13,c9]
end Go.Proofs.YtmapdjdnnhlpiaaGreatDoor
