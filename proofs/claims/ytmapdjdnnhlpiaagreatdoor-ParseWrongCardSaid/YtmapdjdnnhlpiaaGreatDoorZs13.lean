/- Parts of the proof: Np, No, Og, Oh, Wl, Wm, Wn, Oi, Oj, Oa, Ob, Oc, Od, Oe. -/
import Derived.Test.YtmapdjdnnhlpiaaGreatDoorZs12
import Derived.Test.YtmapdjdnnhlpiaaGreatDoorZs07
import Derived.Test.YtmapdjdnnhlpiaaGreatDoorZs08
import Derived.Test.YtmapdjdnnhlpiaaGreatDoorZs11
import Derived.Sort.Walk0
set_option linter.unusedSectionVars false
set_option linter.unusedVariables false
set_option linter.unusedSimpArgs false
namespace Go.Proofs.YtmapdjdnnhlpiaaGreatDoor
open Go.RowKit
set_option maxRecDepth 8000
structure NmA (f:Fl):Prop where
 i:∀c∈f.init,c.1.length≤1000000
 t:∀l∈f.thr,∀x∈l,x.loc.length≤1000000
 c:∀a∈f.cond,a.nm.length≤1000000
theorem NmA.ok {f:Fl} (h:NmA f):∀y∈locL f,y.length≤1000000:=fun y hy=>by
 rw[locL_eq,List.mem_append,List.mem_append] at hy
 rcases hy with (hy | hy) | hy
 ·obtain ⟨c,hc,rfl⟩:=List.mem_map.1 hy
  exact h.i c hc
 ·obtain ⟨l,hl,hy⟩:=List.mem_flatMap.1 hy
  obtain ⟨x,hx,rfl⟩:=List.mem_map.1 (List.mem_filter.1 hy).1
  exact h.t l hl x hx
 ·obtain ⟨a,ha,rfl⟩:=List.mem_map.1 hy
  exact h.c a (List.mem_filter.1 ha).1
def NmOk (s:PS):Prop:=NmA s.f
theorem pS0_nm:NmOk pS0:=⟨fun c hc=>by simp[pS0,noFl] at hc,fun c hc=>by simp[pS0,noFl] at hc,fun c hc=>by simp[pS0,noFl] at hc⟩
theorem okF_of {s:PS} (hN:NmOk s) (ht:totF s≤100000):OkF s.f:=by
 unfold totF at ht
 refine ⟨by omega,by omega,by omega,fun l hl=>?_,?_,hN.ok⟩
 ·have:=sum_mem (List.mem_map.2 ⟨l,hl,rfl⟩:l.length∈s.f.thr.map List.length)
  omega
 ·have hfl:∀r:List (List LT),(r.flatMap lineL).length≤(r.map List.length).sum:=fun r=>by
   induction r with
   | nil=>simp
   | cons a r ih =>
    have:=lineL_len a
    simp only[List.flatMap_cons,List.length_append,List.map_cons,List.sum_cons]
    omega
  have h1:=hfl s.f.thr
  have h2:=condL_len s.f.cond
  rw[locL_eq,List.length_append,List.length_append,List.length_map]
  omega
theorem insB_len (s:List UInt8):(insB s).length≤s.length:=by
 unfold insB
 split
 ·rw[List.length_take,List.length_drop];omega
 ·simp
theorem guessB_loc:∀w:List (List UInt8),(∀x∈w,x.length≤1000000)→(guessB w).loc.length≤1000000
 | [],_=>by simp[guessB,zeroL]
 | [k],_=>by
  simp only[guessB]
  repeat' split
  all_goals exact Nat.zero_le _
 | [k,l],_=>by
  simp only[guessB]
  repeat' split
  all_goals exact Nat.zero_le _
 | [k,a,b],h=>by
  have h1:=insB_len a
  have h2:=insB_len b
  have h3:=h a (by simp)
  have h4:=h b (by simp)
  have hm:(moveB a b).loc.length≤1000000:=by
   unfold moveB
   repeat' split
   all_goals first | exact Nat.le_trans h1 h3 | exact Nat.le_trans h2 h4 | exact Nat.zero_le _
  simp only[guessB]
  repeat' split
  all_goals first | exact hm | exact Nat.le_trans h1 h3 | exact Nat.zero_le _
 | _::_::_::_::_,_=>by simp[guessB,zeroL]
theorem getB_loc {w:List (List UInt8)} (h:∀x∈w,x.length≤1000000):(getB w).1.loc.length≤1000000:=by
 unfold getB
 split
 ·exact guessB_loc w h
 ·simp[zeroL]
theorem headA_nm {l:List UInt8} {th:Int} {nm:List UInt8} (h:headA l=some (th,nm)):nm.length≤l.length:=by
 have h2:=(cut_len 58 l).2
 unfold headA at h
 split at h
 ·split at h
  ·simp only[Option.some.injEq,Prod.mk.injEq] at h
   rw[←h.2];exact h2
  ·cases h
 ·simp only[Option.some.injEq,Prod.mk.injEq] at h
  rw[←h.2];exact Nat.le_refl _
theorem atomB_nm (s:List UInt8):(atomB s).1.nm.length≤s.length:=by
 have h1:=(cut_len 61 s).1
 unfold atomB
 split
 ·exact Nat.zero_le _
 ·rename_i th nm he
  have:=headA_nm he
  split
  ·exact Nat.le_trans this h1
  ·exact Nat.zero_le _
theorem cellsF_loc:∀(w:List (List UInt8)),(∀x∈w,x.length≤1000000)→∀c∈(cellsF w).1,c.1.length≤1000000
 | [],_,c,hc=>by simp[cellsF] at hc
 | [_],_,c,hc=>by simp[cellsF] at hc
 | a::b::r,h,c,hc=>by
  rw[cellsF] at hc
  split at hc
  ·simp at hc
  ·rcases List.mem_cons.1 hc with rfl | hc
   ·exact h a (by simp)
   ·exact cellsF_loc r (fun x hx=>h x (by simp[hx])) c hc
theorem atomsF_nm:∀(w:List (List UInt8)),(∀x∈w,x.length≤1000000)→∀c∈(atomsF w).1,c.nm.length≤1000000
 | [],_,c,hc=>by simp[atomsF] at hc
 | a::r,h,c,hc=>by
  rw[atomsF] at hc
  split at hc
  ·simp at hc
  ·rcases List.mem_cons.1 hc with rfl | hc
   ·exact Nat.le_trans (atomB_nm a) (h a (by simp))
   ·exact atomsF_nm r (fun x hx=>h x (by simp[hx])) c hc
theorem readF_nm {s:PS} {w:List (List UInt8)} {at_:Int} (hw:∀x∈w,x.length≤1000000) (h:NmOk s):NmOk (readF s w at_).1:=by
 have hd:∀x∈w.drop 1,x.length≤1000000:=fun x hx=>hw x (List.mem_of_mem_drop hx)
 have thr:NmOk (threadF s w).1:=by
  unfold threadF
  split
  ·exact ⟨h.i,fun l hl=>by
    rcases List.mem_append.1 hl with hl | hl
    ·exact h.t l hl
    ·simp at hl;subst hl;simp,h.c⟩
  ·exact h
 unfold readF
 split
 ·unfold headF;split
  ·exact ⟨h.i,h.t,h.c⟩
  ·exact h
 split
 ·unfold startF;split
  ·exact ⟨fun c hc=>by
    rcases List.mem_append.1 hc with hc | hc
    ·exact h.i c hc
    ·exact cellsF_loc _ hd c hc,h.t,h.c⟩
  ·exact ⟨h.i,h.t,h.c⟩
 split
 ·unfold bodyF
  split
  ·exact ⟨h.i,h.t,fun c hc=>by
    rcases List.mem_append.1 hc with hc | hc
    ·exact h.c c hc
    ·exact atomsF_nm _ hd c hc⟩
  ·split
   ·exact thr
   ·refine ⟨h.i,fun l hl x hx=>?_,h.c⟩
    have hl:l∈s.f.thr.dropLast++[(s.f.thr.getLast?.getD [])++[(getB w).1]]:=hl
    rcases List.mem_append.1 hl with hl | hl
    ·exact h.t l (List.dropLast_subset _ hl) x hx
    ·rw[List.mem_singleton] at hl
     subst hl
     rcases List.mem_append.1 hx with hx | hx
     ·cases hg:s.f.thr.getLast? with
      | none=>rw[hg] at hx;simp at hx
      | some l=>rw[hg] at hx;exact h.t l (List.mem_of_getLast? hg) x hx
     ·rw[List.mem_singleton] at hx
      subst hx
      exact getB_loc hw
 split
 ·exact thr
 ·exact h
end Go.Proofs.YtmapdjdnnhlpiaaGreatDoor
namespace Go.Proofs.YtmapdjdnnhlpiaaGreatDoor
open Go.RowKit
set_option maxRecDepth 8000
theorem pZero {N:Nat} {T:Nat→HV} {rest:Heap}:Ghost N 0 T (some zO::some ⟨58,9,[[.v (str []),.v (.slice none 0 0),.v (.slice none 0 0),.v (.bool false),.v (.slice none 0 0),.v (.int .i64 0),.v (.slice none 0 0),.v (.int .i64 0),.v (.int .i64 0)]]⟩::rest) T (some zO::some (pO pS0)::rest):=by
 have g1:=Ghost.cell (N:=N) (L:=0) (T:=T) (H:=some zO::some ⟨58,9,[[.v (str []),.v (.slice none 0 0),.v (.slice none 0 0),.v (.bool false),.v (.slice none 0 0),.v (.int .i64 0),.v (.slice none 0 0),.v (.int .i64 0),.v (.int .i64 0)]]⟩::rest) 1 0 1 (.ow 44 2 (cls [])) rfl rfl rfl rfl (Conv.nilOw _ _) (by simp)
 have g2:=g1.trans (Ghost.cell 1 0 2 (.ow 47 1 (towR [])) rfl rfl rfl rfl (Conv.nilOw _ _) (by simp))
 have g3:=g2.trans (Ghost.cell 1 0 4 (.ow 53 3 (ats [])) rfl rfl rfl rfl (Conv.nilOw _ _) (by simp))
 have g4:=g3.trans (Ghost.cell 1 0 6 (.ow 38 1 (lowR [])) rfl rfl rfl rfl (Conv.nilOw _ _) (by simp))
 exact g4
abbrev parV (r:Fl×Int×Int):HV:=.tu [fileH r.1,.v (.int .i64 r.2.1),.v (.int .i64 r.2.2)]
set_option maxHeartbeats 8000000 in
theorem parseParse (s:List UInt8) (hs:s.length≤1000000):HFn Tryz.prog 10 [.v (str s)] (parV (parseF s)):=by
 refine HCalls.conv (Q:=fun x _=>x=parV (parseF s)∨((parseF s).1=noFl∧x=.tu [zH,.v (.int .i64 (parseF s).2.1),.v (.int .i64 (parseF s).2.2)])) ?_ ?_
 rotate_left
 ·rintro x H' (rfl | ⟨h,rfl⟩)
  ·exact ⟨_,rfl,.inl rfl⟩
  ·refine ⟨_,rfl,.inr ⟨rfl,?_⟩⟩
   rw[parV,h]
   exact Conv.noFile _ _
 by_cases h4:4000<s.length
 ·have h4' : ((4000:Int)<(s.length:Int))=True:=by simp only[eq_iff_iff,iff_true];omega
  have e:parseF s=(noFl,0,5):=by unfold parseF;rw[if_pos h4]
  rw[e]
  refine HCalls_bodyC (fn:=Tryz.f10) 78 [.cell 2 27,.tmp 3,.tmp 4] (by kernel_rfl) rfl rfl (by kernel_rfl) (HW.run 400 (by kernel_rfl) ?_)
  simp (config:={ decide:=true }) only[go_sem,Int.reduceToNat,Nat.reduceAdd,Nat.reduceSub,Nat.reduceMul,Nat.reduceBEq,reduceIte,reduceCtorEq,h4']
  first | exact .inr trivial | exact .inr ⟨rfl,rfl⟩ | trivial
 have h4' : ((4000:Int)<(s.length:Int))=False:=by simp only[eq_iff_iff,iff_false];omega
 have eP:parseF s=match (linesF pS0 0 (linesB s)).2 with
  | some n=>(noFl,(n:Int),11)
  | none=>finF (linesF pS0 0 (linesB s)).1 (linesB s).length:=by
  unfold parseF
  rw[if_neg h4]
  try (cases (linesF pS0 0 (linesB s)).2 <;> rfl)
 have hll:(linesB s).length≤s.length+1:=by
  refine Nat.le_trans ?_ (cutB_length 10 s)
  unfold linesB
  split
  ·rw[List.length_dropLast];omega
  ·exact Nat.le_refl _
 have hsw:=sumW_lines s
 have hmem:∀x∈linesB s,x.length≤4000:=fun x hx=>Nat.le_trans (line_len hx) (by omega)
 generalize parseF s=R at eP
 refine HCalls_bodyC (fn:=Tryz.f10) 78 [.cell 2 27,.tmp 3,.tmp 4] (by kernel_rfl) rfl rfl (by kernel_rfl) (HW.run 400 (by kernel_rfl) ?_)
 simp (config:={ decide:=true }) only[go_sem,Int.reduceToNat,Nat.reduceAdd,Nat.reduceSub,Nat.reduceMul,Nat.reduceBEq,reduceIte,reduceCtorEq,h4']
 refine callX_nm (linesS s hs) rfl rfl ?_
 simp (config:={ decide:=true }) only[go_sem,Int.reduceToNat,Nat.reduceAdd,Nat.reduceSub,Nat.reduceMul,Nat.reduceBEq,reduceIte,reduceCtorEq]
 generalize linesB s=L at *
 refine HW.loopG (fun k T H=>∃(i:Nat) (st:PS),k=L.length-i∧i≤L.length∧Agree st∧NmOk st∧totF st+sumW (L.drop i)≤4000∧linesF pS0 0 L=linesF st i (L.drop i)∧T 2=.pt 0 1 0 0∧T 5=.pt 1 1 0 0∧T 6=.fn (4294967296+22) [.pt 1 1 0 0]∧T 7=.sl (strs L)∧T 24=.sl (strs L)∧T 25=.v (.int .i64 L.length)∧T 26=.v (.int .i64 i)∧H=[some zO,some (pO st)]) L.length ⟨_,_,pZero,0,pS0,rfl,by omega,pS0_agree,pS0_nm,by show 0+sumW L≤4000;omega,rfl,rfl,rfl,rfl,rfl,rfl,rfl,rfl,rfl⟩ ?_
 rintro k T H ⟨i,st,rfl,hil,hA,hN,hT,hI,h2,h5,h6,h7,h24,h25,h26,rfl⟩
 by_cases hlt:i<L.length
 ·refine HW.run 200 (by kernel_rfl) ?_
  have hlt' : ((i:Int)<(L.length:Int))=True:=by simp only[eq_iff_iff,iff_true];omega
  have hx:L[i]?=some L[i]:=List.getElem?_eq_getElem hlt
  have hdr:L.drop i=L[i]::L.drop (i+1):=List.drop_eq_getElem_cons hlt
  have hxl:=hmem _ (List.getElem_mem hlt)
  rw[hdr] at hT hI
  rw[linesF] at hI
  generalize L[i]=x at hx hxl hT hI
  have hsum:sumW (x::L.drop (i+1))=(wordsB x).length+sumW (L.drop (i+1)):=rfl
  have hwl:∀y∈wordsB x,y.length≤1000000:=fun y hy=>Nat.le_trans (word_len hy) (by omega)
  have hWx:=wordsS x (by omega)
  have hi1:IntKind.i64.wrap ((i:Int)+1)=((i+1:Nat):Int):=by rw[w64 (by omega) (by omega)];rfl
  simp (config:={ decide:=true }) only[go_sem,Int.reduceToNat,Nat.reduceAdd,Nat.reduceSub,Nat.reduceMul,Nat.reduceBEq,reduceIte,reduceCtorEq,h2,h5,h6,h7,h24,h25,h26,hlt',hx]
  refine callX_nm (hWx) rfl rfl ?_
  generalize wordsB x=w at *
  by_cases hw:w=[]
  ·subst hw
   rw[if_pos rfl] at hI
   simp (config:={ decide:=true }) only[go_sem,Int.reduceToNat,Nat.reduceAdd,Nat.reduceSub,Nat.reduceMul,Nat.reduceBEq,reduceIte,reduceCtorEq,h2,h5,h6,h7,h24,h25,h26]
   refine ⟨_,_,Ghost.refl,L.length-(i+1),by omega,i+1,st,rfl,by omega,hA,hN,by omega,hI,?_,?_,?_,?_,?_,?_,?_,rfl⟩
   all_goals first | (simp (config:={ decide:=true }) only[go_sem,Nat.reduceBEq,reduceIte,h2,h5,h6,h7,h24,h25];done) | (simp (config:={ decide:=true }) only[go_sem,Nat.reduceBEq,reduceIte];rw[w64 (by omega) (by omega)];rfl)
  ·rw[if_neg hw] at hI
   have hw0:((0:Int)<(w.length:Int))=True:=by have:=List.length_pos_iff.2 hw;simp only[eq_iff_iff,iff_true];omega
   have hR:=pRead st w ((i+1:Nat):Int) (hA.ok (by omega)) hw hwl (by omega)
   have hRt:=readF_tot st w ((i+1:Nat):Int) hw hA
   have hRn:=readF_nm (s:=st) (w:=w) (at_:=((i+1:Nat):Int)) hwl hN
   generalize readF st w ((i+1:Nat):Int)=r at hI hR hRt hRn
   simp (config:={ decide:=true }) only[go_sem,Int.reduceToNat,Nat.reduceAdd,Nat.reduceSub,Nat.reduceMul,Nat.reduceBEq,reduceIte,reduceCtorEq,h2,h5,h6,h7,h24,h25,h26,hw0,hi1]
   refine ⟨_,hR,?_⟩
   rintro q H' ⟨rfl,rfl⟩ -
   cases hr:r.2 with
   | true =>
    rw[if_pos hr] at hI
    simp (config:={ decide:=true }) only[go_sem,Int.reduceToNat,Nat.reduceAdd,Nat.reduceSub,Nat.reduceMul,Nat.reduceBEq,reduceIte,reduceCtorEq,h2,h5,h6,h7,h24,h25,h26,hw0,hi1]
    refine ⟨_,_,Ghost.refl,L.length-(i+1),by omega,i+1,r.1,rfl,by omega,hRt.2 hr,hRn,by have:=hRt.1;omega,hI,?_,?_,?_,?_,?_,?_,?_,rfl⟩
    all_goals first | (simp (config:={ decide:=true }) only[go_sem,Nat.reduceBEq,reduceIte,h2,h5,h6,h7,h24,h25];done) | (simp (config:={ decide:=true }) only[go_sem,Nat.reduceBEq,reduceIte,hi1];done) | (simp (config:={ decide:=true }) only[go_sem,Nat.reduceBEq,reduceIte];rw[w64 (by omega) (by omega)];rfl)
   | false =>
    rw[if_neg (by simp[hr])] at hI
    rw[hI] at eP
    simp only at eP
    subst eP
    simp (config:={ decide:=true }) only[go_sem,Int.reduceToNat,Nat.reduceAdd,Nat.reduceSub,Nat.reduceMul,Nat.reduceBEq,reduceIte,reduceCtorEq,h2,h5,h6,h7,h24,h25,h26,hw0,hi1]
    first | exact .inr trivial | exact .inr ⟨rfl,rfl⟩ | trivial
 ·have hlt' : ((i:Int)<(L.length:Int))=False:=by simp only[eq_iff_iff,iff_false];omega
  rw[List.drop_of_length_le (by omega)] at hI
  have hI' : linesF pS0 0 L=(st,none):=hI
  rw[hI'] at eP
  simp only at eP
  unfold finF at eP
  by_cases hn4:st.next=4
  ·rw[if_neg (by simp[hn4])] at eP
   have ok:OkF st.f:=okF_of hN (by omega)
   have hC:=validCheck st.f ok
   have hat:=checkF_at hA
   generalize hc:checkF st.f=c at eP hC hat
   refine HW.ghost (Ghost.freeze 5 1 1 0 0 h5 rfl rfl rfl) ?_
   rw[pO_fzoR]
   refine HW.run 200 (by kernel_rfl) ?_
   simp (config:={ decide:=true }) only[go_sem,Int.reduceToNat,Nat.reduceAdd,Nat.reduceSub,Nat.reduceMul,Nat.reduceBEq,reduceIte,reduceCtorEq,h2,h7,h24,h25,h26,hlt',hn4]
   refine callX_fn 3 (hC) (by simp only[go_sem]) rfl ?_
   by_cases he:c.2.2=0
   ·rw[if_neg (by simp[he])] at eP
    subst eP
    simp (config:={ decide:=true }) only[go_sem,Int.reduceToNat,Nat.reduceAdd,Nat.reduceSub,Nat.reduceMul,Nat.reduceBEq,reduceIte,reduceCtorEq,h2,he]
    first | exact .inl trivial | exact .inl rfl | trivial | skip
   ·rw[if_pos he] at eP
    subst eP
    simp (config:={ decide:=true }) only[go_sem,Int.reduceToNat,Nat.reduceAdd,Nat.reduceSub,Nat.reduceMul,Nat.reduceBEq,reduceIte,reduceCtorEq,h2,he]
    refine callX_fn 3 (pWhere st c.1 c.2.1 (hat he)) (by simp only[go_sem]) rfl ?_
    simp (config:={ decide:=true }) only[go_sem,Int.reduceToNat,Nat.reduceAdd,Nat.reduceSub,Nat.reduceMul,Nat.reduceBEq,reduceIte,reduceCtorEq,h2]
    first | exact .inr trivial | exact .inr ⟨rfl,rfl⟩ | trivial
  ·rw[if_pos hn4] at eP
   subst eP
   have hL1:IntKind.i64.wrap ((L.length:Int)+1)=((L.length+1:Nat):Int):=by rw[w64 (by omega) (by omega)];rfl
   refine HW.run 200 (by kernel_rfl) ?_
   simp (config:={ decide:=true }) only[go_sem,Int.reduceToNat,Nat.reduceAdd,Nat.reduceSub,Nat.reduceMul,Nat.reduceBEq,reduceIte,reduceCtorEq,h2,h5,h7,h24,h25,h26,hlt',hn4,hL1]
   first | exact .inr trivial | exact .inr ⟨rfl,rfl⟩ | trivial
end Go.Proofs.YtmapdjdnnhlpiaaGreatDoor
namespace Go.Proofs.YtmapdjdnnhlpiaaGreatDoor
open Go.RowKit
set_option maxRecDepth 8000
theorem takeN {α:Type} {a b:List α} {i:Nat} {x:α} (h:a.take i=b.take i) (hx:a[i]?=some x) (hy:b[i]?=some x):a.take (i+1)=b.take (i+1):=by
 rw[List.take_add_one,List.take_add_one,h,hx,hy]
theorem takeNe {α:Type} {a b:List α} {i:Nat} {x y:α} (hx:a[i]?=some x) (hy:b[i]?=some y) (e:x≠y):a≠b:=by
 rintro rfl;rw[hx] at hy;exact e (Option.some.inj hy)
theorem takeAll {α:Type} {a b:List α} {i:Nat} (h:a.take i=b.take i) (hl:a.length=b.length) (hi:i=a.length):a=b:=by
 subst hi
 rwa [List.take_length,hl,List.take_length] at h
theorem lenEq {a b:Nat}:((a:Int)=(b:Int))=(a=b):=by simp only[eq_iff_iff];omega
theorem intLt {a b:Nat}:((a:Int)<(b:Int))=(a<b):=by simp
theorem falseOf {p:Prop} [Decidable p] (h:¬p):HV.v (.bool false)=HV.v (.bool (decide p)):=by rw[decide_eq_false h]
set_option maxHeartbeats 16000000 in
theorem refSameFl (f g:Fl) (hi:f.init.length≤1000000) (ht:f.thr.length≤1000000) (hc:f.cond.length≤1000000) (hl:∀l∈f.thr,l.length≤1000000) :
  HFn Tryz.prog 12 [fileH f,fileH g] (.v (.bool (decide (f=g)))):=by
 obtain ⟨fn,fi,ft,fa,fc⟩:=f
 obtain ⟨gn,gi,gt,ga,gc⟩:=g
 simp only at hi ht hc hl
 refine HCalls_body (fn:=Tryz.f12) 136 [4] (by kernel_rfl) rfl (by kernel_rfl) (HW.run 400 (by kernel_rfl) ?_)
 by_cases c1:fn=gn
 case neg =>
  simp (config:={ decide:=true }) only[go_sem,Int.reduceToNat,Nat.reduceAdd,Nat.reduceSub,Nat.reduceMul,Nat.reduceBEq,reduceIte,reduceCtorEq,c1]
  exact falseOf (by simp[c1])
 subst c1
 by_cases c2:fa=ga
 case neg =>
  simp (config:={ decide:=true }) only[go_sem,Int.reduceToNat,Nat.reduceAdd,Nat.reduceSub,Nat.reduceMul,Nat.reduceBEq,reduceIte,reduceCtorEq,c2]
  exact falseOf (by simp[c2])
 subst c2
 by_cases l1:fi.length=gi.length
 case neg =>
  have l1' : ((fi.length:Int)=(gi.length:Int))=False:=by rw[lenEq];simp[l1]
  simp (config:={ decide:=true }) only[go_sem,Int.reduceToNat,Nat.reduceAdd,Nat.reduceSub,Nat.reduceMul,Nat.reduceBEq,reduceIte,reduceCtorEq,l1']
  exact falseOf fun e=>l1 (by simp only[Fl.mk.injEq] at e;rw[e.2.1])
 have l1' : ((fi.length:Int)=(gi.length:Int))=True:=by rw[lenEq];simp[l1]
 by_cases l2:ft.length=gt.length
 case neg =>
  have l2' : ((ft.length:Int)=(gt.length:Int))=False:=by rw[lenEq];simp[l2]
  simp (config:={ decide:=true }) only[go_sem,Int.reduceToNat,Nat.reduceAdd,Nat.reduceSub,Nat.reduceMul,Nat.reduceBEq,reduceIte,reduceCtorEq,l1',l2']
  exact falseOf fun e=>l2 (by simp only[Fl.mk.injEq] at e;rw[e.2.2.1])
 have l2' : ((ft.length:Int)=(gt.length:Int))=True:=by rw[lenEq];simp[l2]
 by_cases l3:fc.length=gc.length
 case neg =>
  have l3' : ((fc.length:Int)=(gc.length:Int))=False:=by rw[lenEq];simp[l3]
  simp (config:={ decide:=true }) only[go_sem,Int.reduceToNat,Nat.reduceAdd,Nat.reduceSub,Nat.reduceMul,Nat.reduceBEq,reduceIte,reduceCtorEq,l1',l2',l3']
  exact falseOf fun e=>l3 (by simp only[Fl.mk.injEq] at e;rw[e.2.2.2.2])
 have l3' : ((fc.length:Int)=(gc.length:Int))=True:=by rw[lenEq];simp[l3]
 simp (config:={ decide:=true }) only[go_sem,Int.reduceToNat,Nat.reduceAdd,Nat.reduceSub,Nat.reduceMul,Nat.reduceBEq,reduceIte,reduceCtorEq,l1',l2',l3']
 refine HW.loopG (fun k T H=>∃(i:Nat),k=fi.length-i∧i≤fi.length∧fi.take i=gi.take i∧T 2=.pt 0 1 0 0∧T 3=.pt 1 1 0 0∧T 5=.v (.int .i64 i)∧H=[some (fileO ⟨fn,fi,ft,fa,fc⟩),some (fileO ⟨fn,gi,gt,fa,gc⟩)]) fi.length ⟨_,_,Ghost.refl,0,rfl,by omega,rfl,rfl,rfl,rfl,rfl⟩ ?_
 rintro k T H ⟨i,rfl,hil,heq,h2,h3,h5,rfl⟩
 refine HW.run 200 (by kernel_rfl) ?_
 by_cases hlt:i<fi.length
 ·have hlt' : ((i:Int)<(fi.length:Int))=True:=by rw[intLt];simp[hlt]
  have hlt2:((i:Int)<(gi.length:Int))=True:=by rw[intLt];simp;omega
  have hx:fi[i]?=some fi[i]:=List.getElem?_eq_getElem hlt
  have hy:gi[i]?=some (gi[i]'(by omega)):=List.getElem?_eq_getElem (by omega)
  generalize fi[i]=x at hx
  generalize gi[i]'(by omega)=y at hy
  simp (config:={ decide:=true }) only[go_sem,Int.reduceToNat,Nat.reduceAdd,Nat.reduceSub,Nat.reduceMul,Nat.reduceBEq,reduceIte,reduceCtorEq,h2,h3,h5,hlt']
  refine HW.tree 1 (.light 0 (.light 1 (.light 2 (.light 3 (.light 4 (.light 5 (.light 6 (.light 7 (.light 8 (.light 9 (.light 10 .leaf))))))))))) follows (by kernel_rfl) (by kernel_rfl) ?_
  by_cases hxy:x=y
  ·subst hxy
   simp (config:={ decide:=true }) only[go_sem,Int.reduceToNat,Nat.reduceAdd,Nat.reduceSub,Nat.reduceMul,Nat.reduceBEq,reduceIte,reduceCtorEq,h2,h3,h5,hx,hy,hlt',hlt2,crow]
   all_goals repeat (with_reducible refine And.intro ?_ ?_;·(with_reducible and_intros) <;> omega)
   refine ⟨_,_,Ghost.refl,fi.length-(i+1),by omega,i+1,rfl,by omega,takeN heq hx hy,?_,?_,?_,rfl⟩
   all_goals first | (simp (config:={ decide:=true }) only[go_sem,Nat.reduceBEq,reduceIte,h2,h3];done) | (simp (config:={ decide:=true }) only[go_sem,Nat.reduceBEq,reduceIte];rw[w64 (by omega) (by omega)];rfl)
  ·have hd:(decide (x.1=y.1) && decide (x.2=y.2))=false:=by
    rw[Bool.eq_false_iff]
    simp only[ne_eq,Bool.and_eq_true,decide_eq_true_eq]
    exact fun h=>hxy (Prod.ext h.1 h.2)
   simp (config:={ decide:=true }) only[go_sem,Int.reduceToNat,Nat.reduceAdd,Nat.reduceSub,Nat.reduceMul,Nat.reduceBEq,reduceIte,reduceCtorEq,h2,h3,h5,hx,hy,hlt',hlt2,crow,hd]
   all_goals repeat (with_reducible refine And.intro ?_ ?_;·(with_reducible and_intros) <;> omega)
   exact falseOf fun e=>takeNe hx hy hxy (by simp only[Fl.mk.injEq] at e;exact e.2.1)
 obtain rfl:i=fi.length:=by omega
 have hlt' : ((fi.length:Int)<(fi.length:Int))=False:=by rw[intLt];simp
 obtain rfl:fi=gi:=takeAll heq l1 rfl
 simp (config:={ decide:=true }) only[go_sem,Int.reduceToNat,Nat.reduceAdd,Nat.reduceSub,Nat.reduceMul,Nat.reduceBEq,reduceIte,reduceCtorEq,h2,h3,h5,hlt']
 refine HW.loopG (fun k T H=>∃(i:Nat),k=ft.length-i∧i≤ft.length∧ft.take i=gt.take i∧T 2=.pt 0 1 0 0∧T 3=.pt 1 1 0 0∧T 6=.v (.int .i64 i)∧H=[some (fileO ⟨fn,fi,ft,fa,fc⟩),some (fileO ⟨fn,fi,gt,fa,gc⟩)]) ft.length ⟨_,_,Ghost.refl,0,rfl,by omega,rfl,by simp (config:={ decide:=true }) only[go_sem,Nat.reduceBEq,reduceIte,h2],by simp (config:={ decide:=true }) only[go_sem,Nat.reduceBEq,reduceIte,h3],rfl,rfl⟩ ?_
 clear h2 h3 h5 heq hil
 rintro k T H ⟨i,rfl,hil,heq,h2,h3,h6,rfl⟩
 refine HW.run 200 (by kernel_rfl) ?_
 by_cases hlt:i<ft.length
 ·have hlt' : ((i:Int)<(ft.length:Int))=True:=by rw[intLt];simp[hlt]
  have hlt2:((i:Int)<(gt.length:Int))=True:=by rw[intLt];simp;omega
  have hx:ft[i]?=some ft[i]:=List.getElem?_eq_getElem hlt
  have hy:gt[i]?=some (gt[i]'(by omega)):=List.getElem?_eq_getElem (by omega)
  have hxl:=hl _ (List.getElem_mem hlt)
  generalize ft[i]=x at hx hxl
  generalize gt[i]'(by omega)=y at hy
  by_cases l4:x.length=y.length
  case neg =>
   have l4' : ((x.length:Int)=(y.length:Int))=False:=by rw[lenEq];simp[l4]
   simp (config:={ decide:=true }) only[go_sem,Int.reduceToNat,Nat.reduceAdd,Nat.reduceSub,Nat.reduceMul,Nat.reduceBEq,reduceIte,reduceCtorEq,h2,h3,h6,hlt']
   refine HW.tree 1 (.light 0 (.light 1 (.light 2 (.light 3 (.light 4 (.light 5 (.light 6 (.light 7 (.light 8 (.light 9 (.light 10 (.light 11 (.light 12 (.light 13 (.light 14 .leaf))))))))))))))) follows (by kernel_rfl) (by kernel_rfl) ?_
   simp (config:={ decide:=true }) only[go_sem,Int.reduceToNat,Nat.reduceAdd,Nat.reduceSub,Nat.reduceMul,Nat.reduceBEq,reduceIte,reduceCtorEq,h2,h3,h6,hx,hy,hlt',hlt2,tdrow,l4']
   all_goals repeat (with_reducible refine And.intro ?_ ?_;·(with_reducible and_intros) <;> omega)
   exact falseOf fun e=>takeNe hx hy (fun e=>l4 (by rw[e])) (by simp only[Fl.mk.injEq] at e;exact e.2.2.1)
  have l4' : ((x.length:Int)=(y.length:Int))=True:=by rw[lenEq];simp[l4]
  simp (config:={ decide:=true }) only[go_sem,Int.reduceToNat,Nat.reduceAdd,Nat.reduceSub,Nat.reduceMul,Nat.reduceBEq,reduceIte,reduceCtorEq,h2,h3,h6,hlt']
  refine HW.tree 1 (.light 0 (.light 1 (.light 2 (.light 3 (.light 4 (.light 5 (.light 6 (.light 7 (.light 8 (.light 9 (.light 10 (.light 11 (.light 12 (.light 13 (.light 14 .leaf))))))))))))))) follows (by kernel_rfl) (by kernel_rfl) ?_
  simp (config:={ decide:=true }) only[go_sem,Int.reduceToNat,Nat.reduceAdd,Nat.reduceSub,Nat.reduceMul,Nat.reduceBEq,reduceIte,reduceCtorEq,h2,h3,h6,hx,hy,hlt',hlt2,tdrow,l4']
  all_goals repeat (with_reducible refine And.intro ?_ ?_;·(with_reducible and_intros) <;> omega)
  refine HW.loopG (fun k T H=>∃(j:Nat),k=x.length-j∧j≤x.length∧x.take j=y.take j∧T 2=.pt 0 1 0 0∧T 3=.pt 1 1 0 0∧T 6=.v (.int .i64 i)∧T 7=.v (.int .i64 j)∧H=[some (fileO ⟨fn,fi,ft,fa,fc⟩),some (fileO ⟨fn,fi,gt,fa,gc⟩)]) x.length ⟨_,_,Ghost.refl,0,rfl,by omega,rfl,by simp (config:={ decide:=true }) only[go_sem,Nat.reduceBEq,reduceIte,h2],by simp (config:={ decide:=true }) only[go_sem,Nat.reduceBEq,reduceIte,h3],by simp (config:={ decide:=true }) only[go_sem,Nat.reduceBEq,reduceIte,h6],rfl,rfl⟩ ?_
  clear h2 h3 h6
  rintro k T H ⟨j,rfl,hjl,hej,h2,h3,h6,h7,rfl⟩
  refine HW.run 200 (by kernel_rfl) ?_
  by_cases hjt:j<x.length
  ·have hjt' : ((j:Int)<(x.length:Int))=True:=by rw[intLt];simp[hjt]
   have hjt2:((j:Int)<(y.length:Int))=True:=by rw[intLt];simp;omega
   have hu:x[j]?=some x[j]:=List.getElem?_eq_getElem hjt
   have hv:y[j]?=some (y[j]'(by omega)):=List.getElem?_eq_getElem (by omega)
   generalize x[j]=u at hu
   generalize y[j]'(by omega)=v at hv
   simp (config:={ decide:=true }) only[go_sem,Int.reduceToNat,Nat.reduceAdd,Nat.reduceSub,Nat.reduceMul,Nat.reduceBEq,reduceIte,reduceCtorEq,h2,h3,h6,h7,hlt',hx,tdrow,hjt']
   repeat (with_reducible refine And.intro ?_ ?_;·(with_reducible and_intros) <;> omega)
   refine HW.tree 1 (.light 0 (.light 1 (.light 2 (.light 3 (.light 4 (.light 5 (.light 6 (.light 7 (.light 8 (.light 9 (.light 10 (.light 11 (.light 12 (.light 13 (.light 14 (.light 15 (.light 16 (.light 17 (.light 18 .leaf))))))))))))))))))) follows (by kernel_rfl) (by kernel_rfl) ?_
   by_cases huv:u=v
   ·subst huv
    simp (config:={ decide:=true }) only[go_sem,Int.reduceToNat,Nat.reduceAdd,Nat.reduceSub,Nat.reduceMul,Nat.reduceBEq,reduceIte,reduceCtorEq,h2,h3,h6,h7,hx,hy,hu,hv,hlt',hlt2,hjt',hjt2,tdrow,lnrow]
    all_goals repeat (with_reducible refine And.intro ?_ ?_;·(with_reducible and_intros) <;> omega)
    refine ⟨_,_,Ghost.refl,x.length-(j+1),by omega,j+1,rfl,by omega,takeN hej hu hv,?_,?_,?_,?_,rfl⟩
    all_goals first | (simp (config:={ decide:=true }) only[go_sem,Nat.reduceBEq,reduceIte,h2,h3,h6];done) | (simp (config:={ decide:=true }) only[go_sem,Nat.reduceBEq,reduceIte];rw[w64 (by omega) (by omega)];rfl)
   ·have hd:(decide (u.op=v.op) && (decide (u.rg=v.rg) && (decide (u.loc=v.loc) && (decide (u.lab=v.lab) && decide (u.n=v.n)))))=false:=by
     rw[Bool.eq_false_iff]
     simp only[ne_eq,Bool.and_eq_true,decide_eq_true_eq]
     exact fun h=>huv (by cases u;cases v;simp at h;simp[h])
    simp (config:={ decide:=true }) only[go_sem,Int.reduceToNat,Nat.reduceAdd,Nat.reduceSub,Nat.reduceMul,Nat.reduceBEq,reduceIte,reduceCtorEq,h2,h3,h6,h7,hx,hy,hu,hv,hlt',hlt2,hjt',hjt2,tdrow,lnrow,hd]
    all_goals repeat (with_reducible refine And.intro ?_ ?_;·(with_reducible and_intros) <;> omega)
    exact falseOf fun e=>takeNe hx hy (takeNe hu hv huv) (by simp only[Fl.mk.injEq] at e;exact e.2.2.1)
  ·have hjt' : ((j:Int)<(x.length:Int))=False:=by rw[intLt];simp[hjt]
   obtain rfl:x=y:=takeAll hej l4 (by omega)
   simp (config:={ decide:=true }) only[go_sem,Int.reduceToNat,Nat.reduceAdd,Nat.reduceSub,Nat.reduceMul,Nat.reduceBEq,reduceIte,reduceCtorEq,h2,h3,h6,h7,hlt',hx,tdrow,hjt']
   repeat (with_reducible refine And.intro ?_ ?_;·(with_reducible and_intros) <;> omega)
   refine ⟨_,_,Ghost.refl,ft.length-(i+1),by omega,i+1,rfl,by omega,takeN heq hx hy,?_,?_,?_,rfl⟩
   all_goals first | (simp (config:={ decide:=true }) only[go_sem,Nat.reduceBEq,reduceIte,h2,h3];done) | (simp (config:={ decide:=true }) only[go_sem,Nat.reduceBEq,reduceIte];rw[w64 (by omega) (by omega)];rfl)
 obtain rfl:i=ft.length:=by omega
 have hlt' : ((ft.length:Int)<(ft.length:Int))=False:=by rw[intLt];simp
 obtain rfl:ft=gt:=takeAll heq l2 rfl
 simp (config:={ decide:=true }) only[go_sem,Int.reduceToNat,Nat.reduceAdd,Nat.reduceSub,Nat.reduceMul,Nat.reduceBEq,reduceIte,reduceCtorEq,h2,h3,h6,hlt']
 refine HW.loopG (fun k T H=>∃(i:Nat),k=fc.length-i∧i≤fc.length∧fc.take i=gc.take i∧T 2=.pt 0 1 0 0∧T 3=.pt 1 1 0 0∧T 8=.v (.int .i64 i)∧H=[some (fileO ⟨fn,fi,ft,fa,fc⟩),some (fileO ⟨fn,fi,ft,fa,gc⟩)]) fc.length ⟨_,_,Ghost.refl,0,rfl,by omega,rfl,by simp (config:={ decide:=true }) only[go_sem,Nat.reduceBEq,reduceIte,h2],by simp (config:={ decide:=true }) only[go_sem,Nat.reduceBEq,reduceIte,h3],rfl,rfl⟩ ?_
 clear h2 h3 h6 heq hil
 rintro k T H ⟨i,rfl,hil,heq,h2,h3,h8,rfl⟩
 refine HW.run 200 (by kernel_rfl) ?_
 by_cases hlt:i<fc.length
 ·have hlt' : ((i:Int)<(fc.length:Int))=True:=by rw[intLt];simp[hlt]
  have hlt2:((i:Int)<(gc.length:Int))=True:=by rw[intLt];simp;omega
  have hx:fc[i]?=some fc[i]:=List.getElem?_eq_getElem hlt
  have hy:gc[i]?=some (gc[i]'(by omega)):=List.getElem?_eq_getElem (by omega)
  generalize fc[i]=x at hx
  generalize gc[i]'(by omega)=y at hy
  simp (config:={ decide:=true }) only[go_sem,Int.reduceToNat,Nat.reduceAdd,Nat.reduceSub,Nat.reduceMul,Nat.reduceBEq,reduceIte,reduceCtorEq,h2,h3,h8,hlt']
  refine HW.tree 1 (.light 0 (.light 1 (.light 2 (.light 3 (.light 4 (.light 5 (.light 6 (.light 7 (.light 8 (.light 9 (.light 10 .leaf))))))))))) follows (by kernel_rfl) (by kernel_rfl) ?_
  by_cases hxy:x=y
  ·subst hxy
   simp (config:={ decide:=true }) only[go_sem,Int.reduceToNat,Nat.reduceAdd,Nat.reduceSub,Nat.reduceMul,Nat.reduceBEq,reduceIte,reduceCtorEq,h2,h3,h8,hx,hy,hlt',hlt2,arow]
   all_goals repeat (with_reducible refine And.intro ?_ ?_;·(with_reducible and_intros) <;> omega)
   refine ⟨_,_,Ghost.refl,fc.length-(i+1),by omega,i+1,rfl,by omega,takeN heq hx hy,?_,?_,?_,rfl⟩
   all_goals first | (simp (config:={ decide:=true }) only[go_sem,Nat.reduceBEq,reduceIte,h2,h3];done) | (simp (config:={ decide:=true }) only[go_sem,Nat.reduceBEq,reduceIte];rw[w64 (by omega) (by omega)];rfl)
  ·have hd:(decide (x.th=y.th) && (decide (x.nm=y.nm) && decide (x.n=y.n)))=false:=by
    rw[Bool.eq_false_iff]
    simp only[ne_eq,Bool.and_eq_true,decide_eq_true_eq]
    exact fun h=>hxy (by cases x;cases y;simp at h;simp[h])
   simp (config:={ decide:=true }) only[go_sem,Int.reduceToNat,Nat.reduceAdd,Nat.reduceSub,Nat.reduceMul,Nat.reduceBEq,reduceIte,reduceCtorEq,h2,h3,h8,hx,hy,hlt',hlt2,arow,hd]
   all_goals repeat (with_reducible refine And.intro ?_ ?_;·(with_reducible and_intros) <;> omega)
   exact falseOf fun e=>takeNe hx hy hxy (by simp only[Fl.mk.injEq] at e;exact e.2.2.2.2)
 ·have hlt' : ((i:Int)<(fc.length:Int))=False:=by rw[intLt];simp[hlt]
  obtain rfl:fc=gc:=takeAll heq l3 (by omega)
  simp (config:={ decide:=true }) only[go_sem,Int.reduceToNat,Nat.reduceAdd,Nat.reduceSub,Nat.reduceMul,Nat.reduceBEq,reduceIte,reduceCtorEq,h2,h3,h8,hlt']
end Go.Proofs.YtmapdjdnnhlpiaaGreatDoor
namespace Go.Proofs.YtmapdjdnnhlpiaaGreatDoor
open Go.RowKit
set_option maxRecDepth 8000
def bufF:Fl:=⟨[115,98],[([120],0)],[[⟨4,[],[120],[],1⟩,⟨2,[101,97,120],[121],[],0⟩],[⟨4,[],[121],[],1⟩,⟨2,[101,97,120],[120],[],0⟩]],false,[⟨0,[101,97,120],0⟩,⟨1,[101,97,120],0⟩]⟩
theorem lawBuffering:HFn Tryz.prog 21 [] (fileH bufF):=by
 refine HFn_bodyF (fn:=Tryz.f21) 5 16 [.cell 0 27] (by kernel_rfl) rfl rfl (by kernel_rfl) (HW.run 400 (by kernel_rfl) ?_)
 simp (config:={ decide:=true }) only[go_sem,Int.reduceToNat,Nat.reduceAdd,Nat.reduceSub,Nat.reduceMul,Nat.reduceBEq,reduceIte,reduceCtorEq]
 rfl
theorem parse_at (s:List UInt8) (r:Fl×Int×Int) (h:parseF s=r) (hs:s.length≤1000000):HFn Tryz.prog 10 [.v (str s)] (parV r):=h▸parseParse s hs
def lit1:List UInt8:=[120,56,54,32,115,98,10,105,110,105,116,32,120,32,48,10,116,104,114,101,97,100,10,109,111,118,32,91,120,93,32,49,10,109,111,118,32,101,97,120,32,91,121,93,10,10,116,104,114,101,97,100,10,32,109,111,118,32,32,91,121,93,32,49,10,109,111,118,32,101,97,120,32,91,120,93,10,101,120,105,115,116,115,32,48,58,101,97,120,61,48,32,49,58,101,97,120,61,48,10]
def lit2:List UInt8:=[120,56,54,32,115,98,10,116,104,114,101,97,100,10]
def lit4:List UInt8:=[120,56,54,32,109,111,118,10,105,110,105,116,10,116,104,114,101,97,100,10,101,120,105,115,116,115]
def lit5:List UInt8:=[120,56,54,32,97,10,105,110,105,116,10,116,104,114,101,97,100,10,106,109,112,32,108,10,101,120,105,115,116,115]
theorem parse1:parseF lit1=(bufF,0,0):=by decide +kernel
theorem parse2:parseF lit2=(noFl,2,11):=by decide +kernel
theorem parse3:parseF []=(noFl,1,11):=by decide +kernel
theorem parse4:parseF lit4=(noFl,1,22):=by decide +kernel
theorem parse5:parseF lit5=(noFl,4,22):=by decide +kernel
theorem parHead:HFn Tryz.prog 9 [] (.v (.bool true)):=by
 have p1:=parse_at lit1 _ parse1 (by decide)
 have p2:=parse_at lit2 _ parse2 (by decide)
 have p3:=parse_at [] _ parse3 (by decide)
 have p4:=parse_at lit4 _ parse4 (by decide)
 have p5:=parse_at lit5 _ parse5 (by decide)
 have sm:=refSameFl bufF bufF (by decide) (by decide) (by decide) (by decide)
 rw[decide_eq_true rfl] at sm
 refine HCalls_body (fn:=Tryz.f9) 84 [0] (by kernel_rfl) rfl (by kernel_rfl) (HW.run 400 (by kernel_rfl) ?_)
 simp (config:={ decide:=true }) only[go_sem,Int.reduceToNat,Nat.reduceAdd,Nat.reduceSub,Nat.reduceMul,Nat.reduceBEq,reduceIte,reduceCtorEq]
 refine callX_nm (p1) rfl rfl ?_
 simp (config:={ decide:=true }) only[go_sem,Int.reduceToNat,Nat.reduceAdd,Nat.reduceSub,Nat.reduceMul,Nat.reduceBEq,reduceIte,reduceCtorEq]
 refine callX_nm (p2) rfl rfl ?_
 simp (config:={ decide:=true }) only[go_sem,Int.reduceToNat,Nat.reduceAdd,Nat.reduceSub,Nat.reduceMul,Nat.reduceBEq,reduceIte,reduceCtorEq]
 refine callX_nm (p3) rfl rfl ?_
 simp (config:={ decide:=true }) only[go_sem,Int.reduceToNat,Nat.reduceAdd,Nat.reduceSub,Nat.reduceMul,Nat.reduceBEq,reduceIte,reduceCtorEq]
 refine callX_nm (p4) rfl rfl ?_
 simp (config:={ decide:=true }) only[go_sem,Int.reduceToNat,Nat.reduceAdd,Nat.reduceSub,Nat.reduceMul,Nat.reduceBEq,reduceIte,reduceCtorEq]
 refine callX_nm (p5) rfl rfl ?_
 simp (config:={ decide:=true }) only[go_sem,Int.reduceToNat,Nat.reduceAdd,Nat.reduceSub,Nat.reduceMul,Nat.reduceBEq,reduceIte,reduceCtorEq]
 refine HW.tree 1 (.light 0 (.heavy 1 [0] (.heavy 2 [] (.light 3 (.light 4 (.light 5 (.light 6 (.light 7 (.light 8 (.light 9 (.light 10 (.light 11 (.light 12 (.light 13 (.light 14 (.light 15 (.light 16 (.light 17 (.light 18 (.light 19 (.light 20 (.light 21 (.light 22 (.light 23 (.light 24 (.light 25 (.light 26 (.light 27 (.light 28 (.light 29 (.light 30 (.light 31 (.light 32 (.light 33 (.light 34 (.light 35 (.light 36 (.light 37 (.light 38 (.light 39 (.light 40 (.light 41 (.light 42 (.light 43 .leaf))))))))))))))))))))))))))))))))))))))))) .stop) .stop)) follows (by kernel_rfl) (by kernel_rfl) ?_
 simp (config:={ decide:=true }) only[go_sem,Int.reduceToNat,Nat.reduceAdd,Nat.reduceSub,Nat.reduceMul,Nat.reduceBEq,reduceIte,reduceCtorEq]
 refine callX_nm (lawBuffering) rfl rfl ?_
 simp (config:={ decide:=true }) only[go_sem,Int.reduceToNat,Nat.reduceAdd,Nat.reduceSub,Nat.reduceMul,Nat.reduceBEq,reduceIte,reduceCtorEq]
 refine callX_nm (sm) rfl rfl ?_
 simp (config:={ decide:=true }) only[go_sem,Int.reduceToNat,Nat.reduceAdd,Nat.reduceSub,Nat.reduceMul,Nat.reduceBEq,reduceIte,reduceCtorEq]
end Go.Proofs.YtmapdjdnnhlpiaaGreatDoor
namespace Go.Proofs.YtmapdjdnnhlpiaaGreatDoor
open Go.RowKit
set_option maxRecDepth 8000
end Go.Proofs.YtmapdjdnnhlpiaaGreatDoor
namespace Go.Proofs.YtmapdjdnnhlpiaaGreatDoor
open Go.RowKit
set_option maxRecDepth 8000
theorem regB_cases (s:List UInt8):(regB s = -1)∨(0≤regB s∧regB s<4∧regNm (regB s)=s):=by
 unfold regB
 split
 ·rename_i h;exact .inr ⟨by decide,by decide,h.symm⟩
 split
 ·rename_i h;exact .inr ⟨by decide,by decide,h.symm⟩
 split
 ·rename_i h;exact .inr ⟨by decide,by decide,h.symm⟩
 split
 ·rename_i h;exact .inr ⟨by decide,by decide,h.symm⟩
 exact .inl rfl
end Go.Proofs.YtmapdjdnnhlpiaaGreatDoor
namespace Go.Proofs.YtmapdjdnnhlpiaaGreatDoor
open Go.RowKit
set_option maxRecDepth 8000
theorem cutB_snoc (c:UInt8) (t:List UInt8):∀s:List UInt8,cutB c (s++c::t)=cutB c s++cutB c t
 | []=>by simp[cutB]
 | b::s=>by
  have ih:=cutB_snoc c t s
  simp only[List.cons_append,cutB]
  split
  ·rw[ih];rfl
  ·rw[ih]
   have hne:=cutB_ne c s
   cases hc:cutB c s with
   | nil=>exact absurd hc hne
   | cons w r=>rfl
theorem linesB_snoc (s:List UInt8):linesB (s++[10])=cutB 10 s:=by
 unfold linesB
 rw[cutB_snoc 10 [] s]
 simp[cutB]
theorem linesB_parts (s t:List UInt8):linesB (s++[10]++t)=linesB (s++[10])++linesB t:=by
 rw[linesB_snoc]
 unfold linesB
 rw[List.append_assoc,List.singleton_append,cutB_snoc 10 t s]
 have hne:=cutB_ne 10 t
 have e:(cutB 10 s++cutB 10 t).getLast?=(cutB 10 t).getLast?:=by
  rw[List.getLast?_append,List.getLast?_eq_some_getLast hne]
  rfl
 rw[e]
 split
 ·rw[List.dropLast_append_of_ne_nil hne]
 ·rfl
theorem wordsB_parts (s t:List UInt8):wordsB (s++[32]++t)=wordsB s++wordsB t:=by
 unfold wordsB
 rw[List.append_assoc,List.singleton_append,cutB_snoc 32 t s,List.filter_append]
end Go.Proofs.YtmapdjdnnhlpiaaGreatDoor
namespace Go.Proofs.YtmapdjdnnhlpiaaGreatDoor
set_option maxRecDepth 8000
def joinN (l:List (List UInt8)):List UInt8:=l.flatMap fun x=>x++[10]
theorem joinN_cons (l:List (List UInt8)) (x:List UInt8):joinN (x::l)=x++[10]++joinN l:=by simp[joinN]
theorem lines_joinN (t:List UInt8):∀l:List (List UInt8),(∀x∈l,(10:UInt8)∉x)→linesB (joinN l++t)=l++linesB t
 | [],_=>rfl
 | x::l,h=>by
  rw[joinN_cons,List.append_assoc,linesB_parts,linesB_snoc,cutB_plain (h x (by simp)),lines_joinN t l fun y hy=>h y (by simp[hy])]
  rfl
theorem cut_tot (c:UInt8):∀s:List UInt8,((cutB c s).map fun x=>x.length+1).sum=s.length+1
 | []=>by simp[cutB]
 | b::s=>by
  have ih:=cut_tot c s
  unfold cutB
  split
  ·simp[ih];omega
  ·cases h:cutB c s with
   | nil=>rw[h] at ih;simp at ih
   | cons w r=>rw[h] at ih;simp at ih⊢;omega
theorem cut_no10:∀(c:UInt8) (s x:List UInt8),x∈cutB c s→c∉x
 | c,[],x,h=>by simp[cutB] at h;simp[h]
 | c,b::s,x,h=>by
  unfold cutB at h
  split at h
  ·rcases List.mem_cons.1 h with rfl | h
   ·simp
   ·exact cut_no10 c s x h
  ·rename_i hb
   have ih:=cut_no10 c s
   cases hc:cutB c s with
   | nil=>rw[hc] at h;simp at h;subst h;simp;exact fun e=>hb e.symm
   | cons w r =>
    rw[hc] at h ih
    rcases List.mem_cons.1 h with rfl | h
    ·have:=ih w (by simp)
     simp only[List.mem_cons,not_or]
     exact ⟨fun e=>hb e.symm,this⟩
    ·exact ih x (by simp[h])
theorem lines_no10 {s x:List UInt8} (h:x∈linesB s):(10:UInt8)∉x:=by
 unfold linesB at h
 split at h
 ·exact cut_no10 10 s x (List.dropLast_subset _ h)
 ·exact cut_no10 10 s x h
theorem linesB_nilN:linesB []=[]:=by decide
end Go.Proofs.YtmapdjdnnhlpiaaGreatDoor
namespace Go.Proofs.YtmapdjdnnhlpiaaGreatDoor
open Go.RowKit
set_option maxRecDepth 8000
theorem tfP (p:Prop):(p∧p=True)∨(¬p∧p=False):=by
 by_cases h:p
 ·exact .inl ⟨h,eq_true h⟩
 ·exact .inr ⟨h,eq_false h⟩
theorem refLinesS (s:List UInt8) (hs:s.length≤1000000):HFn Tryz.prog 14 [.v (str s)] (.sl (strs (linesB s))):=HFn.shut (refLines s hs) (by simp only[fzo_owStrs])
theorem refWordsS (s:List UInt8) (hs:s.length≤1000000):HFn Tryz.prog 15 [.v (str s)] (.sl (strs (wordsB s))):=HFn.shut (refWords s hs) (by simp only[fzo_owStrs])
end Go.Proofs.YtmapdjdnnhlpiaaGreatDoor
namespace Go.Proofs.YtmapdjdnnhlpiaaGreatDoor
open Go.RowKit
set_option maxRecDepth 8000
def insB2 (op:Int):Bool:=decide (op≠6) && decide (op≠11)
def jumB (op:Int):Bool:=decide (8≤op) && decide (op≤10)
theorem refInstr (x:LT):HFn Tryz.prog 50 [lineT x] (.v (.bool (insB2 x.op))):=by
 unfold insB2
 refine HCalls_body (fn:=Tryz.f50) 11 [2] (by kernel_rfl) rfl (by kernel_rfl) (HW.run 400 (by kernel_rfl) ?_)
 by_cases h1:x.op=6
 ·simp (config:={ decide:=true }) only[go_sem,Int.reduceToNat,Nat.reduceAdd,Nat.reduceSub,Nat.reduceMul,Nat.reduceBEq,reduceIte,reduceCtorEq,h1]
  try rfl
 ·by_cases h2:x.op=11
  ·simp (config:={ decide:=true }) only[go_sem,Int.reduceToNat,Nat.reduceAdd,Nat.reduceSub,Nat.reduceMul,Nat.reduceBEq,reduceIte,reduceCtorEq,h1,h2]
   try rfl
  ·simp (config:={ decide:=true }) only[go_sem,Int.reduceToNat,Nat.reduceAdd,Nat.reduceSub,Nat.reduceMul,Nat.reduceBEq,reduceIte,reduceCtorEq,h1,h2]
   try simp[h1,h2]
theorem refJump (x:LT):HFn Tryz.prog 49 [lineT x] (.v (.bool (jumB x.op))):=by
 unfold jumB
 refine HCalls_body (fn:=Tryz.f49) 11 [2] (by kernel_rfl) rfl (by kernel_rfl) (HW.run 400 (by kernel_rfl) ?_)
 by_cases h1:8≤x.op
 ·by_cases h2:x.op≤10
  ·simp (config:={ decide:=true }) only[go_sem,Int.reduceToNat,Nat.reduceAdd,Nat.reduceSub,Nat.reduceMul,Nat.reduceBEq,reduceIte,reduceCtorEq,h1,h2]
   try simp[h1,h2]
  ·simp (config:={ decide:=true }) only[go_sem,Int.reduceToNat,Nat.reduceAdd,Nat.reduceSub,Nat.reduceMul,Nat.reduceBEq,reduceIte,reduceCtorEq,h1,h2]
   try simp[h1,h2]
 ·simp (config:={ decide:=true }) only[go_sem,Int.reduceToNat,Nat.reduceAdd,Nat.reduceSub,Nat.reduceMul,Nat.reduceBEq,reduceIte,reduceCtorEq,h1]
  try simp[h1]
theorem refLabels (l:List LT) (s:List UInt8) (hl:l.length≤1000000):HFn Tryz.prog 48 [.sl (lns l),.v (str s)] (.v (.int .i64 (labN s l))):=by
 refine HCalls_body (fn:=Tryz.f48) 31 [4] (by kernel_rfl) rfl (by kernel_rfl) (HW.run 400 (by kernel_rfl) ?_)
 simp (config:={ decide:=true }) only[go_sem,Int.reduceToNat,Nat.reduceAdd,Nat.reduceSub,Nat.reduceMul,Nat.reduceBEq,reduceIte,reduceCtorEq]
 refine HW.loopG (fun k T H=>∃i:Nat,k=l.length-i∧i≤l.length∧T 0=.sl (lns l)∧T 1=.v (str s)∧T 5=.v (.int .i64 (labN s (l.take i)))∧T 6=.v (.int .i64 i)∧H=[]) l.length ⟨_,_,Ghost.refl,0,rfl,by omega,rfl,rfl,rfl,rfl,rfl⟩ ?_
 rintro k T H ⟨i,rfl,hi,h0,h1,h5,h6,rfl⟩
 refine HW.run 200 (by kernel_rfl) ?_
 by_cases hlt:i<l.length
 ·have hlt' : ((i:Int)<(l.length:Int))=True:=by simp only[eq_iff_iff,iff_true];omega
  have hx:l[i]?=some l[i]:=List.getElem?_eq_getElem hlt
  have htk:l.take (i+1)=l.take i++[l[i]]:=by rw[List.take_add_one,hx];rfl
  have hle:=fun s=>labN_snoc s l[i] (l.take i)
  generalize l[i]=x at hx htk hle
  have hn:=Nat.le_trans (List.length_filter_le (fun x=>decide (x.op=11) && decide (x.lab=s)) (l.take i)) (List.length_take_le _ _)
  have hn:labN s (l.take i)≤i:=hn
  have hw1:IntKind.i64.wrap ((labN s (l.take i):Int)+1)=((labN s (l.take i)+1:Nat):Int):=by rw[w64 (by omega) (by omega)];rfl
  by_cases h11:x.op=11
  ·by_cases hs:x.lab=s
   ·simp (config:={ decide:=true }) only[go_sem,Int.reduceToNat,Nat.reduceAdd,Nat.reduceSub,Nat.reduceMul,Nat.reduceBEq,reduceIte,reduceCtorEq,h0,h1,h5,h6,hlt',hx,lnrow,h11,hs,hw1]
    repeat (with_reducible refine And.intro ?_ ?_;·(with_reducible and_intros) <;> omega)
    refine ⟨_,_,Ghost.refl,l.length-(i+1),by omega,i+1,rfl,by omega,?_,?_,?_,?_,rfl⟩
    all_goals first | (simp (config:={ decide:=true }) only[go_sem,Nat.reduceBEq,reduceIte,h0,h1];done) | (simp (config:={ decide:=true }) only[go_sem,Nat.reduceBEq,reduceIte];rw[w64 (by omega) (by omega)];rfl) | (simp (config:={ decide:=true }) only[go_sem,Nat.reduceBEq,reduceIte];rw[htk,hle,if_pos ⟨h11,hs⟩])
   ·simp (config:={ decide:=true }) only[go_sem,Int.reduceToNat,Nat.reduceAdd,Nat.reduceSub,Nat.reduceMul,Nat.reduceBEq,reduceIte,reduceCtorEq,h0,h1,h5,h6,hlt',hx,lnrow,h11,hs]
    repeat (with_reducible refine And.intro ?_ ?_;·(with_reducible and_intros) <;> omega)
    refine ⟨_,_,Ghost.refl,l.length-(i+1),by omega,i+1,rfl,by omega,?_,?_,?_,?_,rfl⟩
    all_goals first | (simp (config:={ decide:=true }) only[go_sem,Nat.reduceBEq,reduceIte,h0,h1];done) | (simp (config:={ decide:=true }) only[go_sem,Nat.reduceBEq,reduceIte];rw[w64 (by omega) (by omega)];rfl) | (simp (config:={ decide:=true }) only[go_sem,Nat.reduceBEq,reduceIte,h5];rw[htk,hle,if_neg (fun h=>hs h.2)];rfl)
  ·simp (config:={ decide:=true }) only[go_sem,Int.reduceToNat,Nat.reduceAdd,Nat.reduceSub,Nat.reduceMul,Nat.reduceBEq,reduceIte,reduceCtorEq,h0,h1,h5,h6,hlt',hx,lnrow,h11]
   repeat (with_reducible refine And.intro ?_ ?_;·(with_reducible and_intros) <;> omega)
   refine ⟨_,_,Ghost.refl,l.length-(i+1),by omega,i+1,rfl,by omega,?_,?_,?_,?_,rfl⟩
   all_goals first | (simp (config:={ decide:=true }) only[go_sem,Nat.reduceBEq,reduceIte,h0,h1];done) | (simp (config:={ decide:=true }) only[go_sem,Nat.reduceBEq,reduceIte];rw[w64 (by omega) (by omega)];rfl) | (simp (config:={ decide:=true }) only[go_sem,Nat.reduceBEq,reduceIte,h5];rw[htk,hle,if_neg (fun h=>h11 h.1)];rfl)
 ·have hlt' : ((i:Int)<(l.length:Int))=False:=by simp only[eq_iff_iff,iff_false];omega
  have htk:l.take i=l:=List.take_of_length_le (by omega)
  simp (config:={ decide:=true }) only[go_sem,Int.reduceToNat,Nat.reduceAdd,Nat.reduceSub,Nat.reduceMul,Nat.reduceBEq,reduceIte,reduceCtorEq,h0,h1,h5,h6,hlt',htk]
end Go.Proofs.YtmapdjdnnhlpiaaGreatDoor
namespace Go.Proofs.YtmapdjdnnhlpiaaGreatDoor
open Go.RowKit
set_option maxRecDepth 8000
set_option maxHeartbeats 16000000 in
theorem refLineOne (l:List LT) (i:Nat) (x:LT) (hx:l[i]?=some x) (hl:l.length≤1000000) (k1:x.rg.length≤1000000) (k2:x.loc.length≤1000000) (k3:x.lab.length≤1000000) :
  HFn Tryz.prog 33 [.sl (lns l),.v (.int .i64 i)] (.v (.int .i64 (lineE (l.take i) x (l.drop (i+1))))):=by
 have hi:i<l.length:=(List.getElem?_eq_some_iff.1 hx).1
 have hlt:((i:Int)<(l.length:Int))=True:=by simp only[eq_iff_iff,iff_true];omega
 have hle:((i:Int)≤(l.length:Int))=True:=by simp only[eq_iff_iff,iff_true];omega
 have hle1:(((i+1:Nat):Int)≤(l.length:Int))=True:=by simp only[eq_iff_iff,iff_true];omega
 have hi1:IntKind.i64.wrap ((i:Int)+1)=((i+1:Nat):Int):=by rw[w64 (by omega) (by omega)];rfl
 have hA:=refLabels (l.take i) x.lab (by rw[List.length_take];omega)
 have hB:=refLabels (l.drop (i+1)) x.lab (by rw[List.length_drop];omega)
 have hRt:=refRight x.op x.rg x.loc x.lab x.n k1 k2 k3
 have hJ:=refJump x
 have htkd:List.take (l.length-(i+1)) (List.drop (i+1) l)=List.drop (i+1) l:=List.take_of_length_le (by rw[List.length_drop];omega)
 have hr0:rightB x.op x.rg x.loc x.lab x.n=x.right:=rfl
 rw[hr0] at hRt
 generalize hE:lineE (l.take i) x (l.drop (i+1))=E
 unfold lineE at hE
 refine HCalls_body (fn:=Tryz.f33) 91 [4] (by kernel_rfl) rfl (by kernel_rfl) (HW.run 400 (by kernel_rfl) ?_)
 simp (config:={ decide:=true }) only[go_sem,Int.reduceToNat,Nat.reduceAdd,Nat.reduceSub,Nat.reduceMul,Nat.reduceBEq,reduceIte,reduceCtorEq,hx,hlt,lnrow]
 repeat (with_reducible refine And.intro ?_ ?_;·(with_reducible and_intros) <;> omega)
 refine callX_fn 3 (hRt) (by simp only[go_sem]) rfl ?_
 cases hr:x.right with
 | false =>
  rw[if_pos hr] at hE
  simp (config:={ decide:=true }) only[go_sem,Int.reduceToNat,Nat.reduceAdd,Nat.reduceSub,Nat.reduceMul,Nat.reduceBEq,reduceIte,reduceCtorEq]
  rw[hE]
 | true =>
  rw[if_neg (by simp[hr])] at hE
  simp (config:={ decide:=true }) only[go_sem,Int.reduceToNat,Nat.reduceAdd,Nat.reduceSub,Nat.reduceMul,Nat.reduceBEq,reduceIte,reduceCtorEq]
  refine HW.treeI (fun T H=>T 0=.sl (lns l)∧T 1=.v (.int .i64 i)∧T 5=.pt 0 1 0 0∧T 27=.v (.bool (decide (x.op=11) && decide ((0:Int)<(labN x.lab (l.take i):Int))))∧H=[some ⟨50,5,[lnrow x]⟩]) (.light 0 (.light 1 (.light 2 (.light 3 (.light 4 (.light 5 (.light 7 (.light 8 (.heavy 6 [7,8] (.heavy 9 [] (.light 10 (.light 11 .leaf)) .stop) .stop))))))))) follows (by kernel_rfl) (by kernel_rfl) ?_ ?_
  ·by_cases o11:x.op=11
   ·simp (config:={ decide:=true }) only[go_sem,Int.reduceToNat,Nat.reduceAdd,Nat.reduceSub,Nat.reduceMul,Nat.reduceBEq,reduceIte,reduceCtorEq,o11,hle,Nat.sub_zero]
    refine callX_fn 3 (hA) (by simp only[go_sem]) rfl ?_
    simp (config:={ decide:=true }) only[go_sem,Int.reduceToNat,Nat.reduceAdd,Nat.reduceSub,Nat.reduceMul,Nat.reduceBEq,reduceIte,reduceCtorEq,o11,hle,decide_true,Bool.true_and]
    all_goals refine GQ.done ⟨?_,?_,?_,?_,rfl⟩
    all_goals simp (config:={ decide:=true }) only[go_sem,Nat.reduceBEq,reduceIte]
   ·simp (config:={ decide:=true }) only[go_sem,Int.reduceToNat,Nat.reduceAdd,Nat.reduceSub,Nat.reduceMul,Nat.reduceBEq,reduceIte,reduceCtorEq,o11,hle,decide_false,Bool.false_and]
    all_goals refine GQ.done ⟨?_,?_,?_,?_,rfl⟩
    all_goals simp (config:={ decide:=true }) only[go_sem,Nat.reduceBEq,reduceIte]
  rintro T H ⟨h0,h1,h5,h27,rfl⟩
  by_cases c1:x.op=11∧0<labN x.lab (l.take i)
  ·rw[if_pos c1] at hE
   have e27:(decide (x.op=11) && decide ((0:Int)<(labN x.lab (l.take i):Int)))=true:=by
    rw[Bool.and_eq_true,decide_eq_true_eq,decide_eq_true_eq];exact ⟨c1.1,by omega⟩
   rw[e27] at h27
   simp (config:={ decide:=true }) only[go_sem,Int.reduceToNat,Nat.reduceAdd,Nat.reduceSub,Nat.reduceMul,Nat.reduceBEq,reduceIte,reduceCtorEq,h27]
   rw[hE]
  rw[if_neg c1] at hE
  have e27:(decide (x.op=11) && decide ((0:Int)<(labN x.lab (l.take i):Int)))=false:=by
   rw[Bool.eq_false_iff,Ne,Bool.and_eq_true,decide_eq_true_eq,decide_eq_true_eq];exact fun h=>c1 ⟨h.1,by omega⟩
  rw[e27] at h27
  have hf6:(i=0→fenB (l.take i)=false):=fun h=>by subst h;rfl
  have last:∀(j:Nat) y,i=j+1→l[j]?=some y→fenB (l.take i)=decide (y.op=6):=fun j y hj hy=>by
   subst hj
   have htk:l.take (j+1)=l.take j++[y]:=by rw[List.take_add_one,hy];rfl
   rw[htk,fenB_snoc]
  by_cases c2:x.op=6∧fenB (l.take i)=true
  ·rw[if_pos c2] at hE
   obtain ⟨j,hj⟩:∃j,i=j+1:=⟨i-1,by rcases Nat.eq_zero_or_pos i with h | h;exact absurd c2.2 (by rw[hf6 h];decide);omega⟩
   have hy:l[j]?=some l[j]:=List.getElem?_eq_getElem (by omega)
   have y6:=(last j _ hj hy).symm.trans c2.2
   generalize l[j]=y at hy y6
   have y6:y.op=6:=by simpa using y6
   have hp:((0:Int)<(i:Int))=True:=by simp only[eq_iff_iff,iff_true];omega
   have hj1:IntKind.i64.wrap ((i:Int)-1)=(j:Int):=by rw[w64 (by omega) (by omega)];omega
   simp (config:={ decide:=true }) only[go_sem,Int.reduceToNat,Nat.reduceAdd,Nat.reduceSub,Nat.reduceMul,Nat.reduceBEq,reduceIte,reduceCtorEq,h0,h1,h5,h27,lnrow,c2.1,hp,hj1,hy,y6]
   refine ⟨by omega,?_⟩
   rw[hE]
  rw[if_neg c2] at hE
  by_cases o6:x.op=6
  ·have hfb:fenB (l.take i)=false:=by cases h:fenB (l.take i) with | true=>exact absurd ⟨o6,h⟩ c2 | false=>rfl
   rcases Nat.eq_zero_or_pos i with hz | hpos
   ·have hp:((0:Int)<(i:Int))=False:=by simp only[eq_iff_iff,iff_false];omega
    simp (config:={ decide:=true }) only[go_sem,Int.reduceToNat,Nat.reduceAdd,Nat.reduceSub,Nat.reduceMul,Nat.reduceBEq,reduceIte,reduceCtorEq,h0,h1,h5,h27,lnrow,eq_true o6,hp]
    refine HW.treeI (fun T H=>T 0=.sl (lns l)∧T 1=.v (.int .i64 i)∧T 5=.pt 0 1 0 0∧T 55=.v (.bool (jumB x.op && decide ((labN x.lab (l.drop (i+1)):Int)=0)))∧H=[some ⟨50,5,[lnrow x]⟩]) (.light 0 (.heavy 1 [] (.light 2 (.light 3 (.light 4 (.light 5 (.light 6 (.light 7 (.light 8 (.heavy 9 [] (.light 10 (.light 11 .leaf)) .stop)))))))) .stop)) follows (by kernel_rfl) (by kernel_rfl) ?_ ?_
    ·cases hjb:jumB x.op with
     | true =>
      rw[hjb] at hJ
      simp (config:={ decide:=true }) only[go_sem,Int.reduceToNat,Nat.reduceAdd,Nat.reduceSub,Nat.reduceMul,Nat.reduceBEq,reduceIte,reduceCtorEq,h0,h1,h5,lnrow]
      refine callX_fn 3 (hJ) (by simp only[go_sem]) rfl ?_
      simp (config:={ decide:=true }) only[go_sem,Int.reduceToNat,Nat.reduceAdd,Nat.reduceSub,Nat.reduceMul,Nat.reduceBEq,reduceIte,reduceCtorEq,h0,h1,h5,hi1,hle1,htkd]
      refine callX_fn 3 (hB) (by simp only[go_sem]) rfl ?_
      simp (config:={ decide:=true }) only[go_sem,Int.reduceToNat,Nat.reduceAdd,Nat.reduceSub,Nat.reduceMul,Nat.reduceBEq,reduceIte,reduceCtorEq,h0,h1,h5]
      all_goals refine GQ.done ⟨?_,?_,?_,?_,rfl⟩
      all_goals simp (config:={ decide:=true }) only[go_sem,Nat.reduceBEq,reduceIte,h0,h1,h5,Bool.true_and]
     | false =>
      rw[hjb] at hJ
      simp (config:={ decide:=true }) only[go_sem,Int.reduceToNat,Nat.reduceAdd,Nat.reduceSub,Nat.reduceMul,Nat.reduceBEq,reduceIte,reduceCtorEq,h0,h1,h5,lnrow]
      refine callX_fn 3 (hJ) (by simp only[go_sem]) rfl ?_
      simp (config:={ decide:=true }) only[go_sem,Int.reduceToNat,Nat.reduceAdd,Nat.reduceSub,Nat.reduceMul,Nat.reduceBEq,reduceIte,reduceCtorEq,h0,h1,h5]
      all_goals refine GQ.done ⟨?_,?_,?_,?_,rfl⟩
      all_goals simp (config:={ decide:=true }) only[go_sem,Nat.reduceBEq,reduceIte,h0,h1,h5,Bool.false_and]
    clear h0 h1 h5 h27 T
    rintro T H ⟨h0,h1,h5,h55,rfl⟩
    by_cases c3:8≤x.op∧x.op≤10∧labN x.lab (l.drop (i+1))=0
    ·rw[if_pos c3] at hE
     rw[show (jumB x.op && decide ((labN x.lab (l.drop (i+1)):Int)=0))=true from by simp[jumB,c3.1,c3.2.1,c3.2.2]] at h55
     simp (config:={ decide:=true }) only[go_sem,Int.reduceToNat,Nat.reduceAdd,Nat.reduceSub,Nat.reduceMul,Nat.reduceBEq,reduceIte,reduceCtorEq,h55]
     rw[hE]
    rw[if_neg c3] at hE
    rw[show (jumB x.op && decide ((labN x.lab (l.drop (i+1)):Int)=0))=false from by
     rw[Bool.eq_false_iff];intro hh;simp[jumB] at hh;exact c3 ⟨hh.1.1,hh.1.2,by omega⟩] at h55
    simp (config:={ decide:=true }) only[go_sem,Int.reduceToNat,Nat.reduceAdd,Nat.reduceSub,Nat.reduceMul,Nat.reduceBEq,reduceIte,reduceCtorEq,h0,h1,h5,h55]
    refine HW.loopG (fun k T H=>∃j:Nat,k=i-j∧j≤i∧T 0=.sl (lns l)∧T 1=.v (.int .i64 i)∧T 5=.pt 0 1 0 0∧T 6=.v (.int .i64 (insN (l.take j)))∧T 7=.v (.int .i64 (mrkN (l.take j)))∧T 8=.v (.int .i64 j)∧H=[some ⟨50,5,[lnrow x]⟩]) i ⟨_,_,Ghost.refl,0,rfl,by omega,by simp (config:={ decide:=true }) only[go_sem,Nat.reduceBEq,reduceIte,h0],by simp (config:={ decide:=true }) only[go_sem,Nat.reduceBEq,reduceIte,h1],by simp (config:={ decide:=true }) only[go_sem,Nat.reduceBEq,reduceIte,h5],rfl,rfl,rfl,rfl⟩ ?_
    clear h0 h1 h5 h55 T
    rintro k T H ⟨j,rfl,hji,h0,h1,h5,h6,h7,h8,rfl⟩
    refine HW.run 200 (by kernel_rfl) ?_
    by_cases hjl:j<i
    ·have hjl' : ((j:Int)<(i:Int))=True:=by simp only[eq_iff_iff,iff_true];omega
     have hy:l[j]?=some l[j]:=List.getElem?_eq_getElem (by omega)
     have htk:l.take (j+1)=l.take j++[l[j]]:=by rw[List.take_add_one,hy];rfl
     generalize l[j]=y at hy htk
     have hjll:((j:Int)<(l.length:Int))=True:=by simp only[eq_iff_iff,iff_true];omega
     have i1:=insN_snoc (l.take j) y
     have m1:=mrkN_snoc (l.take j) y
     have i2:=insN_le (l.take j)
     have m2:=mrkN_le (l.take j)
     rw[←htk] at i1 m1
     rw[List.length_take] at i2 m2
     have wi:IntKind.i64.wrap ((insN (l.take j):Int)+1)=((insN (l.take j)+1:Nat):Int):=by rw[w64 (by omega) (by omega)];rfl
     have wm:IntKind.i64.wrap ((mrkN (l.take j):Int)+1)=((mrkN (l.take j)+1:Nat):Int):=by rw[w64 (by omega) (by omega)];rfl
     have hI:=refInstr y
     have key:∀b,insB2 y.op=b→(b=true↔(y.op≠6∧y.op≠11)):=fun b hb=>by subst hb;simp[insB2]
     simp (config:={ decide:=true }) only[go_sem,Int.reduceToNat,Nat.reduceAdd,Nat.reduceSub,Nat.reduceMul,Nat.reduceBEq,reduceIte,reduceCtorEq,h0,h1,h5,h6,h7,h8,hjl',hjll,hy,lnrow]
     repeat (with_reducible refine And.intro ?_ ?_;·(with_reducible and_intros) <;> omega)
     cases hb:insB2 y.op with
     | true =>
      have hk:=(key _ hb).1 rfl
      rw[hb] at hI
      rw[if_pos hk] at i1
      rw[if_neg hk.2] at m1
      refine callX_fn 3 (hI) (by simp only[go_sem]) rfl ?_
      simp (config:={ decide:=true }) only[go_sem,Int.reduceToNat,Nat.reduceAdd,Nat.reduceSub,Nat.reduceMul,Nat.reduceBEq,reduceIte,reduceCtorEq,h0,h1,h5,h6,h7,h8,hjl',hjll,hy,lnrow,wi,hk.2]
      repeat (with_reducible refine And.intro ?_ ?_;·(with_reducible and_intros) <;> omega)
      refine ⟨_,_,Ghost.refl,i-(j+1),by omega,j+1,rfl,by omega,?_,?_,?_,?_,?_,?_,rfl⟩
      all_goals first | (simp (config:={ decide:=true }) only[go_sem,Nat.reduceBEq,reduceIte,h0,h1,h5];done) | (simp (config:={ decide:=true }) only[go_sem,Nat.reduceBEq,reduceIte,h7,i1,m1];done) | (simp (config:={ decide:=true }) only[go_sem,Nat.reduceBEq,reduceIte,h7,i1,m1,Nat.add_zero];done) | (simp (config:={ decide:=true }) only[go_sem,Nat.reduceBEq,reduceIte];rw[w64 (by omega) (by omega)];rfl)
     | false =>
      rw[hb] at hI
      have hnk:¬(y.op≠6∧y.op≠11):=fun h=>by have:=(key _ hb).2 h;cases this
      rw[if_neg hnk] at i1
      refine callX_fn 3 (hI) (by simp only[go_sem]) rfl ?_
      by_cases o11:y.op=11
      ·rw[if_pos o11] at m1
       simp (config:={ decide:=true }) only[go_sem,Int.reduceToNat,Nat.reduceAdd,Nat.reduceSub,Nat.reduceMul,Nat.reduceBEq,reduceIte,reduceCtorEq,h0,h1,h5,h6,h7,h8,hjl',hjll,hy,lnrow,wm,o11]
       repeat (with_reducible refine And.intro ?_ ?_;·(with_reducible and_intros) <;> omega)
       refine ⟨_,_,Ghost.refl,i-(j+1),by omega,j+1,rfl,by omega,?_,?_,?_,?_,?_,?_,rfl⟩
       all_goals first | (simp (config:={ decide:=true }) only[go_sem,Nat.reduceBEq,reduceIte,h0,h1,h5];done) | (simp (config:={ decide:=true }) only[go_sem,Nat.reduceBEq,reduceIte,h6,i1,m1,Nat.add_zero];done) | (simp (config:={ decide:=true }) only[go_sem,Nat.reduceBEq,reduceIte];rw[w64 (by omega) (by omega)];rfl)
      ·rw[if_neg o11] at m1
       simp (config:={ decide:=true }) only[go_sem,Int.reduceToNat,Nat.reduceAdd,Nat.reduceSub,Nat.reduceMul,Nat.reduceBEq,reduceIte,reduceCtorEq,h0,h1,h5,h6,h7,h8,hjl',hjll,hy,lnrow,o11]
       repeat (with_reducible refine And.intro ?_ ?_;·(with_reducible and_intros) <;> omega)
       refine ⟨_,_,Ghost.refl,i-(j+1),by omega,j+1,rfl,by omega,?_,?_,?_,?_,?_,?_,rfl⟩
       all_goals first | (simp (config:={ decide:=true }) only[go_sem,Nat.reduceBEq,reduceIte,h0,h1,h5];done) | (simp (config:={ decide:=true }) only[go_sem,Nat.reduceBEq,reduceIte,h6,h7,i1,m1,Nat.add_zero];done) | (simp (config:={ decide:=true }) only[go_sem,Nat.reduceBEq,reduceIte];rw[w64 (by omega) (by omega)];rfl)
    ·have hjl' : ((j:Int)<(i:Int))=False:=by simp only[eq_iff_iff,iff_false];omega
     obtain rfl:j=i:=by omega
     have hI:=refInstr x
     simp (config:={ decide:=true }) only[go_sem,Int.reduceToNat,Nat.reduceAdd,Nat.reduceSub,Nat.reduceMul,Nat.reduceBEq,reduceIte,reduceCtorEq,h0,h1,h5,h6,h7,h8,hjl',lnrow]
     by_cases q11:x.op=11
     ·have hb:insB2 x.op=false:=by simp[insB2,q11]
      rw[hb] at hI
      refine callX_fn 3 (hI) (by simp only[go_sem]) rfl ?_
      by_cases q8:8≤mrkN (l.take j)
      ·have q8' : ((8:Int)≤(mrkN (l.take j):Int))=True:=by simp only[eq_iff_iff,iff_true];omega
       rw[if_pos (.inr ⟨q11,q8⟩)] at hE
       simp (config:={ decide:=true }) only[go_sem,Int.reduceToNat,Nat.reduceAdd,Nat.reduceSub,Nat.reduceMul,Nat.reduceBEq,reduceIte,reduceCtorEq,h0,h1,h5,h6,h7,h8,lnrow,q11,q8']
       rw[hE]
      ·have q8' : ((8:Int)≤(mrkN (l.take j):Int))=False:=by simp only[eq_iff_iff,iff_false];omega
       rw[if_neg (by rintro (h | h);exact h.2.1 q11;exact q8 h.2)] at hE
       simp (config:={ decide:=true }) only[go_sem,Int.reduceToNat,Nat.reduceAdd,Nat.reduceSub,Nat.reduceMul,Nat.reduceBEq,reduceIte,reduceCtorEq,h0,h1,h5,h6,h7,h8,lnrow,q11,q8']
       rw[hE]
     ·by_cases q6:x.op=6
      ·have hb:insB2 x.op=false:=by simp[insB2,q6]
       rw[hb] at hI
       refine callX_fn 3 (hI) (by simp only[go_sem]) rfl ?_
       rw[if_neg (by rintro (h | h);exact h.1 q6;exact q11 h.1)] at hE
       simp (config:={ decide:=true }) only[go_sem,Int.reduceToNat,Nat.reduceAdd,Nat.reduceSub,Nat.reduceMul,Nat.reduceBEq,reduceIte,reduceCtorEq,h0,h1,h5,h6,h7,h8,lnrow,q11]
       rw[hE]
      ·have hb:insB2 x.op=true:=by simp[insB2,q6,q11]
       rw[hb] at hI
       refine callX_fn 3 (hI) (by simp only[go_sem]) rfl ?_
       by_cases q8:8≤insN (l.take j)
       ·have q8' : ((8:Int)≤(insN (l.take j):Int))=True:=by simp only[eq_iff_iff,iff_true];omega
        rw[if_pos (.inl ⟨q6,q11,q8⟩)] at hE
        simp (config:={ decide:=true }) only[go_sem,Int.reduceToNat,Nat.reduceAdd,Nat.reduceSub,Nat.reduceMul,Nat.reduceBEq,reduceIte,reduceCtorEq,h0,h1,h5,h6,h7,h8,lnrow,q11,q8']
        rw[hE]
       ·have q8' : ((8:Int)≤(insN (l.take j):Int))=False:=by simp only[eq_iff_iff,iff_false];omega
        rw[if_neg (by rintro (h | h);exact q8 h.2.2;exact q11 h.1)] at hE
        simp (config:={ decide:=true }) only[go_sem,Int.reduceToNat,Nat.reduceAdd,Nat.reduceSub,Nat.reduceMul,Nat.reduceBEq,reduceIte,reduceCtorEq,h0,h1,h5,h6,h7,h8,lnrow,q11,q8']
        rw[hE]
   ·obtain ⟨m,hm⟩:∃m,i=m+1:=⟨i-1,by omega⟩
    have hy0:l[m]?=some l[m]:=List.getElem?_eq_getElem (by omega)
    have y6:=(last m _ hm hy0).symm.trans hfb
    generalize l[m]=y0 at hy0 y6
    have y6:¬y0.op=6:=by simpa using y6
    have hp:((0:Int)<(i:Int))=True:=by simp only[eq_iff_iff,iff_true];omega
    have hj1:IntKind.i64.wrap ((i:Int)-1)=(m:Int):=by rw[w64 (by omega) (by omega)];omega
    simp (config:={ decide:=true }) only[go_sem,Int.reduceToNat,Nat.reduceAdd,Nat.reduceSub,Nat.reduceMul,Nat.reduceBEq,reduceIte,reduceCtorEq,h0,h1,h5,h27,lnrow,eq_true o6,hp,hj1,hy0,y6]
    refine ⟨by omega,?_⟩
    refine HW.treeI (fun T H=>T 0=.sl (lns l)∧T 1=.v (.int .i64 i)∧T 5=.pt 0 1 0 0∧T 55=.v (.bool (jumB x.op && decide ((labN x.lab (l.drop (i+1)):Int)=0)))∧H=[some ⟨50,5,[lnrow x]⟩]) (.light 0 (.heavy 1 [] (.light 2 (.light 3 (.light 4 (.light 5 (.light 6 (.light 7 (.light 8 (.heavy 9 [] (.light 10 (.light 11 .leaf)) .stop)))))))) .stop)) follows (by kernel_rfl) (by kernel_rfl) ?_ ?_
    ·cases hjb:jumB x.op with
     | true =>
      rw[hjb] at hJ
      simp (config:={ decide:=true }) only[go_sem,Int.reduceToNat,Nat.reduceAdd,Nat.reduceSub,Nat.reduceMul,Nat.reduceBEq,reduceIte,reduceCtorEq,h0,h1,h5,lnrow]
      refine callX_fn 3 (hJ) (by simp only[go_sem]) rfl ?_
      simp (config:={ decide:=true }) only[go_sem,Int.reduceToNat,Nat.reduceAdd,Nat.reduceSub,Nat.reduceMul,Nat.reduceBEq,reduceIte,reduceCtorEq,h0,h1,h5,hi1,hle1,htkd]
      refine callX_fn 3 (hB) (by simp only[go_sem]) rfl ?_
      simp (config:={ decide:=true }) only[go_sem,Int.reduceToNat,Nat.reduceAdd,Nat.reduceSub,Nat.reduceMul,Nat.reduceBEq,reduceIte,reduceCtorEq,h0,h1,h5]
      all_goals refine GQ.done ⟨?_,?_,?_,?_,rfl⟩
      all_goals simp (config:={ decide:=true }) only[go_sem,Nat.reduceBEq,reduceIte,h0,h1,h5,Bool.true_and]
     | false =>
      rw[hjb] at hJ
      simp (config:={ decide:=true }) only[go_sem,Int.reduceToNat,Nat.reduceAdd,Nat.reduceSub,Nat.reduceMul,Nat.reduceBEq,reduceIte,reduceCtorEq,h0,h1,h5,lnrow]
      refine callX_fn 3 (hJ) (by simp only[go_sem]) rfl ?_
      simp (config:={ decide:=true }) only[go_sem,Int.reduceToNat,Nat.reduceAdd,Nat.reduceSub,Nat.reduceMul,Nat.reduceBEq,reduceIte,reduceCtorEq,h0,h1,h5]
      all_goals refine GQ.done ⟨?_,?_,?_,?_,rfl⟩
      all_goals simp (config:={ decide:=true }) only[go_sem,Nat.reduceBEq,reduceIte,h0,h1,h5,Bool.false_and]
    clear h0 h1 h5 h27 T
    rintro T H ⟨h0,h1,h5,h55,rfl⟩
    by_cases c3:8≤x.op∧x.op≤10∧labN x.lab (l.drop (i+1))=0
    ·rw[if_pos c3] at hE
     rw[show (jumB x.op && decide ((labN x.lab (l.drop (i+1)):Int)=0))=true from by simp[jumB,c3.1,c3.2.1,c3.2.2]] at h55
     simp (config:={ decide:=true }) only[go_sem,Int.reduceToNat,Nat.reduceAdd,Nat.reduceSub,Nat.reduceMul,Nat.reduceBEq,reduceIte,reduceCtorEq,h55]
     rw[hE]
    rw[if_neg c3] at hE
    rw[show (jumB x.op && decide ((labN x.lab (l.drop (i+1)):Int)=0))=false from by
     rw[Bool.eq_false_iff];intro hh;simp[jumB] at hh;exact c3 ⟨hh.1.1,hh.1.2,by omega⟩] at h55
    simp (config:={ decide:=true }) only[go_sem,Int.reduceToNat,Nat.reduceAdd,Nat.reduceSub,Nat.reduceMul,Nat.reduceBEq,reduceIte,reduceCtorEq,h0,h1,h5,h55]
    refine HW.loopG (fun k T H=>∃j:Nat,k=i-j∧j≤i∧T 0=.sl (lns l)∧T 1=.v (.int .i64 i)∧T 5=.pt 0 1 0 0∧T 6=.v (.int .i64 (insN (l.take j)))∧T 7=.v (.int .i64 (mrkN (l.take j)))∧T 8=.v (.int .i64 j)∧H=[some ⟨50,5,[lnrow x]⟩]) i ⟨_,_,Ghost.refl,0,rfl,by omega,by simp (config:={ decide:=true }) only[go_sem,Nat.reduceBEq,reduceIte,h0],by simp (config:={ decide:=true }) only[go_sem,Nat.reduceBEq,reduceIte,h1],by simp (config:={ decide:=true }) only[go_sem,Nat.reduceBEq,reduceIte,h5],rfl,rfl,rfl,rfl⟩ ?_
    clear h0 h1 h5 h55 T
    rintro k T H ⟨j,rfl,hji,h0,h1,h5,h6,h7,h8,rfl⟩
    refine HW.run 200 (by kernel_rfl) ?_
    by_cases hjl:j<i
    ·have hjl' : ((j:Int)<(i:Int))=True:=by simp only[eq_iff_iff,iff_true];omega
     have hy:l[j]?=some l[j]:=List.getElem?_eq_getElem (by omega)
     have htk:l.take (j+1)=l.take j++[l[j]]:=by rw[List.take_add_one,hy];rfl
     generalize l[j]=y at hy htk
     have hjll:((j:Int)<(l.length:Int))=True:=by simp only[eq_iff_iff,iff_true];omega
     have i1:=insN_snoc (l.take j) y
     have m1:=mrkN_snoc (l.take j) y
     have i2:=insN_le (l.take j)
     have m2:=mrkN_le (l.take j)
     rw[←htk] at i1 m1
     rw[List.length_take] at i2 m2
     have wi:IntKind.i64.wrap ((insN (l.take j):Int)+1)=((insN (l.take j)+1:Nat):Int):=by rw[w64 (by omega) (by omega)];rfl
     have wm:IntKind.i64.wrap ((mrkN (l.take j):Int)+1)=((mrkN (l.take j)+1:Nat):Int):=by rw[w64 (by omega) (by omega)];rfl
     have hI:=refInstr y
     have key:∀b,insB2 y.op=b→(b=true↔(y.op≠6∧y.op≠11)):=fun b hb=>by subst hb;simp[insB2]
     simp (config:={ decide:=true }) only[go_sem,Int.reduceToNat,Nat.reduceAdd,Nat.reduceSub,Nat.reduceMul,Nat.reduceBEq,reduceIte,reduceCtorEq,h0,h1,h5,h6,h7,h8,hjl',hjll,hy,lnrow]
     repeat (with_reducible refine And.intro ?_ ?_;·(with_reducible and_intros) <;> omega)
     cases hb:insB2 y.op with
     | true =>
      have hk:=(key _ hb).1 rfl
      rw[hb] at hI
      rw[if_pos hk] at i1
      rw[if_neg hk.2] at m1
      refine callX_fn 3 (hI) (by simp only[go_sem]) rfl ?_
      simp (config:={ decide:=true }) only[go_sem,Int.reduceToNat,Nat.reduceAdd,Nat.reduceSub,Nat.reduceMul,Nat.reduceBEq,reduceIte,reduceCtorEq,h0,h1,h5,h6,h7,h8,hjl',hjll,hy,lnrow,wi,hk.2]
      repeat (with_reducible refine And.intro ?_ ?_;·(with_reducible and_intros) <;> omega)
      refine ⟨_,_,Ghost.refl,i-(j+1),by omega,j+1,rfl,by omega,?_,?_,?_,?_,?_,?_,rfl⟩
      all_goals first | (simp (config:={ decide:=true }) only[go_sem,Nat.reduceBEq,reduceIte,h0,h1,h5];done) | (simp (config:={ decide:=true }) only[go_sem,Nat.reduceBEq,reduceIte,h7,i1,m1];done) | (simp (config:={ decide:=true }) only[go_sem,Nat.reduceBEq,reduceIte,h7,i1,m1,Nat.add_zero];done) | (simp (config:={ decide:=true }) only[go_sem,Nat.reduceBEq,reduceIte];rw[w64 (by omega) (by omega)];rfl)
     | false =>
      rw[hb] at hI
      have hnk:¬(y.op≠6∧y.op≠11):=fun h=>by have:=(key _ hb).2 h;cases this
      rw[if_neg hnk] at i1
      refine callX_fn 3 (hI) (by simp only[go_sem]) rfl ?_
      by_cases o11:y.op=11
      ·rw[if_pos o11] at m1
       simp (config:={ decide:=true }) only[go_sem,Int.reduceToNat,Nat.reduceAdd,Nat.reduceSub,Nat.reduceMul,Nat.reduceBEq,reduceIte,reduceCtorEq,h0,h1,h5,h6,h7,h8,hjl',hjll,hy,lnrow,wm,o11]
       repeat (with_reducible refine And.intro ?_ ?_;·(with_reducible and_intros) <;> omega)
       refine ⟨_,_,Ghost.refl,i-(j+1),by omega,j+1,rfl,by omega,?_,?_,?_,?_,?_,?_,rfl⟩
       all_goals first | (simp (config:={ decide:=true }) only[go_sem,Nat.reduceBEq,reduceIte,h0,h1,h5];done) | (simp (config:={ decide:=true }) only[go_sem,Nat.reduceBEq,reduceIte,h6,i1,m1,Nat.add_zero];done) | (simp (config:={ decide:=true }) only[go_sem,Nat.reduceBEq,reduceIte];rw[w64 (by omega) (by omega)];rfl)
      ·rw[if_neg o11] at m1
       simp (config:={ decide:=true }) only[go_sem,Int.reduceToNat,Nat.reduceAdd,Nat.reduceSub,Nat.reduceMul,Nat.reduceBEq,reduceIte,reduceCtorEq,h0,h1,h5,h6,h7,h8,hjl',hjll,hy,lnrow,o11]
       repeat (with_reducible refine And.intro ?_ ?_;·(with_reducible and_intros) <;> omega)
       refine ⟨_,_,Ghost.refl,i-(j+1),by omega,j+1,rfl,by omega,?_,?_,?_,?_,?_,?_,rfl⟩
       all_goals first | (simp (config:={ decide:=true }) only[go_sem,Nat.reduceBEq,reduceIte,h0,h1,h5];done) | (simp (config:={ decide:=true }) only[go_sem,Nat.reduceBEq,reduceIte,h6,h7,i1,m1,Nat.add_zero];done) | (simp (config:={ decide:=true }) only[go_sem,Nat.reduceBEq,reduceIte];rw[w64 (by omega) (by omega)];rfl)
    ·have hjl' : ((j:Int)<(i:Int))=False:=by simp only[eq_iff_iff,iff_false];omega
     obtain rfl:j=i:=by omega
     have hI:=refInstr x
     simp (config:={ decide:=true }) only[go_sem,Int.reduceToNat,Nat.reduceAdd,Nat.reduceSub,Nat.reduceMul,Nat.reduceBEq,reduceIte,reduceCtorEq,h0,h1,h5,h6,h7,h8,hjl',lnrow]
     by_cases q11:x.op=11
     ·have hb:insB2 x.op=false:=by simp[insB2,q11]
      rw[hb] at hI
      refine callX_fn 3 (hI) (by simp only[go_sem]) rfl ?_
      by_cases q8:8≤mrkN (l.take j)
      ·have q8' : ((8:Int)≤(mrkN (l.take j):Int))=True:=by simp only[eq_iff_iff,iff_true];omega
       rw[if_pos (.inr ⟨q11,q8⟩)] at hE
       simp (config:={ decide:=true }) only[go_sem,Int.reduceToNat,Nat.reduceAdd,Nat.reduceSub,Nat.reduceMul,Nat.reduceBEq,reduceIte,reduceCtorEq,h0,h1,h5,h6,h7,h8,lnrow,q11,q8']
       rw[hE]
      ·have q8' : ((8:Int)≤(mrkN (l.take j):Int))=False:=by simp only[eq_iff_iff,iff_false];omega
       rw[if_neg (by rintro (h | h);exact h.2.1 q11;exact q8 h.2)] at hE
       simp (config:={ decide:=true }) only[go_sem,Int.reduceToNat,Nat.reduceAdd,Nat.reduceSub,Nat.reduceMul,Nat.reduceBEq,reduceIte,reduceCtorEq,h0,h1,h5,h6,h7,h8,lnrow,q11,q8']
       rw[hE]
     ·by_cases q6:x.op=6
      ·have hb:insB2 x.op=false:=by simp[insB2,q6]
       rw[hb] at hI
       refine callX_fn 3 (hI) (by simp only[go_sem]) rfl ?_
       rw[if_neg (by rintro (h | h);exact h.1 q6;exact q11 h.1)] at hE
       simp (config:={ decide:=true }) only[go_sem,Int.reduceToNat,Nat.reduceAdd,Nat.reduceSub,Nat.reduceMul,Nat.reduceBEq,reduceIte,reduceCtorEq,h0,h1,h5,h6,h7,h8,lnrow,q11]
       rw[hE]
      ·have hb:insB2 x.op=true:=by simp[insB2,q6,q11]
       rw[hb] at hI
       refine callX_fn 3 (hI) (by simp only[go_sem]) rfl ?_
       by_cases q8:8≤insN (l.take j)
       ·have q8' : ((8:Int)≤(insN (l.take j):Int))=True:=by simp only[eq_iff_iff,iff_true];omega
        rw[if_pos (.inl ⟨q6,q11,q8⟩)] at hE
        simp (config:={ decide:=true }) only[go_sem,Int.reduceToNat,Nat.reduceAdd,Nat.reduceSub,Nat.reduceMul,Nat.reduceBEq,reduceIte,reduceCtorEq,h0,h1,h5,h6,h7,h8,lnrow,q11,q8']
        rw[hE]
       ·have q8' : ((8:Int)≤(insN (l.take j):Int))=False:=by simp only[eq_iff_iff,iff_false];omega
        rw[if_neg (by rintro (h | h);exact q8 h.2.2;exact q11 h.1)] at hE
        simp (config:={ decide:=true }) only[go_sem,Int.reduceToNat,Nat.reduceAdd,Nat.reduceSub,Nat.reduceMul,Nat.reduceBEq,reduceIte,reduceCtorEq,h0,h1,h5,h6,h7,h8,lnrow,q11,q8']
        rw[hE]
  ·simp (config:={ decide:=true }) only[go_sem,Int.reduceToNat,Nat.reduceAdd,Nat.reduceSub,Nat.reduceMul,Nat.reduceBEq,reduceIte,reduceCtorEq,h0,h1,h5,h27,lnrow,o6]
   refine HW.treeI (fun T H=>T 0=.sl (lns l)∧T 1=.v (.int .i64 i)∧T 5=.pt 0 1 0 0∧T 55=.v (.bool (jumB x.op && decide ((labN x.lab (l.drop (i+1)):Int)=0)))∧H=[some ⟨50,5,[lnrow x]⟩]) (.light 0 (.heavy 1 [] (.light 2 (.light 3 (.light 4 (.light 5 (.light 6 (.light 7 (.light 8 (.heavy 9 [] (.light 10 (.light 11 .leaf)) .stop)))))))) .stop)) follows (by kernel_rfl) (by kernel_rfl) ?_ ?_
   ·cases hjb:jumB x.op with
    | true =>
     rw[hjb] at hJ
     simp (config:={ decide:=true }) only[go_sem,Int.reduceToNat,Nat.reduceAdd,Nat.reduceSub,Nat.reduceMul,Nat.reduceBEq,reduceIte,reduceCtorEq,h0,h1,h5,lnrow]
     refine callX_fn 3 (hJ) (by simp only[go_sem]) rfl ?_
     simp (config:={ decide:=true }) only[go_sem,Int.reduceToNat,Nat.reduceAdd,Nat.reduceSub,Nat.reduceMul,Nat.reduceBEq,reduceIte,reduceCtorEq,h0,h1,h5,hi1,hle1,htkd]
     refine callX_fn 3 (hB) (by simp only[go_sem]) rfl ?_
     simp (config:={ decide:=true }) only[go_sem,Int.reduceToNat,Nat.reduceAdd,Nat.reduceSub,Nat.reduceMul,Nat.reduceBEq,reduceIte,reduceCtorEq,h0,h1,h5]
     all_goals refine GQ.done ⟨?_,?_,?_,?_,rfl⟩
     all_goals simp (config:={ decide:=true }) only[go_sem,Nat.reduceBEq,reduceIte,h0,h1,h5,Bool.true_and]
    | false =>
     rw[hjb] at hJ
     simp (config:={ decide:=true }) only[go_sem,Int.reduceToNat,Nat.reduceAdd,Nat.reduceSub,Nat.reduceMul,Nat.reduceBEq,reduceIte,reduceCtorEq,h0,h1,h5,lnrow]
     refine callX_fn 3 (hJ) (by simp only[go_sem]) rfl ?_
     simp (config:={ decide:=true }) only[go_sem,Int.reduceToNat,Nat.reduceAdd,Nat.reduceSub,Nat.reduceMul,Nat.reduceBEq,reduceIte,reduceCtorEq,h0,h1,h5]
     all_goals refine GQ.done ⟨?_,?_,?_,?_,rfl⟩
     all_goals simp (config:={ decide:=true }) only[go_sem,Nat.reduceBEq,reduceIte,h0,h1,h5,Bool.false_and]
   clear h0 h1 h5 h27 T
   rintro T H ⟨h0,h1,h5,h55,rfl⟩
   by_cases c3:8≤x.op∧x.op≤10∧labN x.lab (l.drop (i+1))=0
   ·rw[if_pos c3] at hE
    rw[show (jumB x.op && decide ((labN x.lab (l.drop (i+1)):Int)=0))=true from by simp[jumB,c3.1,c3.2.1,c3.2.2]] at h55
    simp (config:={ decide:=true }) only[go_sem,Int.reduceToNat,Nat.reduceAdd,Nat.reduceSub,Nat.reduceMul,Nat.reduceBEq,reduceIte,reduceCtorEq,h55]
    rw[hE]
   rw[if_neg c3] at hE
   rw[show (jumB x.op && decide ((labN x.lab (l.drop (i+1)):Int)=0))=false from by
    rw[Bool.eq_false_iff];intro hh;simp[jumB] at hh;exact c3 ⟨hh.1.1,hh.1.2,by omega⟩] at h55
   simp (config:={ decide:=true }) only[go_sem,Int.reduceToNat,Nat.reduceAdd,Nat.reduceSub,Nat.reduceMul,Nat.reduceBEq,reduceIte,reduceCtorEq,h0,h1,h5,h55]
   refine HW.loopG (fun k T H=>∃j:Nat,k=i-j∧j≤i∧T 0=.sl (lns l)∧T 1=.v (.int .i64 i)∧T 5=.pt 0 1 0 0∧T 6=.v (.int .i64 (insN (l.take j)))∧T 7=.v (.int .i64 (mrkN (l.take j)))∧T 8=.v (.int .i64 j)∧H=[some ⟨50,5,[lnrow x]⟩]) i ⟨_,_,Ghost.refl,0,rfl,by omega,by simp (config:={ decide:=true }) only[go_sem,Nat.reduceBEq,reduceIte,h0],by simp (config:={ decide:=true }) only[go_sem,Nat.reduceBEq,reduceIte,h1],by simp (config:={ decide:=true }) only[go_sem,Nat.reduceBEq,reduceIte,h5],rfl,rfl,rfl,rfl⟩ ?_
   clear h0 h1 h5 h55 T
   rintro k T H ⟨j,rfl,hji,h0,h1,h5,h6,h7,h8,rfl⟩
   refine HW.run 200 (by kernel_rfl) ?_
   by_cases hjl:j<i
   ·have hjl' : ((j:Int)<(i:Int))=True:=by simp only[eq_iff_iff,iff_true];omega
    have hy:l[j]?=some l[j]:=List.getElem?_eq_getElem (by omega)
    have htk:l.take (j+1)=l.take j++[l[j]]:=by rw[List.take_add_one,hy];rfl
    generalize l[j]=y at hy htk
    have hjll:((j:Int)<(l.length:Int))=True:=by simp only[eq_iff_iff,iff_true];omega
    have i1:=insN_snoc (l.take j) y
    have m1:=mrkN_snoc (l.take j) y
    have i2:=insN_le (l.take j)
    have m2:=mrkN_le (l.take j)
    rw[←htk] at i1 m1
    rw[List.length_take] at i2 m2
    have wi:IntKind.i64.wrap ((insN (l.take j):Int)+1)=((insN (l.take j)+1:Nat):Int):=by rw[w64 (by omega) (by omega)];rfl
    have wm:IntKind.i64.wrap ((mrkN (l.take j):Int)+1)=((mrkN (l.take j)+1:Nat):Int):=by rw[w64 (by omega) (by omega)];rfl
    have hI:=refInstr y
    have key:∀b,insB2 y.op=b→(b=true↔(y.op≠6∧y.op≠11)):=fun b hb=>by subst hb;simp[insB2]
    simp (config:={ decide:=true }) only[go_sem,Int.reduceToNat,Nat.reduceAdd,Nat.reduceSub,Nat.reduceMul,Nat.reduceBEq,reduceIte,reduceCtorEq,h0,h1,h5,h6,h7,h8,hjl',hjll,hy,lnrow]
    repeat (with_reducible refine And.intro ?_ ?_;·(with_reducible and_intros) <;> omega)
    cases hb:insB2 y.op with
    | true =>
     have hk:=(key _ hb).1 rfl
     rw[hb] at hI
     rw[if_pos hk] at i1
     rw[if_neg hk.2] at m1
     refine callX_fn 3 (hI) (by simp only[go_sem]) rfl ?_
     simp (config:={ decide:=true }) only[go_sem,Int.reduceToNat,Nat.reduceAdd,Nat.reduceSub,Nat.reduceMul,Nat.reduceBEq,reduceIte,reduceCtorEq,h0,h1,h5,h6,h7,h8,hjl',hjll,hy,lnrow,wi,hk.2]
     repeat (with_reducible refine And.intro ?_ ?_;·(with_reducible and_intros) <;> omega)
     refine ⟨_,_,Ghost.refl,i-(j+1),by omega,j+1,rfl,by omega,?_,?_,?_,?_,?_,?_,rfl⟩
     all_goals first | (simp (config:={ decide:=true }) only[go_sem,Nat.reduceBEq,reduceIte,h0,h1,h5];done) | (simp (config:={ decide:=true }) only[go_sem,Nat.reduceBEq,reduceIte,h7,i1,m1];done) | (simp (config:={ decide:=true }) only[go_sem,Nat.reduceBEq,reduceIte,h7,i1,m1,Nat.add_zero];done) | (simp (config:={ decide:=true }) only[go_sem,Nat.reduceBEq,reduceIte];rw[w64 (by omega) (by omega)];rfl)
    | false =>
     rw[hb] at hI
     have hnk:¬(y.op≠6∧y.op≠11):=fun h=>by have:=(key _ hb).2 h;cases this
     rw[if_neg hnk] at i1
     refine callX_fn 3 (hI) (by simp only[go_sem]) rfl ?_
     by_cases o11:y.op=11
     ·rw[if_pos o11] at m1
      simp (config:={ decide:=true }) only[go_sem,Int.reduceToNat,Nat.reduceAdd,Nat.reduceSub,Nat.reduceMul,Nat.reduceBEq,reduceIte,reduceCtorEq,h0,h1,h5,h6,h7,h8,hjl',hjll,hy,lnrow,wm,o11]
      repeat (with_reducible refine And.intro ?_ ?_;·(with_reducible and_intros) <;> omega)
      refine ⟨_,_,Ghost.refl,i-(j+1),by omega,j+1,rfl,by omega,?_,?_,?_,?_,?_,?_,rfl⟩
      all_goals first | (simp (config:={ decide:=true }) only[go_sem,Nat.reduceBEq,reduceIte,h0,h1,h5];done) | (simp (config:={ decide:=true }) only[go_sem,Nat.reduceBEq,reduceIte,h6,i1,m1,Nat.add_zero];done) | (simp (config:={ decide:=true }) only[go_sem,Nat.reduceBEq,reduceIte];rw[w64 (by omega) (by omega)];rfl)
     ·rw[if_neg o11] at m1
      simp (config:={ decide:=true }) only[go_sem,Int.reduceToNat,Nat.reduceAdd,Nat.reduceSub,Nat.reduceMul,Nat.reduceBEq,reduceIte,reduceCtorEq,h0,h1,h5,h6,h7,h8,hjl',hjll,hy,lnrow,o11]
      repeat (with_reducible refine And.intro ?_ ?_;·(with_reducible and_intros) <;> omega)
      refine ⟨_,_,Ghost.refl,i-(j+1),by omega,j+1,rfl,by omega,?_,?_,?_,?_,?_,?_,rfl⟩
      all_goals first | (simp (config:={ decide:=true }) only[go_sem,Nat.reduceBEq,reduceIte,h0,h1,h5];done) | (simp (config:={ decide:=true }) only[go_sem,Nat.reduceBEq,reduceIte,h6,h7,i1,m1,Nat.add_zero];done) | (simp (config:={ decide:=true }) only[go_sem,Nat.reduceBEq,reduceIte];rw[w64 (by omega) (by omega)];rfl)
   ·have hjl' : ((j:Int)<(i:Int))=False:=by simp only[eq_iff_iff,iff_false];omega
    obtain rfl:j=i:=by omega
    have hI:=refInstr x
    simp (config:={ decide:=true }) only[go_sem,Int.reduceToNat,Nat.reduceAdd,Nat.reduceSub,Nat.reduceMul,Nat.reduceBEq,reduceIte,reduceCtorEq,h0,h1,h5,h6,h7,h8,hjl',lnrow]
    by_cases q11:x.op=11
    ·have hb:insB2 x.op=false:=by simp[insB2,q11]
     rw[hb] at hI
     refine callX_fn 3 (hI) (by simp only[go_sem]) rfl ?_
     by_cases q8:8≤mrkN (l.take j)
     ·have q8' : ((8:Int)≤(mrkN (l.take j):Int))=True:=by simp only[eq_iff_iff,iff_true];omega
      rw[if_pos (.inr ⟨q11,q8⟩)] at hE
      simp (config:={ decide:=true }) only[go_sem,Int.reduceToNat,Nat.reduceAdd,Nat.reduceSub,Nat.reduceMul,Nat.reduceBEq,reduceIte,reduceCtorEq,h0,h1,h5,h6,h7,h8,lnrow,q11,q8']
      rw[hE]
     ·have q8' : ((8:Int)≤(mrkN (l.take j):Int))=False:=by simp only[eq_iff_iff,iff_false];omega
      rw[if_neg (by rintro (h | h);exact h.2.1 q11;exact q8 h.2)] at hE
      simp (config:={ decide:=true }) only[go_sem,Int.reduceToNat,Nat.reduceAdd,Nat.reduceSub,Nat.reduceMul,Nat.reduceBEq,reduceIte,reduceCtorEq,h0,h1,h5,h6,h7,h8,lnrow,q11,q8']
      rw[hE]
    ·by_cases q6:x.op=6
     ·have hb:insB2 x.op=false:=by simp[insB2,q6]
      rw[hb] at hI
      refine callX_fn 3 (hI) (by simp only[go_sem]) rfl ?_
      rw[if_neg (by rintro (h | h);exact h.1 q6;exact q11 h.1)] at hE
      simp (config:={ decide:=true }) only[go_sem,Int.reduceToNat,Nat.reduceAdd,Nat.reduceSub,Nat.reduceMul,Nat.reduceBEq,reduceIte,reduceCtorEq,h0,h1,h5,h6,h7,h8,lnrow,q11]
      rw[hE]
     ·have hb:insB2 x.op=true:=by simp[insB2,q6,q11]
      rw[hb] at hI
      refine callX_fn 3 (hI) (by simp only[go_sem]) rfl ?_
      by_cases q8:8≤insN (l.take j)
      ·have q8' : ((8:Int)≤(insN (l.take j):Int))=True:=by simp only[eq_iff_iff,iff_true];omega
       rw[if_pos (.inl ⟨q6,q11,q8⟩)] at hE
       simp (config:={ decide:=true }) only[go_sem,Int.reduceToNat,Nat.reduceAdd,Nat.reduceSub,Nat.reduceMul,Nat.reduceBEq,reduceIte,reduceCtorEq,h0,h1,h5,h6,h7,h8,lnrow,q11,q8']
       rw[hE]
      ·have q8' : ((8:Int)≤(insN (l.take j):Int))=False:=by simp only[eq_iff_iff,iff_false];omega
       rw[if_neg (by rintro (h | h);exact q8 h.2.2;exact q11 h.1)] at hE
       simp (config:={ decide:=true }) only[go_sem,Int.reduceToNat,Nat.reduceAdd,Nat.reduceSub,Nat.reduceMul,Nat.reduceBEq,reduceIte,reduceCtorEq,h0,h1,h5,h6,h7,h8,lnrow,q11,q8']
       rw[hE]
end Go.Proofs.YtmapdjdnnhlpiaaGreatDoor
namespace Go.Proofs.YtmapdjdnnhlpiaaGreatDoor
open Go.RowKit
set_option maxRecDepth 8000
theorem leS_nil {c:List UInt8} (h:nameB c=true):leS c []=false:=by
 cases c with
 | nil=>revert h;decide
 | cons a r=>simp[leS,Op.bytesLess]
set_option maxHeartbeats 8000000 in
theorem refHead4 (f:Fl) (hi:f.init.length≤1000000) (ht:f.thr.length≤1000000) (hnl:f.name.length≤1000000) (hcl:∀c∈f.init,c.1.length≤1000000):HFn Tryz.prog 32 [fileH f] (.v (.int .i64 (headE f))):=by
 generalize hE:headE f=E
 unfold headE at hE
 refine HCalls_body (fn:=Tryz.f32) 51 [2] (by kernel_rfl) rfl (by kernel_rfl) (HW.run 400 (by kernel_rfl) ?_)
 simp (config:={ decide:=true }) only[go_sem,Int.reduceToNat,Nat.reduceAdd,Nat.reduceSub,Nat.reduceMul,Nat.reduceBEq,reduceIte,reduceCtorEq]
 refine callX_fn 3 (refName f.name hnl) (by simp only[go_sem]) rfl ?_
 cases hn:nameB f.name with
 | false =>
  rw[if_pos hn] at hE
  simp (config:={ decide:=true }) only[go_sem,Int.reduceToNat,Nat.reduceAdd,Nat.reduceSub,Nat.reduceMul,Nat.reduceBEq,reduceIte,reduceCtorEq]
  rw[hE]
 | true =>
  rw[if_neg (by simp[hn])] at hE
  simp (config:={ decide:=true }) only[go_sem,Int.reduceToNat,Nat.reduceAdd,Nat.reduceSub,Nat.reduceMul,Nat.reduceBEq,reduceIte,reduceCtorEq]
  refine HW.loopG (fun k T H=>∃(i:Nat) (last:List UInt8),k=f.init.length-i∧i≤f.init.length∧iniE [] f.init=iniE last (f.init.drop i)∧(i=0→last=[])∧(∀j,i=j+1→∃n,f.init[j]?=some (last,n))∧T 1=.pt 0 1 0 0∧T 3=.v (.int .i64 i)∧H=[some (fileO f)]) f.init.length ⟨_,_,Ghost.refl,0,[],rfl,by omega,rfl,fun _=>rfl,fun j h=>by omega,rfl,rfl,rfl⟩ ?_
  rintro k T H ⟨i,last,rfl,hil,hI,hz,hs,h1,h3,rfl⟩
  refine HW.run 200 (by kernel_rfl) ?_
  by_cases hlt:i<f.init.length
  ·have hlt' : ((i:Int)<(f.init.length:Int))=True:=by simp only[eq_iff_iff,iff_true];omega
   have hx:f.init[i]?=some f.init[i]:=List.getElem?_eq_getElem hlt
   have hdr:f.init.drop i=f.init[i]::f.init.drop (i+1):=List.drop_eq_getElem_cons hlt
   have hcx:=hcl _ (List.getElem_mem hlt)
   rw[hdr,iniE] at hI
   generalize f.init[i]=c at hx hI hcx
   simp (config:={ decide:=true }) only[go_sem,Int.reduceToNat,Nat.reduceAdd,Nat.reduceSub,Nat.reduceMul,Nat.reduceBEq,reduceIte,reduceCtorEq,h1,h3,hlt',hx,crow]
   repeat (with_reducible refine And.intro ?_ ?_;·(with_reducible and_intros) <;> omega)
   refine callX_fn 3 (refName c.1 hcx) (by simp only[go_sem]) rfl ?_
   cases hc:nameB c.1 with
   | false =>
    rw[if_pos hc] at hI
    rw[if_pos (by rw[hI];decide),hI] at hE
    simp (config:={ decide:=true }) only[go_sem,Int.reduceToNat,Nat.reduceAdd,Nat.reduceSub,Nat.reduceMul,Nat.reduceBEq,reduceIte,reduceCtorEq]
    rw[hE]
   | true =>
    rw[if_neg (by simp[hc])] at hI
    simp (config:={ decide:=true }) only[go_sem,Int.reduceToNat,Nat.reduceAdd,Nat.reduceSub,Nat.reduceMul,Nat.reduceBEq,reduceIte,reduceCtorEq,h1,h3]
    have hnx:∀j,i+1=j+1→∃n,f.init[j]?=some (c.1,n):=fun j h=>⟨c.2,(show j=i by omega)▸hx⟩
    rcases Nat.eq_zero_or_pos i with h0 | hpos
    ·have hp:((0:Int)<(i:Int))=False:=by simp only[eq_iff_iff,iff_false];omega
     rw[hz h0,if_neg (by simp[leS_nil hc])] at hI
     refine HW.tree 1 (.light 0 (.light 1 (.light 2 (.light 3 (.light 4 (.light 5 (.light 6 (.light 7 (.light 8 (.light 9 (.light 10 (.light 11 (.light 12 (.light 13 (.light 14 (.light 15 (.light 16 (.light 17 .leaf)))))))))))))))))) follows (by kernel_rfl) (by kernel_rfl) ?_
     simp (config:={ decide:=true }) only[go_sem,Int.reduceToNat,Nat.reduceAdd,Nat.reduceSub,Nat.reduceMul,Nat.reduceBEq,reduceIte,reduceCtorEq,h1,h3,hp]
     refine ⟨_,_,Ghost.refl,f.init.length-(i+1),by omega,i+1,c.1,rfl,by omega,hI,fun h=>by omega,hnx,?_,?_,rfl⟩
     all_goals first | (simp (config:={ decide:=true }) only[go_sem,Nat.reduceBEq,reduceIte,h1];done) | (simp (config:={ decide:=true }) only[go_sem,Nat.reduceBEq,reduceIte];rw[w64 (by omega) (by omega)];rfl)
    ·obtain ⟨m,hm⟩:∃m,i=m+1:=⟨i-1,by omega⟩
     obtain ⟨n,hy⟩:=hs m hm
     have hp:((0:Int)<(i:Int))=True:=by simp only[eq_iff_iff,iff_true];omega
     have hj1:IntKind.i64.wrap ((i:Int)-1)=(m:Int):=by rw[w64 (by omega) (by omega)];omega
     have hml:((m:Int)<(f.init.length:Int))=True:=by simp only[eq_iff_iff,iff_true];omega
     cases hle:leS c.1 last with
     | true =>
      rw[if_pos hle] at hI
      rw[if_pos (by rw[hI];decide),hI] at hE
      refine HW.tree 1 (.light 0 (.light 1 (.light 2 (.light 3 (.light 4 (.light 5 (.light 6 (.light 7 (.light 8 (.light 9 (.light 10 (.light 11 (.light 12 (.light 13 (.light 14 (.light 15 (.light 16 (.light 17 .leaf)))))))))))))))))) follows (by kernel_rfl) (by kernel_rfl) ?_
      simp (config:={ decide:=true }) only[go_sem,Int.reduceToNat,Nat.reduceAdd,Nat.reduceSub,Nat.reduceMul,Nat.reduceBEq,reduceIte,reduceCtorEq,h1,h3,hp,hj1,hml,hlt',hx,hy,crow,hle]
      repeat (with_reducible refine And.intro ?_ ?_;·(with_reducible and_intros) <;> omega)
      all_goals first | (rw[hE];done) | skip
     | false =>
      rw[if_neg (by simp[hle])] at hI
      refine HW.tree 1 (.light 0 (.light 1 (.light 2 (.light 3 (.light 4 (.light 5 (.light 6 (.light 7 (.light 8 (.light 9 (.light 10 (.light 11 (.light 12 (.light 13 (.light 14 (.light 15 (.light 16 (.light 17 .leaf)))))))))))))))))) follows (by kernel_rfl) (by kernel_rfl) ?_
      simp (config:={ decide:=true }) only[go_sem,Int.reduceToNat,Nat.reduceAdd,Nat.reduceSub,Nat.reduceMul,Nat.reduceBEq,reduceIte,reduceCtorEq,h1,h3,hp,hj1,hml,hlt',hx,hy,crow,hle]
      repeat (with_reducible refine And.intro ?_ ?_;·(with_reducible and_intros) <;> omega)
      refine ⟨_,_,Ghost.refl,f.init.length-(i+1),by omega,i+1,c.1,rfl,by omega,hI,fun h=>by omega,hnx,?_,?_,rfl⟩
      all_goals first | (simp (config:={ decide:=true }) only[go_sem,Nat.reduceBEq,reduceIte,h1];done) | (simp (config:={ decide:=true }) only[go_sem,Nat.reduceBEq,reduceIte];rw[w64 (by omega) (by omega)];rfl)
  ·have hlt' : ((i:Int)<(f.init.length:Int))=False:=by simp only[eq_iff_iff,iff_false];omega
   rw[List.drop_of_length_le (by omega)] at hI
   have hI' : iniE [] f.init=0:=hI
   rw[if_neg (by simp[hI'])] at hE
   by_cases t1:f.thr.length<1
   ·have t1' : ((f.thr.length:Int)<1)=True:=by simp only[eq_iff_iff,iff_true];omega
    rw[if_pos (.inl t1)] at hE
    simp (config:={ decide:=true }) only[go_sem,Int.reduceToNat,Nat.reduceAdd,Nat.reduceSub,Nat.reduceMul,Nat.reduceBEq,reduceIte,reduceCtorEq,h1,h3,hlt',t1']
    rw[hE]
   ·have t1' : ((f.thr.length:Int)<1)=False:=by simp only[eq_iff_iff,iff_false];omega
    by_cases t2:3<f.thr.length
    ·have t2' : ((3:Int)<(f.thr.length:Int))=True:=by simp only[eq_iff_iff,iff_true];omega
     rw[if_pos (.inr t2)] at hE
     simp (config:={ decide:=true }) only[go_sem,Int.reduceToNat,Nat.reduceAdd,Nat.reduceSub,Nat.reduceMul,Nat.reduceBEq,reduceIte,reduceCtorEq,h1,h3,hlt',t1',t2']
     rw[hE]
    ·have t2' : ((3:Int)<(f.thr.length:Int))=False:=by simp only[eq_iff_iff,iff_false];omega
     rw[if_neg (by omega)] at hE
     simp (config:={ decide:=true }) only[go_sem,Int.reduceToNat,Nat.reduceAdd,Nat.reduceSub,Nat.reduceMul,Nat.reduceBEq,reduceIte,reduceCtorEq,h1,h3,hlt',t1',t2']
     rw[hE]
end Go.Proofs.YtmapdjdnnhlpiaaGreatDoor
namespace Go.Proofs.YtmapdjdnnhlpiaaGreatDoor
open Go.RowKit
set_option maxRecDepth 8000
def insS:List (List UInt8)→List UInt8→List (List UInt8)
 | [],s=>[s]
 | x::r,s=>if leS s x=true then (if s=x then x::r else s::x::r) else x::insS r s
def putS (l:List (List UInt8)) (s:List UInt8):List (List UInt8):=if s=[] then l else insS l s
set_option maxHeartbeats 8000000 in
theorem refPutS (l:List (List UInt8)) (s:List UInt8) (hl:l.length≤1000000):HFn Tryz.prog 51 [.sl (strs l),.v (str s)] (owStrs (putS l s)):=by
 generalize hR:putS l s=R
 unfold putS at hR
 refine HCalls_body (fn:=Tryz.f51) 50 [4] (by kernel_rfl) rfl (by kernel_rfl) (HW.run 400 (by kernel_rfl) ?_)
 simp (config:={ decide:=true }) only[go_sem,Int.reduceToNat,Nat.reduceAdd,Nat.reduceSub,Nat.reduceMul,Nat.reduceBEq,reduceIte,reduceCtorEq]
 refine HW.loopG (fun k T H=>∃(i:Nat) (out:List (List UInt8)) (done:Bool),k=l.length-i∧i≤l.length∧out.length≤2*i∧R=out++(if done=true then l.drop i else insS (l.drop i) s)∧T 0=.sl (strs l)∧T 1=.v (str s)∧T 5=.hd 0 0 out.length∧T 6=.v (.bool done)∧T 7=.v (.int .i64 i)∧H=[some ⟨9,1,strs out⟩]) l.length ⟨_,_,Ghost.nil 5 9 1 rfl,0,[],decide (s=[]),rfl,by omega,by simp,by rw[←hR];by_cases h:s=[] <;> simp[h],rfl,rfl,rfl,rfl,rfl,rfl⟩ ?_
 rintro k T H ⟨i,out,done,rfl,hi,hol,hI,h0,h1,h5,h6,h7,rfl⟩
 refine HW.run 200 (by kernel_rfl) ?_
 by_cases hlt:i<l.length
 ·have hlt' : ((i:Int)<(l.length:Int))=True:=by simp only[eq_iff_iff,iff_true];omega
  have hx:l[i]?=some l[i]:=List.getElem?_eq_getElem hlt
  have hdr:l.drop i=l[i]::l.drop (i+1):=List.drop_eq_getElem_cons hlt
  rw[hdr] at hI
  generalize l[i]=x at hx hI
  cases done with
  | true =>
   simp (config:={ decide:=true }) only[go_sem,Int.reduceToNat,Nat.reduceAdd,Nat.reduceSub,Nat.reduceMul,Nat.reduceBEq,reduceIte,reduceCtorEq,h0,h1,h5,h6,h7,hlt',hx]
   repeat (with_reducible refine And.intro ?_ ?_;·(with_reducible and_intros) <;> omega)
   refine ⟨_,_,Ghost.trunc [0,1,5,6,7] 1 (by omega) ?_ ?_,l.length-(i+1),by omega,i+1,out++[x],true,rfl,by omega,by simp;omega,by rw[hI];simp,?_,?_,?_,?_,?_,?_⟩
   all_goals first | (simp (config:={ decide:=true }) only[go_sem,Nat.reduceBEq,reduceIte,h0,h1,h6];done) | (simp (config:={ decide:=true }) only[go_sem,Nat.reduceBEq,reduceIte];rw[w64 (by omega) (by omega)];rfl) | (simp (config:={ decide:=true }) only[go_sem,Int.reduceToNat,Nat.reduceAdd,Nat.reduceSub,Nat.reduceMul,Nat.reduceBEq,reduceIte,reduceCtorEq,h0,List.length_append,List.length_cons,List.length_nil];done)
  | false =>
   cases hle:leS s x with
   | true =>
    by_cases hs:s=x
    ·simp (config:={ decide:=true }) only[go_sem,Int.reduceToNat,Nat.reduceAdd,Nat.reduceSub,Nat.reduceMul,Nat.reduceBEq,reduceIte,reduceCtorEq,h0,h1,h5,h6,h7,hlt',hx,hle,eq_true hs]
     repeat (with_reducible refine And.intro ?_ ?_;·(with_reducible and_intros) <;> omega)
     refine ⟨_,_,Ghost.trunc [0,1,5,6,7] 1 (by omega) ?_ ?_,l.length-(i+1),by omega,i+1,out++[x],true,rfl,by omega,by simp;omega,by rw[hI,if_neg (by decide),insS,if_pos hle,if_pos hs];simp,?_,?_,?_,?_,?_,?_⟩
     all_goals first | (simp (config:={ decide:=true }) only[go_sem,Nat.reduceBEq,reduceIte,h0,h1,h6];done) | (simp (config:={ decide:=true }) only[go_sem,Nat.reduceBEq,reduceIte];rw[w64 (by omega) (by omega)];rfl) | (simp (config:={ decide:=true }) only[go_sem,Int.reduceToNat,Nat.reduceAdd,Nat.reduceSub,Nat.reduceMul,Nat.reduceBEq,reduceIte,reduceCtorEq,h0,List.length_append,List.length_cons,List.length_nil];done)
    ·simp (config:={ decide:=true }) only[go_sem,Int.reduceToNat,Nat.reduceAdd,Nat.reduceSub,Nat.reduceMul,Nat.reduceBEq,reduceIte,reduceCtorEq,h0,h1,h5,h6,h7,hlt',hx,hle,hs]
     repeat (with_reducible refine And.intro ?_ ?_;·(with_reducible and_intros) <;> omega)
     refine ⟨_,_,Ghost.trunc [0,1,5,6,7] 1 (by omega) ?_ ?_,l.length-(i+1),by omega,i+1,out++[s]++[x],true,rfl,by omega,by simp;omega,by rw[hI];simp[insS,hle,hs],?_,?_,?_,?_,?_,?_⟩
     all_goals first | (simp (config:={ decide:=true }) only[go_sem,Nat.reduceBEq,reduceIte,h0,h1,h6];done) | (simp (config:={ decide:=true }) only[go_sem,Nat.reduceBEq,reduceIte];rw[w64 (by omega) (by omega)];rfl) | (simp (config:={ decide:=true }) only[go_sem,Int.reduceToNat,Nat.reduceAdd,Nat.reduceSub,Nat.reduceMul,Nat.reduceBEq,reduceIte,reduceCtorEq,h0,List.length_append,List.length_cons,List.length_nil];done)
   | false =>
    simp (config:={ decide:=true }) only[go_sem,Int.reduceToNat,Nat.reduceAdd,Nat.reduceSub,Nat.reduceMul,Nat.reduceBEq,reduceIte,reduceCtorEq,h0,h1,h5,h6,h7,hlt',hx,hle]
    repeat (with_reducible refine And.intro ?_ ?_;·(with_reducible and_intros) <;> omega)
    refine ⟨_,_,Ghost.trunc [0,1,5,6,7] 1 (by omega) ?_ ?_,l.length-(i+1),by omega,i+1,out++[x],false,rfl,by omega,by simp;omega,by rw[hI];simp[insS,hle],?_,?_,?_,?_,?_,?_⟩
    all_goals first | (simp (config:={ decide:=true }) only[go_sem,Nat.reduceBEq,reduceIte,h0,h1,h6];done) | (simp (config:={ decide:=true }) only[go_sem,Nat.reduceBEq,reduceIte];rw[w64 (by omega) (by omega)];rfl) | (simp (config:={ decide:=true }) only[go_sem,Int.reduceToNat,Nat.reduceAdd,Nat.reduceSub,Nat.reduceMul,Nat.reduceBEq,reduceIte,reduceCtorEq,h0,List.length_append,List.length_cons,List.length_nil];done)
 ·have hlt' : ((i:Int)<(l.length:Int))=False:=by simp only[eq_iff_iff,iff_false];omega
  rw[List.drop_of_length_le (by omega)] at hI
  cases done with
  | true =>
   simp at hI
   subst hI
   simp (config:={ decide:=true }) only[go_sem,Int.reduceToNat,Nat.reduceAdd,Nat.reduceSub,Nat.reduceMul,Nat.reduceBEq,reduceIte,reduceCtorEq,h0,h1,h5,h6,h7,hlt']
   try rfl
  | false =>
   have hI' : R=out++[s]:=by rw[hI];simp[insS]
   subst hI'
   simp (config:={ decide:=true }) only[go_sem,Int.reduceToNat,Nat.reduceAdd,Nat.reduceSub,Nat.reduceMul,Nat.reduceBEq,reduceIte,reduceCtorEq,h0,h1,h5,h6,h7,hlt']
   exact ⟨⟨by omega,by omega⟩,rfl⟩
end Go.Proofs.YtmapdjdnnhlpiaaGreatDoor
namespace Go.Proofs.YtmapdjdnnhlpiaaGreatDoor
set_option maxRecDepth 8000
theorem leS_iff {a b:List UInt8}:leS a b=true↔a<b∨a=b:=by
 unfold leS
 rw[bytesLess_eq]
 simp
theorem len_sub {α:Type} [DecidableEq α]:∀(a b:List α),a.Nodup→(∀x∈a,x∈b)→a.length≤b.length
 | [],_,_,_=>Nat.zero_le _
 | x::a,b,hn,h=>by
  rw[List.nodup_cons] at hn
  have hx:=h x (by simp)
  have h1:=len_sub a (b.erase x) hn.2 fun y hy=>by
   have hne:y≠x:=fun e=>hn.1 (e▸hy)
   exact (List.mem_erase_of_ne hne).2 (h y (by simp[hy]))
  rw[List.length_erase_of_mem hx] at h1
  have:=List.length_pos_of_mem hx
  simp only[List.length_cons];omega
def Rising (l:List (List UInt8)):Prop:=l.Pairwise fun a b=>a<b
theorem Rising.nodup {l:List (List UInt8)} (h:Rising l):l.Nodup:=h.imp fun {a b} hab e=>by subst e;exact List.lt_irrefl _ hab
theorem insS_mem (s y:List UInt8):∀l,y∈insS l s↔y∈l∨y=s
 | []=>by simp[insS]
 | x::r=>by
  unfold insS
  split
  ·split
   ·rename_i h;subst h;simp
    intro h;exact .inl h
   ·simp;grind
  ·have:=insS_mem s y r
   simp only[List.mem_cons,this];grind
theorem insS_rising (s:List UInt8):∀l,Rising l→Rising (insS l s)
 | [],_=>by simp[insS,Rising]
 | x::r,h=>by
  have h':=List.pairwise_cons.1 h
  unfold insS
  split
  ·rename_i hle
   split
   ·exact h
   ·rename_i hne
    have hlt:s<x:=(leS_iff.1 hle).resolve_right hne
    refine List.pairwise_cons.2 ⟨fun y hy=>?_,h⟩
    rcases List.mem_cons.1 hy with rfl | hy
    ·exact hlt
    ·exact List.lt_trans hlt (h'.1 y hy)
  ·rename_i hle
   have hlt:x<s:=by
    by_cases h1:s<x
    ·exact absurd (leS_iff.2 (.inl h1)) hle
    ·by_cases h2:x<s
     ·exact h2
     ·exact absurd (leS_iff.2 (.inr (List.le_antisymm (List.not_lt.1 h2) (List.not_lt.1 h1)))) hle
   refine List.pairwise_cons.2 ⟨fun y hy=>?_,insS_rising s r h'.2⟩
   rcases (insS_mem s y r).1 hy with hy | rfl
   ·exact h'.1 y hy
   ·exact hlt
def putsF (out:List (List UInt8)) (l:List (List UInt8)):List (List UInt8):=l.foldl putS out
theorem putS_rising {l:List (List UInt8)} (h:Rising l) (s:List UInt8):Rising (putS l s):=by
 unfold putS
 split
 ·exact h
 ·exact insS_rising s l h
theorem putS_mem (l:List (List UInt8)) (s y:List UInt8):y∈putS l s↔y∈l∨(s≠[]∧y=s):=by
 unfold putS
 split
 ·rename_i h;simp[h]
 ·rename_i h;rw[insS_mem];simp[h]
theorem putsF_rising:∀(l out:List (List UInt8)),Rising out→Rising (putsF out l)
 | [],_,h=>h
 | x::l,out,h=>putsF_rising l _ (putS_rising h x)
theorem putsF_mem (y:List UInt8):∀(l out:List (List UInt8)),y∈putsF out l↔y∈out∨(y≠[]∧y∈l)
 | [],out=>by simp[putsF]
 | x::l,out=>by
  show y∈putsF (putS out x) l↔_
  rw[putsF_mem y l,putS_mem]
  simp only[List.mem_cons]
  grind
theorem putsF_length (l m:List (List UInt8)) (h:∀y,y∈m↔(y≠[]∧y∈l)):(putsF [] l).length=(foldC [] m).length:=by
 have hr:=(putsF_rising l [] List.Pairwise.nil).nodup
 have hk:=foldC_nodup m ([]:List (List UInt8×Int)) (by simp)
 have e:((foldC [] m).map (·.1)).length=(foldC [] m).length:=List.length_map _
 rw[←e]
 refine Nat.le_antisymm (len_sub _ _ hr fun x hx=>?_) (len_sub _ _ hk fun x hx=>?_)
 ·have:=(putsF_mem x l []).1 hx
  rw[foldC_keys]
  exact .inr ((h x).2 (this.resolve_left (by simp)))
 ·have:=(foldC_keys x m []).1 hx
  exact (putsF_mem x l []).2 (.inr ((h x).1 (this.resolve_left (by simp))))
end Go.Proofs.YtmapdjdnnhlpiaaGreatDoor
