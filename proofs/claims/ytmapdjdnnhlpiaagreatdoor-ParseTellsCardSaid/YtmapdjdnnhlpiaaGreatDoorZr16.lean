/- Parts of the proof: Oq, Or, Os, Og, Oh, Oj, Om, Ot, Ou, Ov. -/
import Derived.Test.YtmapdjdnnhlpiaaGreatDoorZr15
import Derived.Test.YtmapdjdnnhlpiaaGreatDoorZr14
import Derived.Test.YtmapdjdnnhlpiaaGreatDoorZr07
set_option linter.unusedSectionVars false
set_option linter.unusedVariables false
set_option linter.unusedSimpArgs false
namespace Go.Proofs.YtmapdjdnnhlpiaaGreatDoor
open Go.RowKit
set_option maxRecDepth 8000
theorem cellsF_odd:∀w:List (List UInt8),w.length % 2=1→(cellsF w).2=false
 | [],h=>by simp at h
 | [_],_=>rfl
 | a::b::r,h=>by
  rw[cellsF]
  split
  ·rfl
  ·exact cellsF_odd r (by simp only[List.length_cons] at h;omega)
theorem Conv.tuNil {b:Value}:Conv (.tu [.v (.slice none 0 0),.v b]) (.tu [.sl [],.v b]):=Conv.tu ⟨Conv.nilSl,Conv.refl _,trivial⟩
set_option maxHeartbeats 8000000 in
theorem refCells0 (w:List (List UInt8)) (hw:∀x∈w,x.length≤1000000) (hn:w.length≤1000000) (R:HV) (hF:(cellsF w).2=false→R=.tu [.v (.slice none 0 0),.v (.bool false)]) (hT:(cellsF w).2=true→R=.tu [.sl (cls (cellsF w).1),.v (.bool true)]) :
  HFn Tryz.prog 45 [.sl (strs w)] R:=by
 refine HFn_bodyF (fn:=Tryz.f45) 3 39 [.tmp 2,.tmp 3] (by kernel_rfl) rfl rfl (by kernel_rfl) (HW.run 400 (by kernel_rfl) ?_)
 have q0:((2:Int)=0)=False:=eq_false (by omega)
 rcases Nat.mod_two_eq_zero_or_one w.length with hm | hm
 case inr =>
  have q:(w.length:Int).tmod 2=1:=by rw[Int.tmod_eq_emod_of_nonneg (by omega)];omega
  simp (config:={ decide:=true }) only[go_sem,Int.reduceToNat,Nat.reduceAdd,Nat.reduceSub,Nat.reduceMul,Nat.reduceBEq,reduceIte,reduceCtorEq,q,q0]
  exact (hF (cellsF_odd w hm)).symm
 have q:(w.length:Int).tmod 2=0:=by rw[Int.tmod_eq_emod_of_nonneg (by omega)];omega
 simp (config:={ decide:=true }) only[go_sem,Int.reduceToNat,Nat.reduceAdd,Nat.reduceSub,Nat.reduceMul,Nat.reduceBEq,reduceIte,reduceCtorEq,q,q0]
 refine HW.loopG (fun k T H=>∃(i:Nat) (acc:List (List UInt8×Int)),k=w.length-i∧i≤w.length∧i % 2=0∧acc.length≤i∧(cellsF w).1=acc++(cellsF (w.drop i)).1∧(cellsF w).2=(cellsF (w.drop i)).2∧T 0=.sl (strs w)∧T 4=.hd 0 0 acc.length∧T 5=.v (.int .i64 i)∧H=[some ⟨44,2,cls acc⟩]) w.length ⟨_,_,Ghost.nil 4 44 2 rfl,0,[],rfl,by omega,rfl,Nat.le_refl _,rfl,rfl,rfl,rfl,rfl,rfl⟩ ?_
 rintro k T H ⟨i,acc,rfl,hil,him,hal,hI1,hI2,h0,h4,h5,rfl⟩
 refine HW.run 200 (by kernel_rfl) ?_
 by_cases hlt:i<w.length
 ·have hlt' : ((i:Int)<(w.length:Int))=True:=eq_true (by omega)
  have hlt2:(((i+1:Nat):Int)<(w.length:Int))=True:=eq_true (by omega)
  have w1:IntKind.i64.wrap ((i:Int)+1)=((i+1:Nat):Int):=by rw[w64 (by omega) (by omega)];rfl
  have e0:w[i]?=some w[i]:=List.getElem?_eq_getElem hlt
  have e1:w[i+1]?=some (w[i+1]'(by omega)):=List.getElem?_eq_getElem (by omega)
  have hb:=hw _ (List.getElem_mem (show i+1<w.length by omega))
  have hc:=cellsF_two (r:=w.drop i) (a:=w[i]) (b:=w[i+1]'(by omega)) (by rw[List.getElem?_drop];exact e0) (by rw[List.getElem?_drop];exact e1)
  rw[List.drop_drop] at hc
  rw[hc] at hI1 hI2
  generalize w[i]=a at e0 hI1 hI2
  generalize w[i+1]'(by omega)=b at e1 hb hI1 hI2
  cases hnb:(numB b).2 with
  | false =>
   rw[if_pos hnb] at hI2
   have hG:=refGet b hb
   rw[hnb] at hG
   simp (config:={ decide:=true }) only[go_sem,Int.reduceToNat,Nat.reduceAdd,Nat.reduceSub,Nat.reduceMul,Nat.reduceBEq,reduceIte,reduceCtorEq,h0,h4,h5,hlt',hlt2,w1,e0,e1]
   refine callX_fn 3 (hG) (by simp only[go_sem]) rfl ?_
   simp (config:={ decide:=true }) only[go_sem,Int.reduceToNat,Nat.reduceAdd,Nat.reduceSub,Nat.reduceMul,Nat.reduceBEq,reduceIte,reduceCtorEq,h0,h4,h5]
   exact (hF hI2).symm
  | true =>
   rw[if_neg (by simp[hnb])] at hI1 hI2
   have hG:=refGet b hb
   rw[hnb] at hG
   simp (config:={ decide:=true }) only[go_sem,Int.reduceToNat,Nat.reduceAdd,Nat.reduceSub,Nat.reduceMul,Nat.reduceBEq,reduceIte,reduceCtorEq,h0,h4,h5,hlt',hlt2,w1,e0,e1]
   refine callX_fn 3 (hG) (by simp only[go_sem]) rfl ?_
   simp (config:={ decide:=true }) only[go_sem,Int.reduceToNat,Nat.reduceAdd,Nat.reduceSub,Nat.reduceMul,Nat.reduceBEq,reduceIte,reduceCtorEq,h0,h4,h5,hlt',e0]
   refine ⟨by omega,_,_,Ghost.trunc [0,4,5] 1 (by omega) ?_ ?_,w.length-(i+2),by omega,i+2,acc++[(a,(numB b).1)],rfl,by omega,by omega,by simp only[List.length_append,List.length_cons,List.length_nil];omega,by rw[hI1,List.append_assoc];rfl,hI2,?_,?_,?_,?_⟩
   all_goals first | (simp (config:={ decide:=true }) only[go_sem,Nat.reduceBEq,reduceIte,h0,h4];done) | (simp (config:={ decide:=true }) only[go_sem,Nat.reduceBEq,reduceIte];rw[w64 (by omega) (by omega)];rfl) | (simp (config:={ decide:=true }) only[go_sem,Int.reduceToNat,Nat.reduceAdd,Nat.reduceSub,Nat.reduceMul,Nat.reduceBEq,reduceIte,reduceCtorEq,h0,h4,List.length_append,List.length_cons,List.length_nil];done)
 ·have hlt' : ((i:Int)<(w.length:Int))=False:=eq_false (by omega)
  rw[List.drop_of_length_le (by omega)] at hI1 hI2
  have hI1:(cellsF w).1=acc:=by rw[hI1];simp[cellsF]
  simp (config:={ decide:=true }) only[go_sem,Int.reduceToNat,Nat.reduceAdd,Nat.reduceSub,Nat.reduceMul,Nat.reduceBEq,reduceIte,reduceCtorEq,h0,h4,h5,hlt',cls_length]
  rw[hT hI2,hI1]
theorem refCells5 (w:List (List UInt8)) (hw:∀x∈w,x.length≤1000000) (hn:w.length≤1000000) :
  HFn Tryz.prog 45 [.sl (strs w)] (.tu [.sl (cls (if (cellsF w).2=true then (cellsF w).1 else [])),.v (.bool (cellsF w).2)]):=by
 cases h:(cellsF w).2 with
 | true=>exact refCells0 w hw hn _ (fun hh=>by rw[h] at hh;cases hh) (fun _=>by rw[if_pos rfl])
 | false=>exact HCalls.conv (refCells0 w hw hn (.tu [.v (.slice none 0 0),.v (.bool false)]) (fun _=>rfl) (fun hh=>by rw[h] at hh;cases hh)) fun x H' hx=>⟨_,rfl,.inr ⟨by rw[hx];rfl,by rw[hx];exact Conv.tuNil⟩⟩
set_option maxHeartbeats 8000000 in
theorem refAtoms0 (w:List (List UInt8)) (hw:∀x∈w,x.length≤1000000) (hn:w.length≤1000000) (R:HV) (hF:(atomsF w).2=false→R=.tu [.v (.slice none 0 0),.v (.bool false)]) (hT:(atomsF w).2=true→R=.tu [.sl (ats (atomsF w).1),.v (.bool true)]) :
  HFn Tryz.prog 68 [.sl (strs w)] R:=by
 refine HFn_bodyF (fn:=Tryz.f68) 3 29 [.tmp 2,.tmp 3] (by kernel_rfl) rfl rfl (by kernel_rfl) (HW.run 400 (by kernel_rfl) ?_)
 simp (config:={ decide:=true }) only[go_sem,Int.reduceToNat,Nat.reduceAdd,Nat.reduceSub,Nat.reduceMul,Nat.reduceBEq,reduceIte,reduceCtorEq]
 refine HW.loopG (fun k T H=>∃(i:Nat) (acc:List AT),k=w.length-i∧i≤w.length∧acc.length≤i∧(atomsF w).1=acc++(atomsF (w.drop i)).1∧(atomsF w).2=(atomsF (w.drop i)).2∧T 0=.sl (strs w)∧T 4=.hd 0 0 acc.length∧T 5=.v (.int .i64 i)∧H=[some ⟨53,3,ats acc⟩]) w.length ⟨_,_,Ghost.nil 4 53 3 rfl,0,[],rfl,by omega,Nat.le_refl _,rfl,rfl,rfl,rfl,rfl,rfl⟩ ?_
 rintro k T H ⟨i,acc,rfl,hil,hal,hI1,hI2,h0,h4,h5,rfl⟩
 refine HW.run 200 (by kernel_rfl) ?_
 by_cases hlt:i<w.length
 ·have hlt' : ((i:Int)<(w.length:Int))=True:=eq_true (by omega)
  have e0:w[i]?=some w[i]:=List.getElem?_eq_getElem hlt
  have hdr:w.drop i=w[i]::w.drop (i+1):=List.drop_eq_getElem_cons hlt
  have hb:=hw _ (List.getElem_mem hlt)
  rw[hdr,atomsF] at hI1 hI2
  generalize w[i]=b at e0 hb hI1 hI2
  have hG:=refAtom b hb
  rw[←atom_ref] at hG
  cases hnb:(atomB b).2 with
  | false =>
   rw[if_pos hnb] at hI2
   rw[hnb] at hG
   simp (config:={ decide:=true }) only[go_sem,Int.reduceToNat,Nat.reduceAdd,Nat.reduceSub,Nat.reduceMul,Nat.reduceBEq,reduceIte,reduceCtorEq,h0,h4,h5,hlt',e0]
   refine callX_fn 3 (hG) (by simp only[go_sem]) rfl ?_
   simp (config:={ decide:=true }) only[go_sem,Int.reduceToNat,Nat.reduceAdd,Nat.reduceSub,Nat.reduceMul,Nat.reduceBEq,reduceIte,reduceCtorEq,h0,h4,h5]
   all_goals repeat (with_reducible refine And.intro ?_ ?_;·(with_reducible and_intros) <;> omega)
   exact (hF hI2).symm
  | true =>
   rw[if_neg (by simp[hnb])] at hI1 hI2
   rw[hnb] at hG
   simp (config:={ decide:=true }) only[go_sem,Int.reduceToNat,Nat.reduceAdd,Nat.reduceSub,Nat.reduceMul,Nat.reduceBEq,reduceIte,reduceCtorEq,h0,h4,h5,hlt',e0]
   refine callX_fn 3 (hG) (by simp only[go_sem]) rfl ?_
   simp (config:={ decide:=true }) only[go_sem,Int.reduceToNat,Nat.reduceAdd,Nat.reduceSub,Nat.reduceMul,Nat.reduceBEq,reduceIte,reduceCtorEq,h0,h4,h5,hlt',e0]
   refine ⟨by omega,_,_,Ghost.trunc [0,4,5] 1 (by omega) ?_ ?_,w.length-(i+1),by omega,i+1,acc++[(atomB b).1],rfl,by omega,by simp only[List.length_append,List.length_cons,List.length_nil];omega,by rw[hI1,List.append_assoc];rfl,hI2,?_,?_,?_,?_⟩
   all_goals first | (simp (config:={ decide:=true }) only[go_sem,Nat.reduceBEq,reduceIte,h0,h4];done) | (simp (config:={ decide:=true }) only[go_sem,Nat.reduceBEq,reduceIte];rw[w64 (by omega) (by omega)];rfl) | (simp (config:={ decide:=true }) only[go_sem,Int.reduceToNat,Nat.reduceAdd,Nat.reduceSub,Nat.reduceMul,Nat.reduceBEq,reduceIte,reduceCtorEq,h0,h4,List.length_append,List.length_cons,List.length_nil];done)
 ·have hlt' : ((i:Int)<(w.length:Int))=False:=eq_false (by omega)
  rw[List.drop_of_length_le (by omega)] at hI1 hI2
  have hI1:(atomsF w).1=acc:=by rw[hI1];simp[atomsF]
  simp (config:={ decide:=true }) only[go_sem,Int.reduceToNat,Nat.reduceAdd,Nat.reduceSub,Nat.reduceMul,Nat.reduceBEq,reduceIte,reduceCtorEq,h0,h4,h5,hlt',ats_length]
  rw[hT hI2,hI1]
theorem refAtoms5 (w:List (List UInt8)) (hw:∀x∈w,x.length≤1000000) (hn:w.length≤1000000) :
  HFn Tryz.prog 68 [.sl (strs w)] (.tu [.sl (ats (if (atomsF w).2=true then (atomsF w).1 else [])),.v (.bool (atomsF w).2)]):=by
 cases h:(atomsF w).2 with
 | true=>exact refAtoms0 w hw hn _ (fun hh=>by rw[h] at hh;cases hh) (fun _=>by rw[if_pos rfl])
 | false=>exact HCalls.conv (refAtoms0 w hw hn (.tu [.v (.slice none 0 0),.v (.bool false)]) (fun _=>rfl) (fun hh=>by rw[h] at hh;cases hh)) fun x H' hx=>⟨_,rfl,.inr ⟨by rw[hx];rfl,by rw[hx];exact Conv.tuNil⟩⟩
end Go.Proofs.YtmapdjdnnhlpiaaGreatDoor
namespace Go.Proofs.YtmapdjdnnhlpiaaGreatDoor
open Go.RowKit
set_option maxRecDepth 8000
theorem tfQ (p:Prop):(p∧p=True)∨(¬p∧p=False):=by
 by_cases h:p
 ·exact .inl ⟨h,eq_true h⟩
 ·exact .inr ⟨h,eq_false h⟩
abbrev qO (s:PS) (b d:HV):HObj:=⟨63,9,[[.v (str s.f.name),.sl (cls s.f.init),b,.v (.bool s.f.all),.sl (ats s.f.cond),.v (.int .i64 s.next),.v (.int .i64 s.head),.v (.int .i64 s.fin),d]]⟩
abbrev rdO (s:PS):HObj:=qO s (.ow 47 1 (tds s.f.thr)) (.ow 38 1 (lws s.lines))
theorem nm_rd (s:PS) (rest:Heap):nmH 2 (some zO::some (rdO s)::rest)=true:=by
 simp (config:={ decide:=true }) only[go_sem,Int.reduceToNat,Nat.reduceAdd,Nat.reduceSub,Nat.reduceMul,Nat.reduceBEq,reduceIte,reduceCtorEq,nmH,List.take_succ_cons,List.take_zero,List.all_cons,List.all_nil,nmR,nmL,nm,cls_nmR,tds_nmR,ats_nmR,lws_nmR,Bool.and_self]
theorem endP_rd {s:PS} {x:HV} {rest:Heap} {Q:HV→Heap→Prop} (h:Q x [some zO,some (rdO s)]):endP 2 Q (x,some zO::some (rdO s)::rest):=⟨nm_rd s rest,h⟩
theorem rdOpen {N:Nat} {T:Nat→HV} {s:PS}:Ghost N 2 T [some zO,some (rdO s)] T [some zO,some (qO s (.hd 2 0 s.f.thr.length) (.hd 3 0 s.lines.length)),some ⟨47,1,tds s.f.thr⟩,some ⟨38,1,lws s.lines⟩]:=by
 have g1:=Ghost.openOw (N:=N) (L:=2) (T:=T) (H:=[some zO,some (rdO s)]) 1 0 2 (e:=47) (sz:=1) (rows:=tds s.f.thr) rfl rfl rfl
 have g2:=g1.trans (Ghost.openOw 1 0 8 (e:=38) (sz:=1) (rows:=lws s.lines) rfl rfl rfl)
 refine g2.to ?_
 simp only[tds_length,lws_length,List.length_append,List.length_cons,List.length_nil,List.set_cons_succ,List.set_cons_zero,List.cons_append,List.nil_append]
theorem tds_at (A:List (List LT)) (X:List HV):(tds A++[X])[A.length]?=some X:=row_last tds_length
theorem tds_put (A:List (List LT)) (X Y:List HV):(tds A++[X]).set A.length Y=tds A++[Y]:=set_last tds_length
theorem lws_at (A:List (List Int)) (X:List HV):(lws A++[X])[A.length]?=some X:=row_last lws_length
theorem lws_put (A:List (List Int)) (X Y:List HV):(lws A++[X]).set A.length Y=lws A++[Y]:=set_last lws_length
theorem tds_tail (A:List (List LT)):tds A++[[.sl (lns [])]]=tds (A++[[]]):=tds_snoc
theorem lws_tail (A:List (List Int)):lws A++[[.sl (ints [])]]=lws (A++[[]]):=lws_snoc
theorem rdCloseNew {N:Nat} {T:Nat→HV} {s:PS} {X:Option HObj} {rest:Heap} {a b:Nat} (ha:a=s.f.thr.length+1) (hb:b=s.lines.length+1) :
  Ghost N 2 T (some zO::some (qO s (.hd 4 0 a) (.hd 3 0 b))::X::some ⟨38,1,lws s.lines++[[.v (.slice none 0 0)]]⟩::some ⟨47,1,tds s.f.thr++[[.v (.slice none 0 0)]]⟩::rest) T
   (some zO::some (rdO { s with f:={ s.f with thr:=s.f.thr++[[]] },lines:=s.lines++[[]] })::X::none::none::rest):=by
 subst ha hb
 have g1:=Ghost.cell (N:=N) (L:=2) (T:=T) (H:=some zO::some (qO s (.hd 4 0 (s.f.thr.length+1)) (.hd 3 0 (s.lines.length+1)))::X::some ⟨38,1,lws s.lines++[[.v (.slice none 0 0)]]⟩::some ⟨47,1,tds s.f.thr++[[.v (.slice none 0 0)]]⟩::rest) 4 s.f.thr.length 0 (.sl (lns [])) rfl (tds_at _ _) rfl rfl Conv.nilSl (by simp)
 have g2:=g1.trans (Ghost.cell 3 s.lines.length 0 (.sl (ints [])) rfl (lws_at _ _) rfl rfl Conv.nilSl (by simp))
 have e1:(tds s.f.thr++[[HV.v (.slice none 0 0)]]).set s.f.thr.length [HV.sl (lns [])]=tds (s.f.thr++[[]]):=by rw[tds_put];exact tds_tail _
 have e2:(lws s.lines++[[HV.v (.slice none 0 0)]]).set s.lines.length [HV.sl (ints [])]=lws (s.lines++[[]]):=by rw[lws_put];exact lws_tail _
 simp only[List.set_cons_succ,List.set_cons_zero,e1,e2] at g2
 have g3:=g2.trans (Ghost.absorbHd 1 0 2 (j:=4) (len:=s.f.thr.length+1) rfl rfl rfl rfl (by decide) (by rw[tds_length];simp) tds_nmR)
 have g4:=g3.trans (Ghost.absorbHd 1 0 8 (j:=3) (len:=s.lines.length+1) rfl rfl rfl rfl (by decide) (by rw[lws_length];simp) lws_nmR)
 exact g4
set_option maxHeartbeats 8000000 in
theorem rThreadNew (s:PS) (w:List (List UInt8)) (a:Int) (h1:s.f.thr.length≤100000) (h2:s.lines.length=s.f.thr.length) (hk:w[0]?=some threadB) (hl:w.length=1) :
  HCalls Tryz.prog 46 [some zO,some (rdO s)] [.pt 1 1 0 0,.sl (strs w),.v (.int .i64 a)] (fun x H'=>x=.v (.bool true)∧H'=[some zO,some (rdO { s with f:={ s.f with thr:=s.f.thr++[[]] },lines:=s.lines++[[]],next:=3 })]):=by
 have hl' : ((w.length:Int)=1)=True:=eq_true (by omega)
 have hn' : ((0:Int)<(w.length:Int))=True:=eq_true (by omega)
 unfold threadB at hk
 refine HCalls_body (fn:=Tryz.f46) 142 [6] (by kernel_rfl) rfl (by kernel_rfl) (HW.weaken (Q':=fun e=>GQ _ _ (endQ _ _ _ e)) (HW.ghost rdOpen (HW.run 400 (by kernel_rfl) ?_)) (fun _ _ _ h=>h))
 simp (config:={ decide:=true }) only[go_sem,Int.reduceToNat,Nat.reduceAdd,Nat.reduceSub,Nat.reduceMul,Nat.reduceBEq,reduceIte,reduceCtorEq,hl',hn',hk]
 repeat (with_reducible refine And.intro ?_ ?_;·(with_reducible and_intros) <;> omega)
 refine GQ.step (rdCloseNew (s:={ s with next:=3 }) rfl rfl) (GQ.done ?_)
 simp (config:={ decide:=true }) only[go_sem,Int.reduceToNat,Nat.reduceAdd,Nat.reduceSub,Nat.reduceMul,Nat.reduceBEq,reduceIte,reduceCtorEq]
 exact endP_rd (s:={ s with f:={ s.f with thr:=s.f.thr++[[]] },lines:=s.lines++[[]],next:=3 }) ⟨rfl,rfl⟩
theorem Ghost.shutHd {N L:Nat} {T:Nat→HV} {H:Heap} (id i c:Nat) {j len:Nat} {ob oj:HObj} {row:List HV} (ho:H[id]?=some (some ob)) (hr:ob.rows[i]?=some row) (hc:row[c]?=some (.hd j 0 len)) (hj:H[j]?=some (some oj)) (h1:j≠id) (h2:len=oj.rows.length) (h3:nmR 0 oj.rows=true) :
  Ghost N L T H T ((H.set j none).set id (some { ob with rows:=ob.rows.set i (row.set c (.sl (fzoR oj.rows))) })):=by
 have hlt:id<(H.set j none).length:=by rw[List.length_set];exact (List.getElem?_eq_some_iff.1 ho).1
 have hil:i<ob.rows.length:=(List.getElem?_eq_some_iff.1 hr).1
 have hcl:c<row.length:=(List.getElem?_eq_some_iff.1 hc).1
 have g1:=Ghost.absorbHd (N:=N) (L:=L) (T:=T) id i c ho hr hc hj h1 h2 h3
 have g2:=g1.trans (Ghost.shutOw id i c (e:=oj.e) (sz:=oj.sz) (rows:=oj.rows) (ob:={ ob with rows:=ob.rows.set i (row.set c (.ow oj.e oj.sz oj.rows)) }) (row:=row.set c (.ow oj.e oj.sz oj.rows)) (by simp only[List.getElem?_set,hlt,if_true]) (by simp[hil]) (by simp[hcl]))
 simpa only[List.set_set] using g2
theorem rThreadNo (s:PS) (w:List (List UInt8)) (a:Int) {k:List UInt8} (hk:w[0]?=some k) (hT:¬(k=threadB∧w.length=1)) (h3:s.next≠3) :
  HCalls Tryz.prog 46 [some zO,some (rdO s)] [.pt 1 1 0 0,.sl (strs w),.v (.int .i64 a)] (fun x H'=>x=.v (.bool false)∧H'=[some zO,some (rdO s)]):=by
 have hn:0<w.length:=by have:=(List.getElem?_eq_some_iff.1 hk).1;omega
 have hn' : ((0:Int)<(w.length:Int))=True:=eq_true (by omega)
 unfold threadB at hT
 by_cases hl:w.length=1
 ·have hl' : ((w.length:Int)=1)=True:=eq_true (by omega)
  have k1:¬k=[116,104,114,101,97,100]:=fun e=>hT ⟨e,hl⟩
  refine HCalls_body (fn:=Tryz.f46) 142 [6] (by kernel_rfl) rfl (by kernel_rfl) (HW.run 400 (by kernel_rfl) ?_)
  simp (config:={ decide:=true }) only[go_sem,Int.reduceToNat,Nat.reduceAdd,Nat.reduceSub,Nat.reduceMul,Nat.reduceBEq,reduceIte,reduceCtorEq,hk,hl',hn',k1,h3]
  exact endP_rd (s:=s) ⟨rfl,rfl⟩
 ·have hl' : ((w.length:Int)=1)=False:=eq_false (by omega)
  refine HCalls_body (fn:=Tryz.f46) 142 [6] (by kernel_rfl) rfl (by kernel_rfl) (HW.run 400 (by kernel_rfl) ?_)
  simp (config:={ decide:=true }) only[go_sem,Int.reduceToNat,Nat.reduceAdd,Nat.reduceSub,Nat.reduceMul,Nat.reduceBEq,reduceIte,reduceCtorEq,hk,hl',hn',h3]
  exact endP_rd (s:=s) ⟨rfl,rfl⟩
abbrev overR (s:PS) (all:Bool) (c:List AT) (a:Int):PS:={ s with f:={ s.f with all:=all,cond:=c },fin:=a,next:=4 }
set_option maxHeartbeats 8000000 in
theorem rThreadOver (s:PS) (w:List (List UInt8)) (a:Int) (b:Bool) (h3:s.next=3) (hk:w[0]?=some (if b=true then forallB else existsB)) (hw:∀x∈w,x.length≤1000000) (hl:w.length≤1000000) :
  HCalls Tryz.prog 46 [some zO,some (rdO s)] [.pt 1 1 0 0,.sl (strs w),.v (.int .i64 a)] (fun x H'=>x=.v (.bool (atomsF (w.drop 1)).2)∧H'=[some zO,some (rdO (overR s b (if (atomsF (w.drop 1)).2=true then (atomsF (w.drop 1)).1 else []) a))]):=by
 have hn:0<w.length:=by have:=(List.getElem?_eq_some_iff.1 hk).1;omega
 have hn' : ((0:Int)<(w.length:Int))=True:=eq_true (by omega)
 have htk:List.take (w.length-1) (List.drop 1 w)=List.drop 1 w:=List.take_of_length_le (by rw[List.length_drop];omega)
 have hC:=refAtoms5 (w.drop 1) (fun x hx=>hw x (List.mem_of_mem_drop hx)) (by rw[List.length_drop];omega)
 generalize (if (atomsF (w.drop 1)).2=true then (atomsF (w.drop 1)).1 else [])=c at hC⊢
 generalize (atomsF (w.drop 1)).2=o at hC⊢
 have hl1:((w.length:Int)=1)=True∨((w.length:Int)=1)=False:=by
  rcases tfQ ((w.length:Int)=1) with h | h
  ·exact .inl h.2
  ·exact .inr h.2
 cases b with
 | true =>
  have hk' : w[0]?=some [102,111,114,97,108,108]:=hk
  rcases hl1 with hl1 | hl1 <;> refine HCalls_body (fn:=Tryz.f46) 142 [6] (by kernel_rfl) rfl (by kernel_rfl) (HW.run 400 (by kernel_rfl) ?_) <;>
  ·simp (config:={ decide:=true }) only[go_sem,Int.reduceToNat,Nat.reduceAdd,Nat.reduceSub,Nat.reduceMul,Nat.reduceBEq,reduceIte,reduceCtorEq,h3,hk',hn',htk,hl1]
   refine ⟨by omega,?_⟩
   refine callX_nm (hC) rfl rfl ?_
   simp (config:={ decide:=true }) only[go_sem,Int.reduceToNat,Nat.reduceAdd,Nat.reduceSub,Nat.reduceMul,Nat.reduceBEq,reduceIte,reduceCtorEq,h3,hk',hn',htk]
   exact endP_rd (s:=overR s true c a) ⟨rfl,rfl⟩
 | false =>
  have hk' : w[0]?=some [101,120,105,115,116,115]:=hk
  rcases hl1 with hl1 | hl1 <;> refine HCalls_body (fn:=Tryz.f46) 142 [6] (by kernel_rfl) rfl (by kernel_rfl) (HW.run 400 (by kernel_rfl) ?_) <;>
  ·simp (config:={ decide:=true }) only[go_sem,Int.reduceToNat,Nat.reduceAdd,Nat.reduceSub,Nat.reduceMul,Nat.reduceBEq,reduceIte,reduceCtorEq,h3,hk',hn',htk,hl1]
   refine ⟨by omega,?_⟩
   refine callX_nm (hC) rfl rfl ?_
   simp (config:={ decide:=true }) only[go_sem,Int.reduceToNat,Nat.reduceAdd,Nat.reduceSub,Nat.reduceMul,Nat.reduceBEq,reduceIte,reduceCtorEq,h3,hk',hn',htk]
   exact endP_rd (s:=overR s false c a) ⟨rfl,rfl⟩
end Go.Proofs.YtmapdjdnnhlpiaaGreatDoor
namespace Go.Proofs.YtmapdjdnnhlpiaaGreatDoor
open Go.RowKit
set_option maxRecDepth 8000
theorem lns_put1 (A:List (List LT)) (l:List LT):tds A++[[.sl (lns l)]]=tds (A++[l]):=tds_snoc
theorem ints_put1 (A:List (List Int)) (l:List Int):lws A++[[.sl (ints l)]]=lws (A++[l]):=lws_snoc
abbrev rdI (s:PS) (n m:Nat) (A:List (List LT)) (B:List (List Int)) (rest:Heap):Heap :=
 some zO::some (qO s (.hd 2 0 n) (.hd 3 0 m))::some ⟨47,1,tds A⟩::some ⟨38,1,lws B⟩::rest
theorem rdCloseI {N:Nat} {T:Nat→HV} {s:PS} {n m:Nat} {A:List (List LT)} {B:List (List Int)} {rest:Heap} (hn:n=A.length) (hm:m=B.length) :
  Ghost N 2 T (rdI s n m A B rest) T (some zO::some (rdO { s with f:={ s.f with thr:=A },lines:=B })::none::none::rest):=by
 subst hn hm
 have g3:=Ghost.absorbHd (N:=N) (L:=2) (T:=T) (H:=rdI s A.length B.length A B rest) 1 0 2 (j:=2) (len:=A.length) rfl rfl rfl rfl (by decide) (by rw[tds_length]) tds_nmR
 have g4:=g3.trans (Ghost.absorbHd 1 0 8 (j:=3) (len:=B.length) rfl rfl rfl rfl (by decide) (by rw[lws_length]) lws_nmR)
 exact g4
theorem inShut5 {N c:Nat} {T:Nat→HV} {z q X:Option HObj} {pre:List (List LT)} {l' : List LT} {B:List (List HV)} {rest:Heap} (hc:c=l'.length) :
  Ghost N 2 T (z::q::some ⟨47,1,tds pre++[[.hd 5 0 c]]⟩::some ⟨38,1,B⟩::X::some ⟨50,5,lns l'⟩::rest) T
   (z::q::some ⟨47,1,tds (pre++[l'])⟩::some ⟨38,1,B⟩::X::none::rest):=by
 have g:=Ghost.shutHd (N:=N) (L:=2) (T:=T) (H:=z::q::some ⟨47,1,tds pre++[[.hd 5 0 c]]⟩::some ⟨38,1,B⟩::X::some ⟨50,5,lns l'⟩::rest) 2 pre.length 0 (j:=5) rfl (tds_at _ _) rfl rfl (by decide) (by rw[hc,lns_length]) lns_nmR
 refine g.to ?_
 show z::q::some (⟨_,1,(tds pre++[_]).set pre.length _⟩:HObj)::_=_
 rw[tds_put,lns_fzoR]
 show z::q::some (⟨_,1,tds pre++[[.sl (lns l')]]⟩:HObj)::_=_
 rw[lns_put1];rfl
theorem inShut6 {N c:Nat} {T:Nat→HV} {z q X Y:Option HObj} {pre:List (List LT)} {l' : List LT} {B:List (List HV)} {rest:Heap} (hc:c=l'.length) :
  Ghost N 2 T (z::q::some ⟨47,1,tds pre++[[.hd 6 0 c]]⟩::some ⟨38,1,B⟩::X::Y::some ⟨50,5,lns l'⟩::rest) T
   (z::q::some ⟨47,1,tds (pre++[l'])⟩::some ⟨38,1,B⟩::X::Y::none::rest):=by
 have g:=Ghost.shutHd (N:=N) (L:=2) (T:=T) (H:=z::q::some ⟨47,1,tds pre++[[.hd 6 0 c]]⟩::some ⟨38,1,B⟩::X::Y::some ⟨50,5,lns l'⟩::rest) 2 pre.length 0 (j:=6) rfl (tds_at _ _) rfl rfl (by decide) (by rw[hc,lns_length]) lns_nmR
 refine g.to ?_
 show z::q::some (⟨_,1,(tds pre++[_]).set pre.length _⟩:HObj)::_=_
 rw[tds_put,lns_fzoR]
 show z::q::some (⟨_,1,tds pre++[[.sl (lns l')]]⟩:HObj)::_=_
 rw[lns_put1];rfl
theorem inShutL4 {N c n:Nat} {T:Nat→HV} {z q A:Option HObj} {lpre:List (List Int)} {l' : List Int} {rest:Heap} (hn:lpre.length=n) (hc:c=l'.length) :
  Ghost N 2 T (z::q::A::some ⟨38,1,lws lpre++[[.hd 4 0 c]]⟩::some ⟨3,1,ints l'⟩::rest) T
   (z::q::A::some ⟨38,1,lws (lpre++[l'])⟩::none::rest):=by
 have g:=Ghost.shutHd (N:=N) (L:=2) (T:=T) (H:=z::q::A::some ⟨38,1,lws lpre++[[.hd 4 0 c]]⟩::some ⟨3,1,ints l'⟩::rest) 3 lpre.length 0 (j:=4) rfl (lws_at _ _) rfl rfl (by decide) (by rw[hc,ints_length]) ints_nmR
 refine g.to ?_
 show z::q::A::some (⟨_,1,(lws lpre++[_]).set lpre.length _⟩:HObj)::_=_
 rw[lws_put,ints_fzoR]
 show z::q::A::some (⟨_,1,lws lpre++[[.sl (ints l')]]⟩:HObj)::_=_
 rw[ints_put1];rfl
theorem inShutL5 {N c n:Nat} {T:Nat→HV} {z q A X:Option HObj} {lpre:List (List Int)} {l' : List Int} {rest:Heap} (hn:lpre.length=n) (hc:c=l'.length) :
  Ghost N 2 T (z::q::A::some ⟨38,1,lws lpre++[[.hd 5 0 c]]⟩::X::some ⟨3,1,ints l'⟩::rest) T
   (z::q::A::some ⟨38,1,lws (lpre++[l'])⟩::X::none::rest):=by
 have g:=Ghost.shutHd (N:=N) (L:=2) (T:=T) (H:=z::q::A::some ⟨38,1,lws lpre++[[.hd 5 0 c]]⟩::X::some ⟨3,1,ints l'⟩::rest) 3 lpre.length 0 (j:=5) rfl (lws_at _ _) rfl rfl (by decide) (by rw[hc,ints_length]) ints_nmR
 refine g.to ?_
 show z::q::A::some (⟨_,1,(lws lpre++[_]).set lpre.length _⟩:HObj)::_=_
 rw[lws_put,ints_fzoR]
 show z::q::A::some (⟨_,1,lws lpre++[[.sl (ints l')]]⟩:HObj)::_=_
 rw[ints_put1];rfl
set_option maxHeartbeats 16000000 in
theorem rThreadInner (s:PS) (w:List (List UInt8)) (a:Int) {k:List UInt8} (hk:w[0]?=some k) (hT:¬(k=threadB∧w.length=1)) (k1:k≠existsB) (k2:k≠forallB) (h3:s.next=3) (pre:List (List LT)) (lpre:List (List Int)) (l:List LT) (ln:List Int) (e1:s.f.thr=pre++[l]) (e2:s.lines=lpre++[ln]) (e3:lpre.length=pre.length) (hp:pre.length≤100000) (hl:l.length≤100000) (hln:ln.length≤100000) (hw:∀x∈w,x.length≤1000000) (hn0:w.length≤1000000) :
  HCalls Tryz.prog 46 [some zO,some (rdO s)] [.pt 1 1 0 0,.sl (strs w),.v (.int .i64 a)] (fun x H'=>x=.v (.bool (getB w).2)∧H'=[some zO,some (rdO (withLast s pre lpre (l++[(getB w).1]) (ln++[a])))]):=by
 have hn:0<w.length:=by have:=(List.getElem?_eq_some_iff.1 hk).1;omega
 have hn' : ((0:Int)<(w.length:Int))=True:=eq_true (by omega)
 have hG:=refLineGet w hw hn0
 rw[←get_ref w hw] at hG
 have hw0:IntKind.i64.wrap (((pre.length+1:Nat):Int)-1)=(pre.length:Int):=by rw[w64 (by omega) (by omega)];omega
 have hlt:((pre.length:Int)<((pre.length+1:Nat):Int))=True:=eq_true (by omega)
 have ta:=tds_at pre
 have tp:=tds_put pre
 have la:=lws_at lpre
 have lp:=lws_put lpre
 rw[e3] at la lp
 have eT:tds s.f.thr=tds pre++[tdrow l]:=by rw[e1,tds_snoc]
 have eL:lws s.lines=lws lpre++[lwrow ln]:=by rw[e2,lws_snoc]
 have lT:s.f.thr.length=pre.length+1:=by rw[e1];simp
 have lL:s.lines.length=pre.length+1:=by rw[e2];simp[e3]
 generalize getB w=r at hG⊢
 obtain ⟨x,is⟩:=r
 have F:∀Q:HV→Heap→Prop,(((w.length:Int)=1)=True∧¬k=[116,104,114,101,97,100])∨((w.length:Int)=1)=False:=fun Q=>by
  rcases tfQ ((w.length:Int)=1) with h | h
  ·exact .inl ⟨h.2,fun e=>hT ⟨e,by have:=h.1;omega⟩⟩
  ·exact .inr h.2
 unfold existsB at k1
 unfold forallB at k2
 refine HCalls_body (fn:=Tryz.f46) 142 [6] (by kernel_rfl) rfl (by kernel_rfl) (HW.weaken (Q':=fun e=>GQ _ _ (endQ _ _ _ e)) (HW.ghost rdOpen (HW.run 400 (by kernel_rfl) ?_)) (fun _ _ _ h=>h))
 rw[eT,eL,lT,lL]
 rcases F (fun _ _=>True) with ⟨hl1,k3⟩ | hl1
 ·simp (config:={ decide:=true }) only[go_sem,Int.reduceToNat,Nat.reduceAdd,Nat.reduceSub,Nat.reduceMul,Nat.reduceBEq,reduceIte,reduceCtorEq,hk,hn',hl1,k1,k2,k3,h3]
  refine callX_nm (hG) rfl rfl ?_
  simp (config:={ decide:=true }) only[go_sem,Int.reduceToNat,Nat.reduceAdd,Nat.reduceSub,Nat.reduceMul,Nat.reduceBEq,reduceIte,reduceCtorEq,hw0]
  refine HW.treeI (fun T H=>T 0=.pt 1 1 0 0∧T 2=.v (.int .i64 a)∧T 10=.v (.bool is)∧T 11=.v (.int .i64 pre.length)∧H=[some zO,some (qO s (.hd 2 0 (pre.length+1)) (.hd 3 0 (pre.length+1))),some ⟨47,1,tds (pre++[l++[x]])⟩,some ⟨38,1,lws lpre++[[.sl (ints ln)]]⟩]) (.light 0 (.light 1 (.light 2 (.light 3 (.light 4 (.light 5 (.light 7 (.light 8 (.light 9 (.light 10 (.light 11 (.light 12 (.light 13 (.light 14 (.light 15 (.light 17 (.heavy 6 [0,1,2,3,4,5,7,8,9,10,11,12,13,14,15,17] (.heavy 16 [0,1,2,3,4,5,17] (.heavy 18 [0,1,2,3,4,5,7,8,9,10,11,12,13,14,15] (.heavy 19 [0,1,2,3,4,5] (.light 20 (.light 21 (.heavy 22 [] .leaf .stop))) .stop) .stop) (.heavy 18 [0,1,2,3,4,5,7,8,9,10,11,12,13,14,15] (.heavy 16 [0,1,2,3,4,5,17] (.heavy 19 [0,1,2,3,4,5] (.light 20 (.light 21 (.heavy 22 [] .leaf .stop))) .stop) .stop) .stop)) (.heavy 18 [0,1,2,3,4,5,7,8,9,10,11,12,13,14,15] (.heavy 6 [0,1,2,3,4,5,7,8,9,10,11,12,13,14,15,17] (.heavy 16 [0,1,2,3,4,5,17] (.heavy 19 [0,1,2,3,4,5] (.light 20 (.light 21 (.heavy 22 [] .leaf .stop))) .stop) .stop) .stop) .stop)))))))))))))))))) follows (by kernel_rfl) (by kernel_rfl) ?_ ?_
  ·simp (config:={ decide:=true }) only[go_sem,Int.reduceToNat,Nat.reduceAdd,Nat.reduceSub,Nat.reduceMul,Nat.reduceBEq,reduceIte,reduceCtorEq,ta,tp,la,lp,hlt,hw0]
   (with_reducible and_intros) <;> first
    | omega
    | (simp;done)
    | refine GQ.step (inShut5 (l':=l++[x]) (by simp)) (GQ.step (Ghost.trunc [0,2,10,11] 4 (by omega) ?_ ?_) (GQ.done ⟨?_,?_,?_,?_,?_⟩))
    | refine GQ.step (inShut6 (l':=l++[x]) (by simp)) (GQ.step (Ghost.trunc [0,2,10,11] 4 (by omega) ?_ ?_) (GQ.done ⟨?_,?_,?_,?_,?_⟩))
   all_goals first
    | (simp (config:={ decide:=true }) only[go_sem,Nat.reduceBEq,reduceIte];done)
    | (simp (config:={ decide:=true }) only[go_sem,Int.reduceToNat,Nat.reduceAdd,Nat.reduceSub,Nat.reduceMul,Nat.reduceBEq,reduceIte,reduceCtorEq,nmH,List.take_succ_cons,List.take_zero,List.all_cons,List.all_nil,nmR,nmL,nm,cls_nmR,tds_nmR,ats_nmR,nmR_append,lws_nmR,ints_nmR,Bool.and_self];done)
    | rfl
  rintro T H ⟨h0,h2,h10,h11,rfl⟩
  simp (config:={ decide:=true }) only[go_sem,Int.reduceToNat,Nat.reduceAdd,Nat.reduceSub,Nat.reduceMul,Nat.reduceBEq,reduceIte,reduceCtorEq,h0,h2,h10,h11]
  refine HW.treeI (fun T H=>T 10=.v (.bool is)∧H=rdI s (pre.length+1) (pre.length+1) (pre++[l++[x]]) (lpre++[ln++[a]]) []) (.light 0 (.light 1 (.light 2 (.light 3 (.light 4 (.light 6 (.light 7 (.light 8 (.light 9 (.light 10 (.light 11 (.light 12 (.light 14 (.heavy 5 [0,1,2,3,4,6,7,8,9,10,11,12,14] (.heavy 13 [0,1,2,3,4,14] (.heavy 15 [0,1,2,3,4,6,7,8,9,10,11,12] (.heavy 16 [0,1,2,3,4] (.light 17 (.heavy 18 [] .leaf .stop)) .stop) .stop) (.heavy 15 [0,1,2,3,4,6,7,8,9,10,11,12] (.heavy 13 [0,1,2,3,4,14] (.heavy 16 [0,1,2,3,4] (.light 17 (.heavy 18 [] .leaf .stop)) .stop) .stop) .stop)) (.heavy 15 [0,1,2,3,4,6,7,8,9,10,11,12] (.heavy 5 [0,1,2,3,4,6,7,8,9,10,11,12,14] (.heavy 13 [0,1,2,3,4,14] (.heavy 16 [0,1,2,3,4] (.light 17 (.heavy 18 [] .leaf .stop)) .stop) .stop) .stop) .stop))))))))))))))) follows (by kernel_rfl) (by kernel_rfl) ?_ ?_
  ·simp (config:={ decide:=true }) only[go_sem,Int.reduceToNat,Nat.reduceAdd,Nat.reduceSub,Nat.reduceMul,Nat.reduceBEq,reduceIte,reduceCtorEq,h0,h2,h10,h11,ta,tp,la,lp,hlt,hw0]
   (with_reducible and_intros) <;> first
    | omega
    | (simp;done)
    | refine GQ.step (inShutL4 (l':=ln++[a]) e3 (by simp)) (GQ.step (Ghost.trunc [10] 4 (by omega) ?_ ?_) (GQ.done ⟨?_,?_⟩))
    | refine GQ.step (inShutL5 (l':=ln++[a]) e3 (by simp)) (GQ.step (Ghost.trunc [10] 4 (by omega) ?_ ?_) (GQ.done ⟨?_,?_⟩))
   all_goals first
    | (simp (config:={ decide:=true }) only[go_sem,Nat.reduceBEq,reduceIte,h10];done)
    | (simp (config:={ decide:=true }) only[go_sem,Int.reduceToNat,Nat.reduceAdd,Nat.reduceSub,Nat.reduceMul,Nat.reduceBEq,reduceIte,reduceCtorEq,h10,nmH,List.take_succ_cons,List.take_zero,List.all_cons,List.all_nil,nmR,nmL,nm,cls_nmR,tds_nmR,ats_nmR,nmR_append,lws_nmR,ints_nmR,Bool.and_self];done)
    | rfl
  rintro T H ⟨h10,rfl⟩
  simp (config:={ decide:=true }) only[go_sem,Int.reduceToNat,Nat.reduceAdd,Nat.reduceSub,Nat.reduceMul,Nat.reduceBEq,reduceIte,reduceCtorEq,h10]
  refine GQ.step (rdCloseI (by simp) (by simp[e3])) (GQ.done ?_)
  simp (config:={ decide:=true }) only[go_sem,Int.reduceToNat,Nat.reduceAdd,Nat.reduceSub,Nat.reduceMul,Nat.reduceBEq,reduceIte,reduceCtorEq,h10]
  exact endP_rd (s:=withLast s pre lpre (l++[x]) (ln++[a])) ⟨rfl,rfl⟩
 ·simp (config:={ decide:=true }) only[go_sem,Int.reduceToNat,Nat.reduceAdd,Nat.reduceSub,Nat.reduceMul,Nat.reduceBEq,reduceIte,reduceCtorEq,hk,hn',hl1,k1,k2,h3]
  refine callX_nm (hG) rfl rfl ?_
  simp (config:={ decide:=true }) only[go_sem,Int.reduceToNat,Nat.reduceAdd,Nat.reduceSub,Nat.reduceMul,Nat.reduceBEq,reduceIte,reduceCtorEq,hw0]
  refine HW.treeI (fun T H=>T 0=.pt 1 1 0 0∧T 2=.v (.int .i64 a)∧T 10=.v (.bool is)∧T 11=.v (.int .i64 pre.length)∧H=[some zO,some (qO s (.hd 2 0 (pre.length+1)) (.hd 3 0 (pre.length+1))),some ⟨47,1,tds (pre++[l++[x]])⟩,some ⟨38,1,lws lpre++[[.sl (ints ln)]]⟩]) (.light 0 (.light 1 (.light 2 (.light 3 (.light 4 (.light 5 (.light 7 (.light 8 (.light 9 (.light 10 (.light 11 (.light 12 (.light 13 (.light 14 (.light 15 (.light 17 (.heavy 6 [0,1,2,3,4,5,7,8,9,10,11,12,13,14,15,17] (.heavy 16 [0,1,2,3,4,5,17] (.heavy 18 [0,1,2,3,4,5,7,8,9,10,11,12,13,14,15] (.heavy 19 [0,1,2,3,4,5] (.light 20 (.light 21 (.heavy 22 [] .leaf .stop))) .stop) .stop) (.heavy 18 [0,1,2,3,4,5,7,8,9,10,11,12,13,14,15] (.heavy 16 [0,1,2,3,4,5,17] (.heavy 19 [0,1,2,3,4,5] (.light 20 (.light 21 (.heavy 22 [] .leaf .stop))) .stop) .stop) .stop)) (.heavy 18 [0,1,2,3,4,5,7,8,9,10,11,12,13,14,15] (.heavy 6 [0,1,2,3,4,5,7,8,9,10,11,12,13,14,15,17] (.heavy 16 [0,1,2,3,4,5,17] (.heavy 19 [0,1,2,3,4,5] (.light 20 (.light 21 (.heavy 22 [] .leaf .stop))) .stop) .stop) .stop) .stop)))))))))))))))))) follows (by kernel_rfl) (by kernel_rfl) ?_ ?_
  ·simp (config:={ decide:=true }) only[go_sem,Int.reduceToNat,Nat.reduceAdd,Nat.reduceSub,Nat.reduceMul,Nat.reduceBEq,reduceIte,reduceCtorEq,ta,tp,la,lp,hlt,hw0]
   (with_reducible and_intros) <;> first
    | omega
    | (simp;done)
    | refine GQ.step (inShut5 (l':=l++[x]) (by simp)) (GQ.step (Ghost.trunc [0,2,10,11] 4 (by omega) ?_ ?_) (GQ.done ⟨?_,?_,?_,?_,?_⟩))
    | refine GQ.step (inShut6 (l':=l++[x]) (by simp)) (GQ.step (Ghost.trunc [0,2,10,11] 4 (by omega) ?_ ?_) (GQ.done ⟨?_,?_,?_,?_,?_⟩))
   all_goals first
    | (simp (config:={ decide:=true }) only[go_sem,Nat.reduceBEq,reduceIte];done)
    | (simp (config:={ decide:=true }) only[go_sem,Int.reduceToNat,Nat.reduceAdd,Nat.reduceSub,Nat.reduceMul,Nat.reduceBEq,reduceIte,reduceCtorEq,nmH,List.take_succ_cons,List.take_zero,List.all_cons,List.all_nil,nmR,nmL,nm,cls_nmR,tds_nmR,ats_nmR,nmR_append,lws_nmR,ints_nmR,Bool.and_self];done)
    | rfl
  rintro T H ⟨h0,h2,h10,h11,rfl⟩
  simp (config:={ decide:=true }) only[go_sem,Int.reduceToNat,Nat.reduceAdd,Nat.reduceSub,Nat.reduceMul,Nat.reduceBEq,reduceIte,reduceCtorEq,h0,h2,h10,h11]
  refine HW.treeI (fun T H=>T 10=.v (.bool is)∧H=rdI s (pre.length+1) (pre.length+1) (pre++[l++[x]]) (lpre++[ln++[a]]) []) (.light 0 (.light 1 (.light 2 (.light 3 (.light 4 (.light 6 (.light 7 (.light 8 (.light 9 (.light 10 (.light 11 (.light 12 (.light 14 (.heavy 5 [0,1,2,3,4,6,7,8,9,10,11,12,14] (.heavy 13 [0,1,2,3,4,14] (.heavy 15 [0,1,2,3,4,6,7,8,9,10,11,12] (.heavy 16 [0,1,2,3,4] (.light 17 (.heavy 18 [] .leaf .stop)) .stop) .stop) (.heavy 15 [0,1,2,3,4,6,7,8,9,10,11,12] (.heavy 13 [0,1,2,3,4,14] (.heavy 16 [0,1,2,3,4] (.light 17 (.heavy 18 [] .leaf .stop)) .stop) .stop) .stop)) (.heavy 15 [0,1,2,3,4,6,7,8,9,10,11,12] (.heavy 5 [0,1,2,3,4,6,7,8,9,10,11,12,14] (.heavy 13 [0,1,2,3,4,14] (.heavy 16 [0,1,2,3,4] (.light 17 (.heavy 18 [] .leaf .stop)) .stop) .stop) .stop) .stop))))))))))))))) follows (by kernel_rfl) (by kernel_rfl) ?_ ?_
  ·simp (config:={ decide:=true }) only[go_sem,Int.reduceToNat,Nat.reduceAdd,Nat.reduceSub,Nat.reduceMul,Nat.reduceBEq,reduceIte,reduceCtorEq,h0,h2,h10,h11,ta,tp,la,lp,hlt,hw0]
   (with_reducible and_intros) <;> first
    | omega
    | (simp;done)
    | refine GQ.step (inShutL4 (l':=ln++[a]) e3 (by simp)) (GQ.step (Ghost.trunc [10] 4 (by omega) ?_ ?_) (GQ.done ⟨?_,?_⟩))
    | refine GQ.step (inShutL5 (l':=ln++[a]) e3 (by simp)) (GQ.step (Ghost.trunc [10] 4 (by omega) ?_ ?_) (GQ.done ⟨?_,?_⟩))
   all_goals first
    | (simp (config:={ decide:=true }) only[go_sem,Nat.reduceBEq,reduceIte,h10];done)
    | (simp (config:={ decide:=true }) only[go_sem,Int.reduceToNat,Nat.reduceAdd,Nat.reduceSub,Nat.reduceMul,Nat.reduceBEq,reduceIte,reduceCtorEq,h10,nmH,List.take_succ_cons,List.take_zero,List.all_cons,List.all_nil,nmR,nmL,nm,cls_nmR,tds_nmR,ats_nmR,nmR_append,lws_nmR,ints_nmR,Bool.and_self];done)
    | rfl
  rintro T H ⟨h10,rfl⟩
  simp (config:={ decide:=true }) only[go_sem,Int.reduceToNat,Nat.reduceAdd,Nat.reduceSub,Nat.reduceMul,Nat.reduceBEq,reduceIte,reduceCtorEq,h10]
  refine GQ.step (rdCloseI (by simp) (by simp[e3])) (GQ.done ?_)
  simp (config:={ decide:=true }) only[go_sem,Int.reduceToNat,Nat.reduceAdd,Nat.reduceSub,Nat.reduceMul,Nat.reduceBEq,reduceIte,reduceCtorEq,h10]
  exact endP_rd (s:=withLast s pre lpre (l++[x]) (ln++[a])) ⟨rfl,rfl⟩
end Go.Proofs.YtmapdjdnnhlpiaaGreatDoor
namespace Go.Proofs.YtmapdjdnnhlpiaaGreatDoor
open Go.RowKit
set_option maxRecDepth 8000
theorem takeN {α:Type} {a b:List α} {i:Nat} {x:α} (h:a.take i=b.take i) (hx:a[i]?=some x) (hy:b[i]?=some x):a.take (i+1)=b.take (i+1):=by
 rw[List.take_add_one,List.take_add_one,h,hx,hy]
theorem takeNe {α:Type} {a b:List α} {i:Nat} {x y:α} (hx:a[i]?=some x) (hy:b[i]?=some y) (e:x≠y):a≠b:=by
 rintro rfl;rw[hx] at hy;exact e (Option.some.inj hy)
theorem takeAll {α:Type} {a b:List α} {i:Nat} (h:a.take i=b.take i) (hl:a.length=b.length) (hi:i=a.length):a=b:=by
 subst hi
 rwa [List.take_length,hl,List.take_length] at h
theorem lenEq {a b:Nat}:((a:Int)=(b:Int))=(a=b):=by simp only[eq_iff_iff];omega
theorem intLt {a b:Nat}:((a:Int)<(b:Int))=(a<b):=by simp
theorem falseOf {p:Prop} [Decidable p] (h:¬p):HV.v (.bool false)=HV.v (.bool (decide p)):=by rw[decide_eq_false h]
set_option maxHeartbeats 16000000 in
theorem refSameFl (f g:Fl) (hi:f.init.length≤1000000) (ht:f.thr.length≤1000000) (hc:f.cond.length≤1000000) (hl:∀l∈f.thr,l.length≤1000000) :
  HFn Tryz.prog 12 [fileH f,fileH g] (.v (.bool (decide (f=g)))):=by
 obtain ⟨fn,fi,ft,fa,fc⟩:=f
 obtain ⟨gn,gi,gt,ga,gc⟩:=g
 simp only at hi ht hc hl
 refine HCalls_body (fn:=Tryz.f12) 136 [4] (by kernel_rfl) rfl (by kernel_rfl) (HW.run 400 (by kernel_rfl) ?_)
 by_cases c1:fn=gn
 case neg =>
  simp (config:={ decide:=true }) only[go_sem,Int.reduceToNat,Nat.reduceAdd,Nat.reduceSub,Nat.reduceMul,Nat.reduceBEq,reduceIte,reduceCtorEq,c1]
  exact falseOf (by simp[c1])
 subst c1
 by_cases c2:fa=ga
 case neg =>
  simp (config:={ decide:=true }) only[go_sem,Int.reduceToNat,Nat.reduceAdd,Nat.reduceSub,Nat.reduceMul,Nat.reduceBEq,reduceIte,reduceCtorEq,c2]
  exact falseOf (by simp[c2])
 subst c2
 by_cases l1:fi.length=gi.length
 case neg =>
  have l1' : ((fi.length:Int)=(gi.length:Int))=False:=by rw[lenEq];simp[l1]
  simp (config:={ decide:=true }) only[go_sem,Int.reduceToNat,Nat.reduceAdd,Nat.reduceSub,Nat.reduceMul,Nat.reduceBEq,reduceIte,reduceCtorEq,l1']
  exact falseOf fun e=>l1 (by simp only[Fl.mk.injEq] at e;rw[e.2.1])
 have l1' : ((fi.length:Int)=(gi.length:Int))=True:=by rw[lenEq];simp[l1]
 by_cases l2:ft.length=gt.length
 case neg =>
  have l2' : ((ft.length:Int)=(gt.length:Int))=False:=by rw[lenEq];simp[l2]
  simp (config:={ decide:=true }) only[go_sem,Int.reduceToNat,Nat.reduceAdd,Nat.reduceSub,Nat.reduceMul,Nat.reduceBEq,reduceIte,reduceCtorEq,l1',l2']
  exact falseOf fun e=>l2 (by simp only[Fl.mk.injEq] at e;rw[e.2.2.1])
 have l2' : ((ft.length:Int)=(gt.length:Int))=True:=by rw[lenEq];simp[l2]
 by_cases l3:fc.length=gc.length
 case neg =>
  have l3' : ((fc.length:Int)=(gc.length:Int))=False:=by rw[lenEq];simp[l3]
  simp (config:={ decide:=true }) only[go_sem,Int.reduceToNat,Nat.reduceAdd,Nat.reduceSub,Nat.reduceMul,Nat.reduceBEq,reduceIte,reduceCtorEq,l1',l2',l3']
  exact falseOf fun e=>l3 (by simp only[Fl.mk.injEq] at e;rw[e.2.2.2.2])
 have l3' : ((fc.length:Int)=(gc.length:Int))=True:=by rw[lenEq];simp[l3]
 simp (config:={ decide:=true }) only[go_sem,Int.reduceToNat,Nat.reduceAdd,Nat.reduceSub,Nat.reduceMul,Nat.reduceBEq,reduceIte,reduceCtorEq,l1',l2',l3']
 refine HW.loopG (fun k T H=>∃(i:Nat),k=fi.length-i∧i≤fi.length∧fi.take i=gi.take i∧T 2=.pt 0 1 0 0∧T 3=.pt 1 1 0 0∧T 5=.v (.int .i64 i)∧H=[some (fileO ⟨fn,fi,ft,fa,fc⟩),some (fileO ⟨fn,gi,gt,fa,gc⟩)]) fi.length ⟨_,_,Ghost.refl,0,rfl,by omega,rfl,rfl,rfl,rfl,rfl⟩ ?_
 rintro k T H ⟨i,rfl,hil,heq,h2,h3,h5,rfl⟩
 refine HW.run 200 (by kernel_rfl) ?_
 by_cases hlt:i<fi.length
 ·have hlt' : ((i:Int)<(fi.length:Int))=True:=by rw[intLt];simp[hlt]
  have hlt2:((i:Int)<(gi.length:Int))=True:=by rw[intLt];simp;omega
  have hx:fi[i]?=some fi[i]:=List.getElem?_eq_getElem hlt
  have hy:gi[i]?=some (gi[i]'(by omega)):=List.getElem?_eq_getElem (by omega)
  generalize fi[i]=x at hx
  generalize gi[i]'(by omega)=y at hy
  simp (config:={ decide:=true }) only[go_sem,Int.reduceToNat,Nat.reduceAdd,Nat.reduceSub,Nat.reduceMul,Nat.reduceBEq,reduceIte,reduceCtorEq,h2,h3,h5,hlt']
  refine HW.tree 1 (.light 0 (.light 1 (.light 2 (.light 3 (.light 4 (.light 5 (.light 6 (.light 7 (.light 8 (.light 9 (.light 10 .leaf))))))))))) follows (by kernel_rfl) (by kernel_rfl) ?_
  by_cases hxy:x=y
  ·subst hxy
   simp (config:={ decide:=true }) only[go_sem,Int.reduceToNat,Nat.reduceAdd,Nat.reduceSub,Nat.reduceMul,Nat.reduceBEq,reduceIte,reduceCtorEq,h2,h3,h5,hx,hy,hlt',hlt2,crow]
   all_goals repeat (with_reducible refine And.intro ?_ ?_;·(with_reducible and_intros) <;> omega)
   refine ⟨_,_,Ghost.refl,fi.length-(i+1),by omega,i+1,rfl,by omega,takeN heq hx hy,?_,?_,?_,rfl⟩
   all_goals first | (simp (config:={ decide:=true }) only[go_sem,Nat.reduceBEq,reduceIte,h2,h3];done) | (simp (config:={ decide:=true }) only[go_sem,Nat.reduceBEq,reduceIte];rw[w64 (by omega) (by omega)];rfl)
  ·have hd:(decide (x.1=y.1) && decide (x.2=y.2))=false:=by
    rw[Bool.eq_false_iff]
    simp only[ne_eq,Bool.and_eq_true,decide_eq_true_eq]
    exact fun h=>hxy (Prod.ext h.1 h.2)
   simp (config:={ decide:=true }) only[go_sem,Int.reduceToNat,Nat.reduceAdd,Nat.reduceSub,Nat.reduceMul,Nat.reduceBEq,reduceIte,reduceCtorEq,h2,h3,h5,hx,hy,hlt',hlt2,crow,hd]
   all_goals repeat (with_reducible refine And.intro ?_ ?_;·(with_reducible and_intros) <;> omega)
   exact falseOf fun e=>takeNe hx hy hxy (by simp only[Fl.mk.injEq] at e;exact e.2.1)
 obtain rfl:i=fi.length:=by omega
 have hlt' : ((fi.length:Int)<(fi.length:Int))=False:=by rw[intLt];simp
 obtain rfl:fi=gi:=takeAll heq l1 rfl
 simp (config:={ decide:=true }) only[go_sem,Int.reduceToNat,Nat.reduceAdd,Nat.reduceSub,Nat.reduceMul,Nat.reduceBEq,reduceIte,reduceCtorEq,h2,h3,h5,hlt']
 refine HW.loopG (fun k T H=>∃(i:Nat),k=ft.length-i∧i≤ft.length∧ft.take i=gt.take i∧T 2=.pt 0 1 0 0∧T 3=.pt 1 1 0 0∧T 6=.v (.int .i64 i)∧H=[some (fileO ⟨fn,fi,ft,fa,fc⟩),some (fileO ⟨fn,fi,gt,fa,gc⟩)]) ft.length ⟨_,_,Ghost.refl,0,rfl,by omega,rfl,by simp (config:={ decide:=true }) only[go_sem,Nat.reduceBEq,reduceIte,h2],by simp (config:={ decide:=true }) only[go_sem,Nat.reduceBEq,reduceIte,h3],rfl,rfl⟩ ?_
 clear h2 h3 h5 heq hil
 rintro k T H ⟨i,rfl,hil,heq,h2,h3,h6,rfl⟩
 refine HW.run 200 (by kernel_rfl) ?_
 by_cases hlt:i<ft.length
 ·have hlt' : ((i:Int)<(ft.length:Int))=True:=by rw[intLt];simp[hlt]
  have hlt2:((i:Int)<(gt.length:Int))=True:=by rw[intLt];simp;omega
  have hx:ft[i]?=some ft[i]:=List.getElem?_eq_getElem hlt
  have hy:gt[i]?=some (gt[i]'(by omega)):=List.getElem?_eq_getElem (by omega)
  have hxl:=hl _ (List.getElem_mem hlt)
  generalize ft[i]=x at hx hxl
  generalize gt[i]'(by omega)=y at hy
  by_cases l4:x.length=y.length
  case neg =>
   have l4' : ((x.length:Int)=(y.length:Int))=False:=by rw[lenEq];simp[l4]
   simp (config:={ decide:=true }) only[go_sem,Int.reduceToNat,Nat.reduceAdd,Nat.reduceSub,Nat.reduceMul,Nat.reduceBEq,reduceIte,reduceCtorEq,h2,h3,h6,hlt']
   refine HW.tree 1 (.light 0 (.light 1 (.light 2 (.light 3 (.light 4 (.light 5 (.light 6 (.light 7 (.light 8 (.light 9 (.light 10 (.light 11 (.light 12 (.light 13 (.light 14 .leaf))))))))))))))) follows (by kernel_rfl) (by kernel_rfl) ?_
   simp (config:={ decide:=true }) only[go_sem,Int.reduceToNat,Nat.reduceAdd,Nat.reduceSub,Nat.reduceMul,Nat.reduceBEq,reduceIte,reduceCtorEq,h2,h3,h6,hx,hy,hlt',hlt2,tdrow,l4']
   all_goals repeat (with_reducible refine And.intro ?_ ?_;·(with_reducible and_intros) <;> omega)
   exact falseOf fun e=>takeNe hx hy (fun e=>l4 (by rw[e])) (by simp only[Fl.mk.injEq] at e;exact e.2.2.1)
  have l4' : ((x.length:Int)=(y.length:Int))=True:=by rw[lenEq];simp[l4]
  simp (config:={ decide:=true }) only[go_sem,Int.reduceToNat,Nat.reduceAdd,Nat.reduceSub,Nat.reduceMul,Nat.reduceBEq,reduceIte,reduceCtorEq,h2,h3,h6,hlt']
  refine HW.tree 1 (.light 0 (.light 1 (.light 2 (.light 3 (.light 4 (.light 5 (.light 6 (.light 7 (.light 8 (.light 9 (.light 10 (.light 11 (.light 12 (.light 13 (.light 14 .leaf))))))))))))))) follows (by kernel_rfl) (by kernel_rfl) ?_
  simp (config:={ decide:=true }) only[go_sem,Int.reduceToNat,Nat.reduceAdd,Nat.reduceSub,Nat.reduceMul,Nat.reduceBEq,reduceIte,reduceCtorEq,h2,h3,h6,hx,hy,hlt',hlt2,tdrow,l4']
  all_goals repeat (with_reducible refine And.intro ?_ ?_;·(with_reducible and_intros) <;> omega)
  refine HW.loopG (fun k T H=>∃(j:Nat),k=x.length-j∧j≤x.length∧x.take j=y.take j∧T 2=.pt 0 1 0 0∧T 3=.pt 1 1 0 0∧T 6=.v (.int .i64 i)∧T 7=.v (.int .i64 j)∧H=[some (fileO ⟨fn,fi,ft,fa,fc⟩),some (fileO ⟨fn,fi,gt,fa,gc⟩)]) x.length ⟨_,_,Ghost.refl,0,rfl,by omega,rfl,by simp (config:={ decide:=true }) only[go_sem,Nat.reduceBEq,reduceIte,h2],by simp (config:={ decide:=true }) only[go_sem,Nat.reduceBEq,reduceIte,h3],by simp (config:={ decide:=true }) only[go_sem,Nat.reduceBEq,reduceIte,h6],rfl,rfl⟩ ?_
  clear h2 h3 h6
  rintro k T H ⟨j,rfl,hjl,hej,h2,h3,h6,h7,rfl⟩
  refine HW.run 200 (by kernel_rfl) ?_
  by_cases hjt:j<x.length
  ·have hjt' : ((j:Int)<(x.length:Int))=True:=by rw[intLt];simp[hjt]
   have hjt2:((j:Int)<(y.length:Int))=True:=by rw[intLt];simp;omega
   have hu:x[j]?=some x[j]:=List.getElem?_eq_getElem hjt
   have hv:y[j]?=some (y[j]'(by omega)):=List.getElem?_eq_getElem (by omega)
   generalize x[j]=u at hu
   generalize y[j]'(by omega)=v at hv
   simp (config:={ decide:=true }) only[go_sem,Int.reduceToNat,Nat.reduceAdd,Nat.reduceSub,Nat.reduceMul,Nat.reduceBEq,reduceIte,reduceCtorEq,h2,h3,h6,h7,hlt',hx,tdrow,hjt']
   repeat (with_reducible refine And.intro ?_ ?_;·(with_reducible and_intros) <;> omega)
   refine HW.tree 1 (.light 0 (.light 1 (.light 2 (.light 3 (.light 4 (.light 5 (.light 6 (.light 7 (.light 8 (.light 9 (.light 10 (.light 11 (.light 12 (.light 13 (.light 14 (.light 15 (.light 16 (.light 17 (.light 18 .leaf))))))))))))))))))) follows (by kernel_rfl) (by kernel_rfl) ?_
   by_cases huv:u=v
   ·subst huv
    simp (config:={ decide:=true }) only[go_sem,Int.reduceToNat,Nat.reduceAdd,Nat.reduceSub,Nat.reduceMul,Nat.reduceBEq,reduceIte,reduceCtorEq,h2,h3,h6,h7,hx,hy,hu,hv,hlt',hlt2,hjt',hjt2,tdrow,lnrow]
    all_goals repeat (with_reducible refine And.intro ?_ ?_;·(with_reducible and_intros) <;> omega)
    refine ⟨_,_,Ghost.refl,x.length-(j+1),by omega,j+1,rfl,by omega,takeN hej hu hv,?_,?_,?_,?_,rfl⟩
    all_goals first | (simp (config:={ decide:=true }) only[go_sem,Nat.reduceBEq,reduceIte,h2,h3,h6];done) | (simp (config:={ decide:=true }) only[go_sem,Nat.reduceBEq,reduceIte];rw[w64 (by omega) (by omega)];rfl)
   ·have hd:(decide (u.op=v.op) && (decide (u.rg=v.rg) && (decide (u.loc=v.loc) && (decide (u.lab=v.lab) && decide (u.n=v.n)))))=false:=by
     rw[Bool.eq_false_iff]
     simp only[ne_eq,Bool.and_eq_true,decide_eq_true_eq]
     exact fun h=>huv (by cases u;cases v;simp at h;simp[h])
    simp (config:={ decide:=true }) only[go_sem,Int.reduceToNat,Nat.reduceAdd,Nat.reduceSub,Nat.reduceMul,Nat.reduceBEq,reduceIte,reduceCtorEq,h2,h3,h6,h7,hx,hy,hu,hv,hlt',hlt2,hjt',hjt2,tdrow,lnrow,hd]
    all_goals repeat (with_reducible refine And.intro ?_ ?_;·(with_reducible and_intros) <;> omega)
    exact falseOf fun e=>takeNe hx hy (takeNe hu hv huv) (by simp only[Fl.mk.injEq] at e;exact e.2.2.1)
  ·have hjt' : ((j:Int)<(x.length:Int))=False:=by rw[intLt];simp[hjt]
   obtain rfl:x=y:=takeAll hej l4 (by omega)
   simp (config:={ decide:=true }) only[go_sem,Int.reduceToNat,Nat.reduceAdd,Nat.reduceSub,Nat.reduceMul,Nat.reduceBEq,reduceIte,reduceCtorEq,h2,h3,h6,h7,hlt',hx,tdrow,hjt']
   repeat (with_reducible refine And.intro ?_ ?_;·(with_reducible and_intros) <;> omega)
   refine ⟨_,_,Ghost.refl,ft.length-(i+1),by omega,i+1,rfl,by omega,takeN heq hx hy,?_,?_,?_,rfl⟩
   all_goals first | (simp (config:={ decide:=true }) only[go_sem,Nat.reduceBEq,reduceIte,h2,h3];done) | (simp (config:={ decide:=true }) only[go_sem,Nat.reduceBEq,reduceIte];rw[w64 (by omega) (by omega)];rfl)
 obtain rfl:i=ft.length:=by omega
 have hlt' : ((ft.length:Int)<(ft.length:Int))=False:=by rw[intLt];simp
 obtain rfl:ft=gt:=takeAll heq l2 rfl
 simp (config:={ decide:=true }) only[go_sem,Int.reduceToNat,Nat.reduceAdd,Nat.reduceSub,Nat.reduceMul,Nat.reduceBEq,reduceIte,reduceCtorEq,h2,h3,h6,hlt']
 refine HW.loopG (fun k T H=>∃(i:Nat),k=fc.length-i∧i≤fc.length∧fc.take i=gc.take i∧T 2=.pt 0 1 0 0∧T 3=.pt 1 1 0 0∧T 8=.v (.int .i64 i)∧H=[some (fileO ⟨fn,fi,ft,fa,fc⟩),some (fileO ⟨fn,fi,ft,fa,gc⟩)]) fc.length ⟨_,_,Ghost.refl,0,rfl,by omega,rfl,by simp (config:={ decide:=true }) only[go_sem,Nat.reduceBEq,reduceIte,h2],by simp (config:={ decide:=true }) only[go_sem,Nat.reduceBEq,reduceIte,h3],rfl,rfl⟩ ?_
 clear h2 h3 h6 heq hil
 rintro k T H ⟨i,rfl,hil,heq,h2,h3,h8,rfl⟩
 refine HW.run 200 (by kernel_rfl) ?_
 by_cases hlt:i<fc.length
 ·have hlt' : ((i:Int)<(fc.length:Int))=True:=by rw[intLt];simp[hlt]
  have hlt2:((i:Int)<(gc.length:Int))=True:=by rw[intLt];simp;omega
  have hx:fc[i]?=some fc[i]:=List.getElem?_eq_getElem hlt
  have hy:gc[i]?=some (gc[i]'(by omega)):=List.getElem?_eq_getElem (by omega)
  generalize fc[i]=x at hx
  generalize gc[i]'(by omega)=y at hy
  simp (config:={ decide:=true }) only[go_sem,Int.reduceToNat,Nat.reduceAdd,Nat.reduceSub,Nat.reduceMul,Nat.reduceBEq,reduceIte,reduceCtorEq,h2,h3,h8,hlt']
  refine HW.tree 1 (.light 0 (.light 1 (.light 2 (.light 3 (.light 4 (.light 5 (.light 6 (.light 7 (.light 8 (.light 9 (.light 10 .leaf))))))))))) follows (by kernel_rfl) (by kernel_rfl) ?_
  by_cases hxy:x=y
  ·subst hxy
   simp (config:={ decide:=true }) only[go_sem,Int.reduceToNat,Nat.reduceAdd,Nat.reduceSub,Nat.reduceMul,Nat.reduceBEq,reduceIte,reduceCtorEq,h2,h3,h8,hx,hy,hlt',hlt2,arow]
   all_goals repeat (with_reducible refine And.intro ?_ ?_;·(with_reducible and_intros) <;> omega)
   refine ⟨_,_,Ghost.refl,fc.length-(i+1),by omega,i+1,rfl,by omega,takeN heq hx hy,?_,?_,?_,rfl⟩
   all_goals first | (simp (config:={ decide:=true }) only[go_sem,Nat.reduceBEq,reduceIte,h2,h3];done) | (simp (config:={ decide:=true }) only[go_sem,Nat.reduceBEq,reduceIte];rw[w64 (by omega) (by omega)];rfl)
  ·have hd:(decide (x.th=y.th) && (decide (x.nm=y.nm) && decide (x.n=y.n)))=false:=by
    rw[Bool.eq_false_iff]
    simp only[ne_eq,Bool.and_eq_true,decide_eq_true_eq]
    exact fun h=>hxy (by cases x;cases y;simp at h;simp[h])
   simp (config:={ decide:=true }) only[go_sem,Int.reduceToNat,Nat.reduceAdd,Nat.reduceSub,Nat.reduceMul,Nat.reduceBEq,reduceIte,reduceCtorEq,h2,h3,h8,hx,hy,hlt',hlt2,arow,hd]
   all_goals repeat (with_reducible refine And.intro ?_ ?_;·(with_reducible and_intros) <;> omega)
   exact falseOf fun e=>takeNe hx hy hxy (by simp only[Fl.mk.injEq] at e;exact e.2.2.2.2)
 ·have hlt' : ((i:Int)<(fc.length:Int))=False:=by rw[intLt];simp[hlt]
  obtain rfl:fc=gc:=takeAll heq l3 (by omega)
  simp (config:={ decide:=true }) only[go_sem,Int.reduceToNat,Nat.reduceAdd,Nat.reduceSub,Nat.reduceMul,Nat.reduceBEq,reduceIte,reduceCtorEq,h2,h3,h8,hlt']
end Go.Proofs.YtmapdjdnnhlpiaaGreatDoor
namespace Go.Proofs.YtmapdjdnnhlpiaaGreatDoor
open Go.RowKit
set_option maxRecDepth 8000
def bufF:Fl:=⟨[115,98],[([120],0)],[[⟨4,[],[120],[],1⟩,⟨2,[101,97,120],[121],[],0⟩],[⟨4,[],[121],[],1⟩,⟨2,[101,97,120],[120],[],0⟩]],false,[⟨0,[101,97,120],0⟩,⟨1,[101,97,120],0⟩]⟩
theorem lawBuffering:HFn Tryz.prog 21 [] (fileH bufF):=by
 refine HFn_bodyF (fn:=Tryz.f21) 5 16 [.cell 0 27] (by kernel_rfl) rfl rfl (by kernel_rfl) (HW.run 400 (by kernel_rfl) ?_)
 simp (config:={ decide:=true }) only[go_sem,Int.reduceToNat,Nat.reduceAdd,Nat.reduceSub,Nat.reduceMul,Nat.reduceBEq,reduceIte,reduceCtorEq]
 rfl
theorem parse_at (s:List UInt8) (r:Fl×Int×Int) (h:parseF s=r) (hs:s.length≤1000000):HFn Tryz.prog 10 [.v (str s)] (parV r):=h▸parseParse s hs
def lit1:List UInt8:=[120,56,54,32,115,98,10,105,110,105,116,32,120,32,48,10,116,104,114,101,97,100,10,109,111,118,32,91,120,93,32,49,10,109,111,118,32,101,97,120,32,91,121,93,10,10,116,104,114,101,97,100,10,32,109,111,118,32,32,91,121,93,32,49,10,109,111,118,32,101,97,120,32,91,120,93,10,101,120,105,115,116,115,32,48,58,101,97,120,61,48,32,49,58,101,97,120,61,48,10]
def lit2:List UInt8:=[120,56,54,32,115,98,10,116,104,114,101,97,100,10]
def lit4:List UInt8:=[120,56,54,32,109,111,118,10,105,110,105,116,10,116,104,114,101,97,100,10,101,120,105,115,116,115]
def lit5:List UInt8:=[120,56,54,32,97,10,105,110,105,116,10,116,104,114,101,97,100,10,106,109,112,32,108,10,101,120,105,115,116,115]
theorem parse1:parseF lit1=(bufF,0,0):=by decide +kernel
theorem parse2:parseF lit2=(noFl,2,11):=by decide +kernel
theorem parse3:parseF []=(noFl,1,11):=by decide +kernel
theorem parse4:parseF lit4=(noFl,1,22):=by decide +kernel
theorem parse5:parseF lit5=(noFl,4,22):=by decide +kernel
theorem parHead:HFn Tryz.prog 9 [] (.v (.bool true)):=by
 have p1:=parse_at lit1 _ parse1 (by decide)
 have p2:=parse_at lit2 _ parse2 (by decide)
 have p3:=parse_at [] _ parse3 (by decide)
 have p4:=parse_at lit4 _ parse4 (by decide)
 have p5:=parse_at lit5 _ parse5 (by decide)
 have sm:=refSameFl bufF bufF (by decide) (by decide) (by decide) (by decide)
 rw[decide_eq_true rfl] at sm
 refine HCalls_body (fn:=Tryz.f9) 84 [0] (by kernel_rfl) rfl (by kernel_rfl) (HW.run 400 (by kernel_rfl) ?_)
 simp (config:={ decide:=true }) only[go_sem,Int.reduceToNat,Nat.reduceAdd,Nat.reduceSub,Nat.reduceMul,Nat.reduceBEq,reduceIte,reduceCtorEq]
 refine callX_nm (p1) rfl rfl ?_
 simp (config:={ decide:=true }) only[go_sem,Int.reduceToNat,Nat.reduceAdd,Nat.reduceSub,Nat.reduceMul,Nat.reduceBEq,reduceIte,reduceCtorEq]
 refine callX_nm (p2) rfl rfl ?_
 simp (config:={ decide:=true }) only[go_sem,Int.reduceToNat,Nat.reduceAdd,Nat.reduceSub,Nat.reduceMul,Nat.reduceBEq,reduceIte,reduceCtorEq]
 refine callX_nm (p3) rfl rfl ?_
 simp (config:={ decide:=true }) only[go_sem,Int.reduceToNat,Nat.reduceAdd,Nat.reduceSub,Nat.reduceMul,Nat.reduceBEq,reduceIte,reduceCtorEq]
 refine callX_nm (p4) rfl rfl ?_
 simp (config:={ decide:=true }) only[go_sem,Int.reduceToNat,Nat.reduceAdd,Nat.reduceSub,Nat.reduceMul,Nat.reduceBEq,reduceIte,reduceCtorEq]
 refine callX_nm (p5) rfl rfl ?_
 simp (config:={ decide:=true }) only[go_sem,Int.reduceToNat,Nat.reduceAdd,Nat.reduceSub,Nat.reduceMul,Nat.reduceBEq,reduceIte,reduceCtorEq]
 refine HW.tree 1 (.light 0 (.heavy 1 [0] (.heavy 2 [] (.light 3 (.light 4 (.light 5 (.light 6 (.light 7 (.light 8 (.light 9 (.light 10 (.light 11 (.light 12 (.light 13 (.light 14 (.light 15 (.light 16 (.light 17 (.light 18 (.light 19 (.light 20 (.light 21 (.light 22 (.light 23 (.light 24 (.light 25 (.light 26 (.light 27 (.light 28 (.light 29 (.light 30 (.light 31 (.light 32 (.light 33 (.light 34 (.light 35 (.light 36 (.light 37 (.light 38 (.light 39 (.light 40 (.light 41 (.light 42 (.light 43 .leaf))))))))))))))))))))))))))))))))))))))))) .stop) .stop)) follows (by kernel_rfl) (by kernel_rfl) ?_
 simp (config:={ decide:=true }) only[go_sem,Int.reduceToNat,Nat.reduceAdd,Nat.reduceSub,Nat.reduceMul,Nat.reduceBEq,reduceIte,reduceCtorEq]
 refine callX_nm (lawBuffering) rfl rfl ?_
 simp (config:={ decide:=true }) only[go_sem,Int.reduceToNat,Nat.reduceAdd,Nat.reduceSub,Nat.reduceMul,Nat.reduceBEq,reduceIte,reduceCtorEq]
 refine callX_nm (sm) rfl rfl ?_
 simp (config:={ decide:=true }) only[go_sem,Int.reduceToNat,Nat.reduceAdd,Nat.reduceSub,Nat.reduceMul,Nat.reduceBEq,reduceIte,reduceCtorEq]
end Go.Proofs.YtmapdjdnnhlpiaaGreatDoor
namespace Go.Proofs.YtmapdjdnnhlpiaaGreatDoor
open Go.RowKit
set_option maxRecDepth 8000
theorem tfP (p:Prop):(p∧p=True)∨(¬p∧p=False):=by
 by_cases h:p
 ·exact .inl ⟨h,eq_true h⟩
 ·exact .inr ⟨h,eq_false h⟩
theorem refLinesS (s:List UInt8) (hs:s.length≤1000000):HFn Tryz.prog 14 [.v (str s)] (.sl (strs (linesB s))):=HFn.shut (refLines s hs) (by simp only[fzo_owStrs])
theorem refWordsS (s:List UInt8) (hs:s.length≤1000000):HFn Tryz.prog 15 [.v (str s)] (.sl (strs (wordsB s))):=HFn.shut (refWords s hs) (by simp only[fzo_owStrs])
end Go.Proofs.YtmapdjdnnhlpiaaGreatDoor
namespace Go.Proofs.YtmapdjdnnhlpiaaGreatDoor
open Go.RowKit
set_option maxRecDepth 8000
theorem refSameSm (f g:Fl) (h:SmallF f):HFn Tryz.prog 12 [fileH f,fileH g] (.v (.bool (decide (f=g)))) :=
 refSameFl f g (by have:=h.init;omega) (by have:=h.thr;omega) (by have:=h.cond;omega) (fun l hl=>by have:=h.len l hl;omega)
theorem regB_len {s:List UInt8} (h:0≤regB s):s.length≤3:=by
 rcases regB_cases s with h1 | ⟨h1,h2,h3⟩
 ·omega
 ·rw[←h3]
  unfold regNm
  repeat' split
  all_goals decide
theorem right_lens {x:LT} (h:x.right=true):x.rg.length≤1000000∧x.loc.length≤1000000∧x.lab.length≤1000000:=by
 have hr:∀s,0≤regB s→s.length≤1000000:=fun s hs=>by have:=regB_len hs;omega
 have hn:∀s,nameB s=true→s.length≤1000000:=fun s hs=>by have:=nameB_len8 hs;omega
 have h0:([]:List UInt8).length≤1000000:=by decide
 cases (right_iff x).1 h <;> refine ⟨?_,?_,?_⟩ <;> first | exact h0 | (apply hr;assumption) | (apply hn;assumption)
theorem read_name {s:PS} {w:List (List UInt8)} {a:Int} (hw:∀x∈w,x.length≤1000000) (h:s.f.name.length≤1000000):(readF s w a).1.f.name.length≤1000000:=by
 unfold readF
 split
 ·unfold headF;split
  ·show (w[1]?.getD []).length≤_
   cases e:w[1]? with
   | none=>simp
   | some x=>exact hw x (List.mem_of_getElem? e)
  ·exact h
 split
 ·unfold startF;split <;> exact h
 split
 ·unfold bodyF;split
  ·exact h
  split
  ·unfold threadF;split <;> exact h
  ·exact h
 split
 ·unfold threadF;split <;> exact h
 ·exact h
theorem flatLoc_len (r:List (List LT)):(r.flatMap fun l=>l.map (·.loc)).length=(r.map List.length).sum:=by
 induction r with
 | nil=>rfl
 | cons a r ih=>simp[List.flatMap_cons,ih]
theorem okR_sm {f:Fl} (h:SmallF f) (hn:NmA f) (hg:GoodF f) (hm:f.name.length≤1000000):OkR f:=by
 have h1:=h.init
 have h2:=h.thr
 have h3:=h.cond
 have h4:=h.tot
 refine ⟨by omega,by omega,by omega,fun l hl=>by have:=h.len l hl;omega,?_,hm,hn.i,fun l hl x hx=>right_lens (hg.t l hl x hx).1,hn.c⟩
 have:=condL_len f.cond
 unfold rawL
 rw[List.length_append,List.length_append,List.length_map,flatLoc_len]
 omega
end Go.Proofs.YtmapdjdnnhlpiaaGreatDoor
namespace Go.Proofs.YtmapdjdnnhlpiaaGreatDoor
open Go.RowKit
set_option maxRecDepth 8000
structure Fresh (s:PS):Prop where
 next:s.next=0∨s.next=1∨s.next=2∨s.next=3∨s.next=4
 init:s.next≤1→s.f.init=[]
 cond:s.next≤3→s.f.cond=[]
theorem fresh0:Fresh pS0:=⟨.inl rfl,fun _=>rfl,fun _=>rfl⟩
theorem fresh_read {s:PS} {w:List (List UInt8)} {a:Int} (h:Fresh s) (hr:(readF s w a).2=true):Fresh (readF s w a).1:=by
 have thr:s.next=2∨s.next=3→(threadF s w).2=true→Fresh (threadF s w).1:=fun hn=>by
  unfold threadF
  split
  ·exact fun _=>⟨.inr (.inr (.inr (.inl rfl))),fun h1=>by simp at h1,fun _=>h.cond (by omega)⟩
  ·exact fun hh=>by cases hh
 unfold readF at hr⊢
 split
 ·rename_i n0
  unfold headF;split
  ·exact ⟨.inr (.inl rfl),fun _=>h.init (by omega),fun _=>h.cond (by omega)⟩
  ·exact h
 rename_i n0
 rw[if_neg n0] at hr
 split
 ·rename_i n1
  unfold startF;split
  ·exact ⟨.inr (.inr (.inl rfl)),fun h1=>by simp at h1,fun _=>h.cond (by omega)⟩
  ·exact ⟨.inr (.inr (.inl rfl)),fun h1=>by simp at h1,fun _=>h.cond (by omega)⟩
 rename_i n1
 rw[if_neg n1] at hr
 split
 ·rename_i n3
  rw[if_pos n3] at hr
  unfold bodyF at hr⊢
  split
  ·exact ⟨.inr (.inr (.inr (.inr rfl))),fun h1=>by simp at h1,fun h1=>by simp at h1⟩
  rename_i k1
  rw[if_neg k1] at hr
  split
  ·rename_i k2;rw[if_pos k2] at hr;exact thr (.inr n3) hr
  ·exact ⟨h.next,fun h1=>absurd h1 (by show ¬s.next≤1;omega),fun h1=>h.cond h1⟩
 rename_i n3
 rw[if_neg n3] at hr
 split
 ·rename_i n2;rw[if_pos n2] at hr;exact thr (.inl n2) hr
 ·exact h
theorem get_thread {w:List (List UInt8)} (h:w[0]?=some threadB):(getB w).2=false:=by
 cases hb:(getB w).2 with
 | false=>rfl
 | true =>
  obtain ⟨h1,h2,_⟩:=words_get (w:=w) (l:=(getB w).1) (by cases e:getB w with | mk a b=>rw[e] at hb;simp at hb;simp[hb])
  generalize (getB w).1=l at h1 h2
  unfold LT.words lineW at h2
  have h1' : rightB l.op l.rg l.loc l.lab l.n=true:=h1
  rw[if_pos h1'] at h2
  rw[←h2] at h
  unfold wordsO at h
  repeat' split at h
  all_goals first
   | (simp[movB,xchgB,mfenceB,cmpB,jmpB,jeB,jneB,threadB] at h;done)
   | skip
  simp only[List.getElem?_cons_zero,Option.some.injEq] at h
  have:=congrArg List.getLast? h
  simp[threadB] at this
def rdQ (s:PS) (w:List (List UInt8)) (a:Int):HV→Heap→Prop:=fun x H'=>∃s',x=.v (.bool (readF s w a).2)∧H'=[some zO,some (rdO s')]∧((readF s w a).2=true→s'=(readF s w a).1)
set_option maxHeartbeats 8000000 in
theorem rThread (s:PS) (w:List (List UInt8)) (a:Int) (ok:ROk s) (fr:Fresh s) (hn2:s.next=2∨s.next=3) (hne:w≠[]) (hw:∀x∈w,x.length≤1000000) (hl:w.length≤1000000) :
  HCalls Tryz.prog 46 [some zO,some (rdO s)] [.pt 1 1 0 0,.sl (strs w),.v (.int .i64 a)] (rdQ s w a):=by
 have q1:=ok.thr
 have q2:=ok.same
 have hn:0<w.length:=List.length_pos_iff.2 hne
 have hk:w[0]?=some w[0]:=List.getElem?_eq_getElem hn
 generalize w[0]=k at hk
 unfold rdQ
 have n0:s.next≠0:=by omega
 have n1:s.next≠1:=by omega
 unfold readF
 rw[if_neg n0,if_neg n1]
 by_cases hT:k=threadB∧w.length=1
 ·have hkT:w[0]?=some threadB:=by rw[hk,hT.1]
  have e:threadF s w=({ s with f:={ s.f with thr:=s.f.thr++[[]] },lines:=s.lines++[[]],next:=3 },true):=by unfold threadF;rw[if_pos ⟨hkT,hT.2⟩]
  have e2:(if s.next=3 then bodyF s w a else if s.next=2 then threadF s w else (s,false))=threadF s w:=by
   rcases hn2 with h | h
   ·rw[if_neg (by omega),if_pos h]
   ·rw[if_pos h]
    unfold bodyF
    rw[hkT,if_neg (by decide),if_pos rfl]
  rw[e2,e]
  refine (rThreadNew s w a q1 q2 hkT hT.2).mono ?_
  rintro r H' ⟨rfl,rfl⟩
  exact ⟨_,rfl,rfl,fun _=>rfl⟩
 have eT:threadF s w=(s,false):=by unfold threadF;rw[if_neg fun h=>hT ⟨Option.some.inj (hk.symm.trans h.1),h.2⟩]
 rcases hn2 with h2 | h3
 ·rw[if_neg (by omega),if_pos h2,eT]
  refine (rThreadNo s w a hk hT (by omega)).mono ?_
  rintro r H' ⟨rfl,rfl⟩
  exact ⟨_,rfl,rfl,fun h=>by cases h⟩
 rw[if_pos h3]
 have hc0:=fr.cond (by omega)
 unfold bodyF
 rw[hk]
 by_cases k1:k=existsB
 ·subst k1
  rw[if_pos (.inl rfl)]
  refine (rThreadOver s w a false h3 hk hw hl).mono ?_
  rintro r H' ⟨rfl,rfl⟩
  refine ⟨_,rfl,rfl,fun h=>?_⟩
  have h:(atomsF (w.drop 1)).2=true:=h
  rw[if_pos h,hc0,List.nil_append]
  rfl
 by_cases k2:k=forallB
 ·subst k2
  rw[if_pos (.inr rfl)]
  refine (rThreadOver s w a true h3 hk hw hl).mono ?_
  rintro r H' ⟨rfl,rfl⟩
  refine ⟨_,rfl,rfl,fun h=>?_⟩
  have h:(atomsF (w.drop 1)).2=true:=h
  rw[if_pos h,hc0,List.nil_append]
  rfl
 rw[if_neg (by rintro (h | h);exact k1 (Option.some.inj h);exact k2 (Option.some.inj h))]
 obtain ⟨pre,l,e1⟩:=snoc_of (ok.some3 h3)
 obtain ⟨lpre,ln,e2⟩:=snoc_of (l:=s.lines) (fun h=>ok.some3 h3 (by have:=ok.same;rw[h] at this;exact List.length_eq_zero_iff.1 this.symm))
 have hs:=ok.same
 have ht:=ok.thr
 rw[e1,e2] at hs
 rw[e1] at ht
 simp only[List.length_append,List.length_cons,List.length_nil] at hs ht
 have hl1:=ok.len l (by rw[e1];simp)
 have hl2:=ok.lens ln (by rw[e2];simp)
 refine (rThreadInner s w a hk hT k1 k2 h3 pre lpre l ln e1 e2 (by omega) (by omega) hl1 hl2 hw hl).mono ?_
 by_cases k3:k=threadB
 ·subst k3
  rw[if_pos rfl,eT,get_thread hk]
  rintro r H' ⟨rfl,rfl⟩
  exact ⟨_,rfl,rfl,fun h=>by cases h⟩
 ·rw[if_neg (fun h=>k3 (Option.some.inj h))]
  rintro r H' ⟨rfl,rfl⟩
  refine ⟨_,rfl,rfl,fun _=>?_⟩
  rw[e1,e2,lastF_snoc,lastF_snoc]
theorem rdQ_of {s:PS} {w:List (List UInt8)} {a:Int} {s' : PS} {r:PS×Bool} (h:readF s w a=r) (hs:r.2=true→s'=r.1):rdQ s w a (.v (.bool r.2)) [some zO,some (rdO s')]:=by
 subst h;exact ⟨s',rfl,rfl,hs⟩
set_option maxHeartbeats 8000000 in
theorem rLine (s:PS) (w:List (List UInt8)) (a:Int) (ok:ROk s) (fr:Fresh s) (hne:w≠[]) (hw:∀x∈w,x.length≤1000000) (hl:w.length≤1000000) :
  HCalls Tryz.prog 27 [some zO,some (rdO s)] [.pt 1 1 0 0,.sl (strs w),.v (.int .i64 a)] (rdQ s w a):=by
 have hn:0<w.length:=List.length_pos_iff.2 hne
 have hn' : ((0:Int)<(w.length:Int))=True:=eq_true (by omega)
 have hk:w[0]?=some w[0]:=List.getElem?_eq_getElem hn
 generalize w[0]=k at hk
 have hI:=fun {s' r}=>rdQ_of (s:=s) (w:=w) (a:=a) (s':=s') (r:=r)
 have hRT:=rThread s w a ok fr
 have hQb:∀r H',rdQ s w a r H'→∃(b:Bool) (s' : PS),r=.v (.bool b)∧H'=[some zO,some (rdO s')]∧rdQ s w a (.v (.bool b)) [some zO,some (rdO s')]:=by
  rintro r H' ⟨s',rfl,rfl,h⟩
  exact ⟨_,s',rfl,rfl,s',rfl,rfl,h⟩
 generalize rdQ s w a=Q at hI hRT hQb⊢
 rcases fr.next with n | n | n | n | n
 ·have e0:readF s w a=headF s w a:=by unfold readF;rw[if_pos n]
  by_cases h2:w.length=2
  ·have h2' : ((w.length:Int)=2)=True:=eq_true (by omega)
   by_cases h1:k=[120,56,54]
   ·have e1:w[1]?=some w[1]:=List.getElem?_eq_getElem (by omega)
    generalize w[1]=m at e1
    have h12:((1:Int)<(w.length:Int))=True:=eq_true (by omega)
    have eR:=e0.trans (show headF s w a=({ s with f:={ s.f with name:=m },head:=a,next:=1 },true) from by unfold headF;rw[hk,e1,if_pos ⟨by rw[h1];rfl,h2⟩];rfl)
    refine HCalls_body (fn:=Tryz.f27) 65 [6] (by kernel_rfl) rfl (by kernel_rfl) (HW.run 400 (by kernel_rfl) ?_)
    simp (config:={ decide:=true }) only[go_sem,Int.reduceToNat,Nat.reduceAdd,Nat.reduceSub,Nat.reduceMul,Nat.reduceBEq,reduceIte,reduceCtorEq,n,hk,h1,h2',hn',e1,h12]
    exact endP_rd (s:={ s with f:={ s.f with name:=m },head:=a,next:=1 }) (hI (s':={ s with f:={ s.f with name:=m },head:=a,next:=1 }) eR fun _=>rfl)
   ·have eR:=e0.trans (show headF s w a=(s,false) from by unfold headF;rw[hk,if_neg (fun hh=>h1 (Option.some.inj hh.1))])
    refine HCalls_body (fn:=Tryz.f27) 65 [6] (by kernel_rfl) rfl (by kernel_rfl) (HW.run 400 (by kernel_rfl) ?_)
    simp (config:={ decide:=true }) only[go_sem,Int.reduceToNat,Nat.reduceAdd,Nat.reduceSub,Nat.reduceMul,Nat.reduceBEq,reduceIte,reduceCtorEq,n,hk,h1,h2',hn']
    exact endP_rd (s:=s) (hI (s':=s) eR fun h=>by cases h)
  ·have h2' : ((w.length:Int)=2)=False:=eq_false (by omega)
   have eR:=e0.trans (show headF s w a=(s,false) from by unfold headF;rw[if_neg (fun hh=>h2 hh.2)])
   refine HCalls_body (fn:=Tryz.f27) 65 [6] (by kernel_rfl) rfl (by kernel_rfl) (HW.run 400 (by kernel_rfl) ?_)
   simp (config:={ decide:=true }) only[go_sem,Int.reduceToNat,Nat.reduceAdd,Nat.reduceSub,Nat.reduceMul,Nat.reduceBEq,reduceIte,reduceCtorEq,n,hk,h2',hn']
   exact endP_rd (s:=s) (hI (s':=s) eR fun h=>by cases h)
 ·have e0:readF s w a=startF s w:=by unfold readF;rw[if_neg (by omega),if_pos n]
  by_cases h1:k=[105,110,105,116]
  ·have htk:List.take (w.length-1) (List.drop 1 w)=List.drop 1 w:=List.take_of_length_le (by rw[List.length_drop];omega)
   have hC:=refCells5 (w.drop 1) (fun x hx=>hw x (List.mem_of_mem_drop hx)) (by rw[List.length_drop];omega)
   have hi0:=fr.init (by omega)
   have eR:=e0.trans (show startF s w=(withInit (withNext s 2) (s.f.init++(cellsF (w.drop 1)).1),(cellsF (w.drop 1)).2) from by unfold startF;rw[hk,if_pos (by rw[h1];rfl)])
   rw[hi0,List.nil_append] at eR
   have hcs:(cellsF (w.drop 1)).2=true→(if (cellsF (w.drop 1)).2=true then (cellsF (w.drop 1)).1 else [])=(cellsF (w.drop 1)).1:=fun h=>if_pos h
   generalize (if (cellsF (w.drop 1)).2=true then (cellsF (w.drop 1)).1 else [])=c at hC hcs
   generalize cellsF (w.drop 1)=o at hC hcs eR
   obtain ⟨o1,o2⟩:=o
   simp only at hcs hC eR
   refine HCalls_body (fn:=Tryz.f27) 65 [6] (by kernel_rfl) rfl (by kernel_rfl) (HW.run 400 (by kernel_rfl) ?_)
   simp (config:={ decide:=true }) only[go_sem,Int.reduceToNat,Nat.reduceAdd,Nat.reduceSub,Nat.reduceMul,Nat.reduceBEq,reduceIte,reduceCtorEq,n,hk,h1,hn',htk]
   refine ⟨by omega,?_⟩
   refine callX_nm (hC) rfl rfl ?_
   simp (config:={ decide:=true }) only[go_sem,Int.reduceToNat,Nat.reduceAdd,Nat.reduceSub,Nat.reduceMul,Nat.reduceBEq,reduceIte,reduceCtorEq,n,hk,h1,hn',htk]
   exact endP_rd (s:=withInit (withNext s 2) c) (hI (s':=withInit (withNext s 2) c) eR fun h=>by rw[hcs h])
  ·have eR:=e0.trans (show startF s w=(withNext s 2,false) from by unfold startF;rw[hk];exact if_neg (fun hh=>h1 (Option.some.inj hh)))
   refine HCalls_body (fn:=Tryz.f27) 65 [6] (by kernel_rfl) rfl (by kernel_rfl) (HW.run 400 (by kernel_rfl) ?_)
   simp (config:={ decide:=true }) only[go_sem,Int.reduceToNat,Nat.reduceAdd,Nat.reduceSub,Nat.reduceMul,Nat.reduceBEq,reduceIte,reduceCtorEq,n,hk,h1,hn']
   exact endP_rd (s:=s) (hI (s':=s) eR fun h=>by cases h)
 ·have hC:=(hRT (.inl n) hne hw hl).mono (Q':=fun x H'=>∃(b:Bool) (s' : PS),x=.v (.bool b)∧H'=[some zO,some (rdO s')]∧Q (.v (.bool b)) [some zO,some (rdO s')]) hQb
  refine HCalls_body (fn:=Tryz.f27) 65 [6] (by kernel_rfl) rfl (by kernel_rfl) (HW.run 400 (by kernel_rfl) ?_)
  simp (config:={ decide:=true }) only[go_sem,Int.reduceToNat,Nat.reduceAdd,Nat.reduceSub,Nat.reduceMul,Nat.reduceBEq,reduceIte,reduceCtorEq,n]
  refine ⟨_,hC,?_⟩
  rintro q H' ⟨b,s',rfl,rfl,hs'⟩ -
  simp (config:={ decide:=true }) only[go_sem,Int.reduceToNat,Nat.reduceAdd,Nat.reduceSub,Nat.reduceMul,Nat.reduceBEq,reduceIte,reduceCtorEq]
  exact endP_rd (s:=s') hs'
 ·have hC:=(hRT (.inr n) hne hw hl).mono (Q':=fun x H'=>∃(b:Bool) (s' : PS),x=.v (.bool b)∧H'=[some zO,some (rdO s')]∧Q (.v (.bool b)) [some zO,some (rdO s')]) hQb
  refine HCalls_body (fn:=Tryz.f27) 65 [6] (by kernel_rfl) rfl (by kernel_rfl) (HW.run 400 (by kernel_rfl) ?_)
  simp (config:={ decide:=true }) only[go_sem,Int.reduceToNat,Nat.reduceAdd,Nat.reduceSub,Nat.reduceMul,Nat.reduceBEq,reduceIte,reduceCtorEq,n]
  refine ⟨_,hC,?_⟩
  rintro q H' ⟨b,s',rfl,rfl,hs'⟩ -
  simp (config:={ decide:=true }) only[go_sem,Int.reduceToNat,Nat.reduceAdd,Nat.reduceSub,Nat.reduceMul,Nat.reduceBEq,reduceIte,reduceCtorEq]
  exact endP_rd (s:=s') hs'
 ·have eR:readF s w a=(s,false):=by unfold readF;rw[if_neg (by omega),if_neg (by omega),if_neg (by omega),if_neg (by omega)]
  refine HCalls_body (fn:=Tryz.f27) 65 [6] (by kernel_rfl) rfl (by kernel_rfl) (HW.run 400 (by kernel_rfl) ?_)
  simp (config:={ decide:=true }) only[go_sem,Int.reduceToNat,Nat.reduceAdd,Nat.reduceSub,Nat.reduceMul,Nat.reduceBEq,reduceIte,reduceCtorEq,n]
  exact endP_rd (s:=s) (hI (s':=s) eR fun h=>by cases h)
end Go.Proofs.YtmapdjdnnhlpiaaGreatDoor
namespace Go.Proofs.YtmapdjdnnhlpiaaGreatDoor
open Go.RowKit
set_option maxRecDepth 8000
theorem rdZero {N:Nat} {T:Nat→HV} {rest:Heap}:Ghost N 0 T (some zO::some ⟨63,9,[[.v (str []),.v (.slice none 0 0),.v (.slice none 0 0),.v (.bool false),.v (.slice none 0 0),.v (.int .i64 0),.v (.int .i64 0),.v (.int .i64 0),.v (.slice none 0 0)]]⟩::rest) T (some zO::some (rdO pS0)::rest):=by
 have g1:=Ghost.cell (N:=N) (L:=0) (T:=T) (H:=some zO::some ⟨63,9,[[.v (str []),.v (.slice none 0 0),.v (.slice none 0 0),.v (.bool false),.v (.slice none 0 0),.v (.int .i64 0),.v (.int .i64 0),.v (.int .i64 0),.v (.slice none 0 0)]]⟩::rest) 1 0 1 (.sl (cls [])) rfl rfl rfl rfl Conv.nilSl (by simp)
 have g2:=g1.trans (Ghost.cell 1 0 2 (.ow 47 1 (tds [])) rfl rfl rfl rfl (Conv.nilOw _ _) (by simp))
 have g3:=g2.trans (Ghost.cell 1 0 4 (.sl (ats [])) rfl rfl rfl rfl Conv.nilSl (by simp))
 have g4:=g3.trans (Ghost.cell 1 0 8 (.ow 38 1 (lws [])) rfl rfl rfl rfl (Conv.nilOw _ _) (by simp))
 exact g4
abbrev rdRow (s:PS):List HV:=[.v (str s.f.name),.sl (cls s.f.init),.sl (tds s.f.thr),.v (.bool s.f.all),.sl (ats s.f.cond),.v (.int .i64 s.next),.v (.int .i64 s.head),.v (.int .i64 s.fin),.sl (lws s.lines)]
theorem rdO_fzoR (s:PS):fzoR (rdO s).rows=[rdRow s]:=by
 simp only[fzoR,fzoL,fzo,cls_fzoR,ats_fzoR,tds_fzoR,lws_fzoR]
set_option maxHeartbeats 16000000 in
theorem refParse5 (s:List UInt8) (hs:s.length≤1000000):HFn Tryz.prog 11 [.v (str s)] (parV (parseF s)):=by
 refine HCalls.conv (Q:=fun x _=>x=parV (parseF s)∨((parseF s).1=noFl∧x=.tu [zH,.v (.int .i64 (parseF s).2.1),.v (.int .i64 (parseF s).2.2)])) ?_ ?_
 rotate_left
 ·rintro x H' (rfl | ⟨h,rfl⟩)
  ·exact ⟨_,rfl,.inl rfl⟩
  ·refine ⟨_,rfl,.inr ⟨rfl,?_⟩⟩
   rw[parV,h]
   exact Conv.noFile _ _
 by_cases h4:4000<s.length
 ·have h4' : ((4000:Int)<(s.length:Int))=True:=eq_true (by omega)
  have e:parseF s=(noFl,0,5):=by unfold parseF;rw[if_pos h4]
  rw[e]
  refine HCalls_bodyC (fn:=Tryz.f11) 103 [.cell 2 27,.tmp 3,.tmp 4] (by kernel_rfl) rfl rfl (by kernel_rfl) (HW.run 400 (by kernel_rfl) ?_)
  simp (config:={ decide:=true }) only[go_sem,Int.reduceToNat,Nat.reduceAdd,Nat.reduceSub,Nat.reduceMul,Nat.reduceBEq,reduceIte,reduceCtorEq,h4']
  first | exact .inr trivial | exact .inr ⟨rfl,rfl⟩ | trivial
 have h4' : ((4000:Int)<(s.length:Int))=False:=eq_false (by omega)
 have eP:parseF s=match (linesF pS0 0 (linesB s)).2 with
  | some n=>(noFl,(n:Int),11)
  | none=>finF (linesF pS0 0 (linesB s)).1 (linesB s).length:=by
  unfold parseF
  rw[if_neg h4]
  try (cases (linesF pS0 0 (linesB s)).2 <;> rfl)
 have hll:=linesB_length s
 have hsw:=sumW_lines s
 have hmem:∀x∈linesB s,x.length≤4000:=fun x hx=>Nat.le_trans (line_len hx) (by omega)
 generalize parseF s=R at eP
 refine HCalls_bodyC (fn:=Tryz.f11) 103 [.cell 2 27,.tmp 3,.tmp 4] (by kernel_rfl) rfl rfl (by kernel_rfl) (HW.run 400 (by kernel_rfl) ?_)
 simp (config:={ decide:=true }) only[go_sem,Int.reduceToNat,Nat.reduceAdd,Nat.reduceSub,Nat.reduceMul,Nat.reduceBEq,reduceIte,reduceCtorEq,h4']
 refine callX_nm (refLinesS s hs) rfl rfl ?_
 simp (config:={ decide:=true }) only[go_sem,Int.reduceToNat,Nat.reduceAdd,Nat.reduceSub,Nat.reduceMul,Nat.reduceBEq,reduceIte,reduceCtorEq]
 generalize linesB s=L at *
 refine HW.loopG (fun k T H=>∃(i:Nat) (st:PS),k=L.length-i∧i≤L.length∧Agree st∧NmOk st∧GoodF st.f∧Fresh st∧st.f.name.length≤1000000∧totF st+sumW (L.drop i)≤4000∧linesF pS0 0 L=linesF st i (L.drop i)∧T 2=.pt 0 1 0 0∧T 5=.pt 1 1 0 0∧T 6=.sl (strs L)∧T 7=.v (.int .i64 i)∧H=[some zO,some (rdO st)]) L.length ⟨_,_,rdZero,0,pS0,rfl,by omega,pS0_agree,pS0_nm,good0,fresh0,by decide,by show 0+sumW L≤4000;omega,rfl,rfl,rfl,rfl,rfl,rfl⟩ ?_
 rintro k T H ⟨i,st,rfl,hil,hA,hN,hG,hFr,hNm,hT,hI,h2,h5,h6,h7,rfl⟩
 by_cases hlt:i<L.length
 ·refine HW.run 200 (by kernel_rfl) ?_
  have hlt' : ((i:Int)<(L.length:Int))=True:=eq_true (by omega)
  have hx:L[i]?=some L[i]:=List.getElem?_eq_getElem hlt
  have hdr:L.drop i=L[i]::L.drop (i+1):=List.drop_eq_getElem_cons hlt
  have hxl:=hmem _ (List.getElem_mem hlt)
  rw[hdr] at hT hI
  rw[linesF] at hI
  generalize L[i]=x at hx hxl hT hI
  have hsum:sumW (x::L.drop (i+1))=(wordsB x).length+sumW (L.drop (i+1)):=rfl
  have hwl:∀y∈wordsB x,y.length≤1000000:=fun y hy=>Nat.le_trans (word_len hy) (by omega)
  have hWx:=refWordsS x (by omega)
  have hi1:IntKind.i64.wrap ((i:Int)+1)=((i+1:Nat):Int):=by rw[w64 (by omega) (by omega)];rfl
  simp (config:={ decide:=true }) only[go_sem,Int.reduceToNat,Nat.reduceAdd,Nat.reduceSub,Nat.reduceMul,Nat.reduceBEq,reduceIte,reduceCtorEq,h2,h5,h6,h7,hlt',hx]
  refine callX_nm (hWx) rfl rfl ?_
  generalize wordsB x=w at *
  by_cases hw:w=[]
  ·subst hw
   rw[if_pos rfl] at hI
   simp (config:={ decide:=true }) only[go_sem,Int.reduceToNat,Nat.reduceAdd,Nat.reduceSub,Nat.reduceMul,Nat.reduceBEq,reduceIte,reduceCtorEq,h2,h5,h6,h7]
   refine ⟨_,_,Ghost.refl,L.length-(i+1),by omega,i+1,st,rfl,by omega,hA,hN,hG,hFr,hNm,by omega,hI,?_,?_,?_,?_,rfl⟩
   all_goals first | (simp (config:={ decide:=true }) only[go_sem,Nat.reduceBEq,reduceIte,h2,h5,h6];done) | (simp (config:={ decide:=true }) only[go_sem,Nat.reduceBEq,reduceIte];rw[w64 (by omega) (by omega)];rfl)
  ·rw[if_neg hw] at hI
   have hw0:((0:Int)<(w.length:Int))=True:=by have:=List.length_pos_iff.2 hw;exact eq_true (by omega)
   have hR:=rLine st w ((i+1:Nat):Int) (hA.ok (by omega)) hFr hw hwl (by omega)
   have hRt:=readF_tot st w ((i+1:Nat):Int) hw hA
   have hRn:=readF_nm (s:=st) (w:=w) (at_:=((i+1:Nat):Int)) hwl hN
   have hRg:=read_good (s:=st) (w:=w) (at_:=((i+1:Nat):Int)) hG
   have hRf:=fresh_read (s:=st) (w:=w) (a:=((i+1:Nat):Int)) hFr
   have hRm:=read_name (s:=st) (w:=w) (a:=((i+1:Nat):Int)) hwl hNm
   unfold rdQ at hR
   generalize readF st w ((i+1:Nat):Int)=r at hI hR hRt hRn hRg hRf hRm
   simp (config:={ decide:=true }) only[go_sem,Int.reduceToNat,Nat.reduceAdd,Nat.reduceSub,Nat.reduceMul,Nat.reduceBEq,reduceIte,reduceCtorEq,h2,h5,h6,h7,hw0,hi1]
   refine ⟨_,hR,?_⟩
   rintro q H' ⟨s',rfl,rfl,hs'⟩ -
   cases hr:r.2 with
   | true =>
    rw[if_pos hr] at hI
    obtain rfl:=hs' hr
    simp (config:={ decide:=true }) only[go_sem,Int.reduceToNat,Nat.reduceAdd,Nat.reduceSub,Nat.reduceMul,Nat.reduceBEq,reduceIte,reduceCtorEq,h2,h5,h6,h7,hw0,hi1]
    refine ⟨_,_,Ghost.refl,L.length-(i+1),by omega,i+1,r.1,rfl,by omega,hRt.2 hr,hRn,hRg hr,hRf hr,hRm,by have:=hRt.1;omega,hI,?_,?_,?_,?_,rfl⟩
    all_goals first | (simp (config:={ decide:=true }) only[go_sem,Nat.reduceBEq,reduceIte,h2,h5,h6];done) | (simp (config:={ decide:=true }) only[go_sem,Nat.reduceBEq,reduceIte,hi1];done) | (simp (config:={ decide:=true }) only[go_sem,Nat.reduceBEq,reduceIte];rw[w64 (by omega) (by omega)];rfl)
   | false =>
    rw[if_neg (by simp[hr])] at hI
    rw[hI] at eP
    simp only at eP
    subst eP
    simp (config:={ decide:=true }) only[go_sem,Int.reduceToNat,Nat.reduceAdd,Nat.reduceSub,Nat.reduceMul,Nat.reduceBEq,reduceIte,reduceCtorEq,h2,h5,h6,h7,hw0,hi1]
    first | exact .inr trivial | exact .inr ⟨rfl,rfl⟩ | trivial
 ·have hlt' : ((i:Int)<(L.length:Int))=False:=eq_false (by omega)
  rw[List.drop_of_length_le (by omega)] at hI
  have hI' : linesF pS0 0 L=(st,none):=hI
  rw[hI'] at eP
  simp only at eP
  unfold finF at eP
  by_cases hn4:st.next=4
  ·rw[if_neg (by simp[hn4])] at eP
   have hC:=refCheck4 st.f (okR_sm (small_of (by omega)) hN hG hNm)
   have hat:=checkF_at hA
   generalize hc:checkF st.f=c at eP hC hat
   refine HW.ghost (Ghost.freeze 5 1 1 0 0 h5 rfl rfl rfl) ?_
   rw[rdO_fzoR]
   refine HW.run 200 (by kernel_rfl) ?_
   simp (config:={ decide:=true }) only[go_sem,Int.reduceToNat,Nat.reduceAdd,Nat.reduceSub,Nat.reduceMul,Nat.reduceBEq,reduceIte,reduceCtorEq,h2,h6,h7,hlt',hn4]
   refine callX_nm (hC) rfl rfl ?_
   by_cases he:c.2.2=0
   ·rw[if_neg (by simp[he])] at eP
    subst eP
    simp (config:={ decide:=true }) only[go_sem,Int.reduceToNat,Nat.reduceAdd,Nat.reduceSub,Nat.reduceMul,Nat.reduceBEq,reduceIte,reduceCtorEq,h2,he]
    first | exact .inl trivial | exact .inl rfl | trivial | skip
   ·rw[if_pos he] at eP
    subst eP
    unfold whereF
    have hat:=hat he
    by_cases g1:c.1<0
    ·rw[if_pos g1]
     simp (config:={ decide:=true }) only[go_sem,Int.reduceToNat,Nat.reduceAdd,Nat.reduceSub,Nat.reduceMul,Nat.reduceBEq,reduceIte,reduceCtorEq,h2,he,g1]
     refine HW.tree 1 (.light 0 (.light 1 (.light 2 (.light 3 (.light 4 (.light 5 (.heavy 6 [1,2,3,4,5] (.light 7 (.light 8 .leaf)) .stop))))))) follows (by kernel_rfl) (by kernel_rfl) ?_
     simp (config:={ decide:=true }) only[go_sem,Int.reduceToNat,Nat.reduceAdd,Nat.reduceSub,Nat.reduceMul,Nat.reduceBEq,reduceIte,reduceCtorEq,h2]
     first | exact .inr trivial | exact .inr ⟨rfl,rfl⟩ | trivial
    ·rw[if_neg g1]
     by_cases g2:c.1=st.f.thr.length
     ·rw[if_pos g2]
      have g1' : ((st.f.thr.length:Int)<0)=False:=eq_false (by omega)
      simp (config:={ decide:=true }) only[go_sem,Int.reduceToNat,Nat.reduceAdd,Nat.reduceSub,Nat.reduceMul,Nat.reduceBEq,reduceIte,reduceCtorEq,h2,he,g1',g2]
      refine HW.tree 1 (.light 0 (.light 1 (.light 2 (.light 3 (.light 4 (.light 5 (.heavy 6 [1,2,3,4,5] (.light 7 (.light 8 .leaf)) .stop))))))) follows (by kernel_rfl) (by kernel_rfl) ?_
      simp (config:={ decide:=true }) only[go_sem,Int.reduceToNat,Nat.reduceAdd,Nat.reduceSub,Nat.reduceMul,Nat.reduceBEq,reduceIte,reduceCtorEq,h2]
      first | exact .inr trivial | exact .inr ⟨rfl,rfl⟩ | trivial
     ·rw[if_neg g2]
      obtain ⟨hi,ln,z1,z2⟩:=hat (by omega) g2
      have z3:ln[c.2.1.toNat]?=some ln[c.2.1.toNat]:=List.getElem?_eq_getElem z2
      rw[z1,Option.getD_some,z3,Option.getD_some]
      have zl:=(List.getElem?_eq_some_iff.1 z1).1
      generalize ln[c.2.1.toNat]=v at z3⊢
      have y1:(0≤c.1)=True:=eq_true (by omega)
      have y2:(c.1<(st.lines.length:Int))=True:=eq_true (by omega)
      have y3:(0≤c.2.1)=True:=eq_true hi
      have y4:(c.2.1<(ln.length:Int))=True:=eq_true (by omega)
      simp (config:={ decide:=true }) only[go_sem,Int.reduceToNat,Nat.reduceAdd,Nat.reduceSub,Nat.reduceMul,Nat.reduceBEq,reduceIte,reduceCtorEq,h2,he,g1,g2]
      refine HW.tree 1 (.light 0 (.light 1 (.light 2 (.light 3 (.light 4 (.light 5 (.light 6 (.light 7 (.light 8 (.light 9 (.light 10 (.light 11 (.heavy 12 [1,2,3,4,5,6,7,8,9,10,11] (.light 13 (.light 14 .leaf)) .stop))))))))))))) follows (by kernel_rfl) (by kernel_rfl) ?_
      simp (config:={ decide:=true }) only[go_sem,Int.reduceToNat,Nat.reduceAdd,Nat.reduceSub,Nat.reduceMul,Nat.reduceBEq,reduceIte,reduceCtorEq,h2,z1,z3,y1,y2,y3,y4,lwrow,irow]
      first | exact .inr trivial | exact .inr ⟨rfl,rfl⟩ | trivial
  ·rw[if_pos hn4] at eP
   subst eP
   have hL1:IntKind.i64.wrap ((L.length:Int)+1)=((L.length+1:Nat):Int):=by rw[w64 (by omega) (by omega)];rfl
   refine HW.run 200 (by kernel_rfl) ?_
   simp (config:={ decide:=true }) only[go_sem,Int.reduceToNat,Nat.reduceAdd,Nat.reduceSub,Nat.reduceMul,Nat.reduceBEq,reduceIte,reduceCtorEq,h2,h5,h6,h7,hlt',hn4,hL1]
   first | exact .inr trivial | exact .inr ⟨rfl,rfl⟩ | trivial
end Go.Proofs.YtmapdjdnnhlpiaaGreatDoor
namespace Go.Proofs.YtmapdjdnnhlpiaaGreatDoor
open Go.RowKit
set_option maxRecDepth 8000
theorem parse_smallA (s:List UInt8):SmallF (parseF s).1:=by
 by_cases h:s.length≤4000
 ·exact parse_small h
 ·have e:parseF s=(noFl,0,5):=by unfold parseF;rw[if_pos (by omega)]
  rw[e];exact noFl_small
set_option maxHeartbeats 8000000 in
theorem parseTellsH (s:List UInt8):HFn Tryz.prog 3 [.v (str s)] (.v (.bool true)):=by
 refine HCalls_body (fn:=Tryz.f3) 43 [2] (by kernel_rfl) rfl (by kernel_rfl) (HW.run 400 (by kernel_rfl) ?_)
 simp (config:={ decide:=true }) only[go_sem,Int.reduceToNat,Nat.reduceAdd,Nat.reduceSub,Nat.reduceMul,Nat.reduceBEq,reduceIte,reduceCtorEq]
 refine callX_fn 3 (parHead) (by simp only[go_sem]) rfl ?_
 rcases tfP ((5000:Int)<(s.length:Int)) with ⟨d1,c1⟩ | ⟨d1,c1⟩
 ·simp (config:={ decide:=true }) only[go_sem,Int.reduceToNat,Nat.reduceAdd,Nat.reduceSub,Nat.reduceMul,Nat.reduceBEq,reduceIte,reduceCtorEq,c1]
 simp (config:={ decide:=true }) only[go_sem,Int.reduceToNat,Nat.reduceAdd,Nat.reduceSub,Nat.reduceMul,Nat.reduceBEq,reduceIte,reduceCtorEq,c1]
 refine callX_nm (parseParse s (by omega)) rfl rfl ?_
 simp (config:={ decide:=true }) only[go_sem,Int.reduceToNat,Nat.reduceAdd,Nat.reduceSub,Nat.reduceMul,Nat.reduceBEq,reduceIte,reduceCtorEq]
 refine callX_nm (refParse5 s (by omega)) rfl rfl ?_
 have hS:=refSameSm (parseF s).1 (parseF s).1 (parse_smallA s)
 generalize parseF s=r at hS⊢
 rw[decide_eq_true rfl] at hS
 simp (config:={ decide:=true }) only[go_sem,Int.reduceToNat,Nat.reduceAdd,Nat.reduceSub,Nat.reduceMul,Nat.reduceBEq,reduceIte,reduceCtorEq]
 refine callX_nm (hS) rfl rfl ?_
 simp (config:={ decide:=true }) only[go_sem,Int.reduceToNat,Nat.reduceAdd,Nat.reduceSub,Nat.reduceMul,Nat.reduceBEq,reduceIte,reduceCtorEq]
end Go.Proofs.YtmapdjdnnhlpiaaGreatDoor
