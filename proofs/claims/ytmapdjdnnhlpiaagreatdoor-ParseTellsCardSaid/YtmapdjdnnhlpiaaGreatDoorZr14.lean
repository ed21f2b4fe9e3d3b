/- Parts of the proof: Nj, Nk, Nm, Nn, Np, No, Wl, Wm, Wn, Oi, Oa. -/
import Derived.Test.YtmapdjdnnhlpiaaGreatDoorZr13
import Derived.Test.YtmapdjdnnhlpiaaGreatDoorZr12
import Derived.Test.YtmapdjdnnhlpiaaGreatDoorZr08
set_option linter.unusedSectionVars false
set_option linter.unusedVariables false
set_option linter.unusedSimpArgs false
namespace Go.Proofs.YtmapdjdnnhlpiaaGreatDoor
open Go.RowKit
set_option maxRecDepth 8000
theorem Ghost.openOw {N L:Nat} {T:Nat→HV} {H:Heap} (id r c:Nat) {e:TypeId} {sz:Nat} {rows:List (List HV)} {ob:HObj} {row:List HV} (ho:H[id]?=some (some ob)) (hr:ob.rows[r]?=some row) (hc:row[c]?=some (.ow e sz rows)) :
  Ghost N L T H T (H.set id (some { ob with rows:=ob.rows.set r (row.set c (.hd H.length 0 rows.length)) })++[some ⟨e,sz,rows⟩]) :=
 (Ghost.open id r c).to (by unfold gopen;simp only[ho,hr,hc])
abbrev withLast (s:PS) (pre:List (List LT)) (lpre:List (List Int)) (l:List LT) (ln:List Int):PS:={ s with f:={ s.f with thr:=pre++[l] },lines:=lpre++[ln] }
abbrev inH (s:PS) (pre:List (List LT)) (lpre:List (List Int)) (l:List LT) (ln:List Int) (rest:Heap):Heap :=
  some zO::some (rO s (.ow 44 2 (cls s.f.init)) (.hd 2 0 (pre.length+1)) (.ow 53 3 (ats s.f.cond)) (.hd 3 0 (lpre.length+1))) ::
   some ⟨47,1,towR pre++[[.hd 4 0 l.length]]⟩::some ⟨38,1,lowR lpre++[[.hd 5 0 ln.length]]⟩::some ⟨50,5,lns l⟩::some ⟨3,1,ints ln⟩::rest
theorem towR_at (pre:List (List LT)) (X:List HV):(towR pre++[X])[pre.length]?=some X:=row_last towR_len
theorem towR_put (pre:List (List LT)) (X Y:List HV):(towR pre++[X]).set pre.length Y=towR pre++[Y]:=set_last towR_len
theorem lowR_at (pre:List (List Int)) (X:List HV):(lowR pre++[X])[pre.length]?=some X:=row_last lowR_len
theorem lowR_put (pre:List (List Int)) (X Y:List HV):(lowR pre++[X]).set pre.length Y=lowR pre++[Y]:=set_last lowR_len
theorem inOpen {N:Nat} {T:Nat→HV} {s:PS} {pre:List (List LT)} {lpre:List (List Int)} {l:List LT} {ln:List Int} (h1:s.f.thr=pre++[l]) (h2:s.lines=lpre++[ln]) :
  Ghost N 2 T [some zO,some (pO s)] T (inH s pre lpre l ln []):=by
 have e1:towR s.f.thr=towR pre++[towrow l]:=by rw[h1,towR_snoc]
 have e2:lowR s.lines=lowR lpre++[lorow ln]:=by rw[h2,lowR_snoc]
 have g1:=Ghost.openOw (N:=N) (L:=2) (T:=T) (H:=[some zO,some (pO s)]) 1 0 2 (e:=47) (sz:=1) (rows:=towR pre++[towrow l]) rfl rfl (by show some (HV.ow _ _ (towR s.f.thr))=_;rw[e1])
 have g2:=g1.trans (Ghost.openOw 1 0 6 (e:=38) (sz:=1) (rows:=lowR lpre++[lorow ln]) rfl rfl (by show some (HV.ow _ _ (lowR s.lines))=_;rw[e2]))
 have g3:=g2.trans (Ghost.openOw 2 pre.length 0 (e:=50) (sz:=5) (rows:=lns l) rfl (towR_at pre _) rfl)
 have g4:=g3.trans (Ghost.openOw 3 lpre.length 0 (e:=3) (sz:=1) (rows:=ints ln) rfl (lowR_at lpre _) rfl)
 refine g4.to ?_
 simp only[List.length_append,List.length_cons,List.length_nil,towR_len,lowR_len,lns_length,ints_length,towR_put,lowR_put,towrow,lorow,List.set_cons_succ,List.set_cons_zero,List.cons_append,List.nil_append,towR_at]
theorem inClose {N:Nat} {T:Nat→HV} {s:PS} {pre:List (List LT)} {lpre:List (List Int)} {l:List LT} {ln:List Int} {rest:Heap} :
  Ghost N 2 T (inH s pre lpre l ln rest) T (some zO::some (pO (withLast s pre lpre l ln))::none::none::none::none::rest):=by
 have g1:=Ghost.absorbHd (N:=N) (L:=2) (T:=T) (H:=inH s pre lpre l ln rest) 2 pre.length 0 (j:=4) rfl (towR_at pre _) rfl rfl (by decide) lns_length.symm lns_nmR
 have g2:=g1.trans (Ghost.absorbHd 3 lpre.length 0 (j:=5) rfl (lowR_at lpre _) rfl rfl (by decide) ints_length.symm ints_nmR)
 have g3:=g2.trans (Ghost.absorbHd 1 0 2 (j:=2) (len:=pre.length+1) rfl rfl rfl rfl (by decide) (by simp[towR_len]) (by
  show nmR 0 ((towR pre++[_]).set pre.length _)=true
  rw[towR_put];exact towR_nmR (l:=pre++[l])▸by rw[←towR_snoc];rfl))
 have g4:=g3.trans (Ghost.absorbHd 1 0 6 (j:=3) (len:=lpre.length+1) rfl rfl rfl rfl (by decide) (by simp[lowR_len]) (by
  show nmR 0 ((lowR lpre++[_]).set lpre.length _)=true
  rw[lowR_put];exact lowR_nmR (l:=lpre++[ln])▸by rw[←lowR_snoc];rfl))
 refine g4.to ?_
 show some zO::some (rO s _ (.ow _ 1 ((towR pre++[_]).set pre.length _)) _ (.ow _ 1 ((lowR lpre++[_]).set lpre.length _)))::_=_
 rw[towR_put,lowR_put]
 show some zO::some (rO s _ (.ow _ 1 (towR pre++[towrow l])) _ (.ow _ 1 (lowR lpre++[lorow ln])))::_=_
 rw[towR_snoc,lowR_snoc]
 rfl
theorem inClose' {N:Nat} {T:Nat→HV} {s:PS} {pre:List (List LT)} {lpre:List (List Int)} {l:List LT} {ln:List Int} {rest:Heap} {a b c d:Nat} (ha:a=pre.length+1) (hb:b=lpre.length+1) (hc:c=l.length) (hd:d=ln.length) :
    Ghost N 2 T (some zO::some (rO s (.ow 44 2 (cls s.f.init)) (.hd 2 0 a) (.ow 53 3 (ats s.f.cond)) (.hd 3 0 b)) ::
     some ⟨47,1,towR pre++[[.hd 4 0 c]]⟩::some ⟨38,1,lowR lpre++[[.hd 5 0 d]]⟩::some ⟨50,5,lns l⟩::some ⟨3,1,ints ln⟩::rest) T (some zO::some (pO (withLast s pre lpre l ln))::none::none::none::none::rest):=by
  subst ha hb hc hd
  exact inClose
set_option maxHeartbeats 8000000 in
theorem pInner (s:PS) (pre:List (List LT)) (lpre:List (List Int)) (l:List LT) (ln:List Int) (w:List (List UInt8)) (at_:Int) (h1:s.f.thr=pre++[l]) (h2:s.lines=lpre++[ln]) (h3:lpre.length=pre.length) (hp:pre.length≤100000) (hl:l.length≤100000) (hln:ln.length≤100000) (hw:∀x∈w,x.length≤1000000) (hn:w.length≤1000000) :
  HCalls Tryz.prog 40 [some zO,some (pO s)] [.pt 1 1 0 0,.sl (strs w),.v (.int .i64 at_)] (fun x H'=>x=.v (.bool (getB w).2)∧H'=[some zO,some (pO (withLast s pre lpre (l++[(getB w).1]) (ln++[at_])))]):=by
 have hw0:IntKind.i64.wrap (((pre.length+1:Nat):Int)-1)=(pre.length:Int):=by rw[w64 (by omega) (by omega)];omega
 have ta:=towR_at pre
 have tp:=towR_put pre
 have la:=lowR_at lpre
 have lp:=lowR_put lpre
 rw[h3] at la lp
 refine HCalls_body (fn:=Tryz.f40) 59 [6] (by kernel_rfl) rfl (by kernel_rfl) (HW.ghost (inOpen h1 h2) (HW.run 400 (by kernel_rfl) ?_))
 simp (config:={ decide:=true }) only[go_sem,Int.reduceToNat,Nat.reduceAdd,Nat.reduceSub,Nat.reduceMul,Nat.reduceBEq,reduceIte,reduceCtorEq]
 refine callX_fn 3 (opsGet w hw hn) (by simp only[go_sem]) rfl ?_
 simp (config:={ decide:=true }) only[go_sem,Int.reduceToNat,Nat.reduceAdd,Nat.reduceSub,Nat.reduceMul,Nat.reduceBEq,reduceIte,reduceCtorEq,hw0]
 refine HW.tree 1 (.light 0 (.light 1 (.light 2 (.light 3 (.light 4 (.light 5 (.light 6 (.light 7 (.light 8 (.light 9 (.light 10 (.light 11 (.light 12 (.light 13 (.light 14 (.light 15 (.heavy 16 [0,1,2,3,4,5,6,7,8,9,10,11,12,13,14] (.heavy 17 [0,1,2,3,4,5] (.light 18 (.light 19 (.heavy 20 [] .leaf .stop))) .stop) .stop))))))))))))))))) follows (by kernel_rfl) (by kernel_rfl) ?_
 simp (config:={ decide:=true }) only[go_sem,Int.reduceToNat,Nat.reduceAdd,Nat.reduceSub,Nat.reduceMul,Nat.reduceBEq,reduceIte,reduceCtorEq,ta,tp,la,lp,h3,hw0]
 refine ⟨by omega,by simp,⟨by omega,by omega⟩,by omega,by simp,?_⟩
 refine HW.treeI (fun T H=>T 8=.v (.bool (getB w).2)∧H=[some zO,some (pO (withLast s pre lpre (l++[(getB w).1]) (ln++[at_])))]) (.light 0 (.light 1 (.light 2 (.light 3 (.light 4 (.light 5 (.light 6 (.light 7 (.light 8 (.light 9 (.light 10 (.light 11 (.light 12 (.heavy 13 [0,1,2,3,4,5,6,7,8,9,10,11] (.heavy 14 [0,1,2,3,4] (.light 15 (.heavy 16 [] .leaf .stop)) .stop) .stop)))))))))))))) follows (by kernel_rfl) (by kernel_rfl) ?_ ?_
 ·simp (config:={ decide:=true }) only[go_sem,Int.reduceToNat,Nat.reduceAdd,Nat.reduceSub,Nat.reduceMul,Nat.reduceBEq,reduceIte,reduceCtorEq,ta,tp,la,lp,h3]
  repeat (with_reducible refine And.intro ?_ ?_;·(with_reducible and_intros) <;> omega)
  refine GQ.step (inClose' (s:=s) (pre:=pre) (lpre:=lpre) (l:=l++[(getB w).1]) (ln:=ln++[at_]) rfl (by rw[h3]) (by simp) (by simp)) (GQ.step (Ghost.trunc [8] 2 (by omega) ?_ (nm_p _ _)) (GQ.done ⟨?_,rfl⟩))
  ·simp (config:={ decide:=true }) only[go_sem,Nat.reduceBEq,reduceIte]
  ·simp (config:={ decide:=true }) only[go_sem,Nat.reduceBEq,reduceIte]
 rintro T H ⟨h8,rfl⟩
 simp (config:={ decide:=true }) only[go_sem,Int.reduceToNat,Nat.reduceAdd,Nat.reduceSub,Nat.reduceMul,Nat.reduceBEq,reduceIte,reduceCtorEq,h8]
 exact endP_p ⟨rfl,rfl⟩
end Go.Proofs.YtmapdjdnnhlpiaaGreatDoor
namespace Go.Proofs.YtmapdjdnnhlpiaaGreatDoor
open Go.RowKit
set_option maxRecDepth 8000
def x86B:List UInt8:=[120,56,54]
def initB:List UInt8:=[105,110,105,116]
def existsB:List UInt8:=[101,120,105,115,116,115]
def forallB:List UInt8:=[102,111,114,97,108,108]
def threadB:List UInt8:=[116,104,114,101,97,100]
abbrev withNext (s:PS) (n:Int):PS:={ s with next:=n }
def headF (s:PS) (w:List (List UInt8)) (at_:Int):PS×Bool :=
 if w[0]?=some x86B∧w.length=2 then ({ s with f:={ s.f with name:=w[1]?.getD [] },head:=at_,next:=1 },true) else (s,false)
def startF (s:PS) (w:List (List UInt8)):PS×Bool :=
 if w[0]?=some initB then (withInit (withNext s 2) (s.f.init++(cellsF (w.drop 1)).1),(cellsF (w.drop 1)).2) else (withNext s 2,false)
def threadF (s:PS) (w:List (List UInt8)):PS×Bool :=
 if w[0]?=some threadB∧w.length=1 then ({ s with f:={ s.f with thr:=s.f.thr++[[]] },lines:=s.lines++[[]],next:=3 },true) else (s,false)
def lastF {α:Type} (l:List (List α)) (x:α):List (List α):=l.dropLast++[(l.getLast?.getD [])++[x]]
def bodyF (s:PS) (w:List (List UInt8)) (at_:Int):PS×Bool :=
 if w[0]?=some existsB∨w[0]?=some forallB then
  ({ s with f:={ s.f with all:=decide (w[0]?=some forallB),cond:=s.f.cond++(atomsF (w.drop 1)).1 },fin:=at_,next:=4 },(atomsF (w.drop 1)).2)
 else if w[0]?=some threadB then threadF s w
 else ({ s with f:={ s.f with thr:=lastF s.f.thr (getB w).1 },lines:=lastF s.lines at_ },(getB w).2)
def readF (s:PS) (w:List (List UInt8)) (at_:Int):PS×Bool :=
 if s.next=0 then headF s w at_
 else if s.next=1 then startF s w
 else if s.next=3 then bodyF s w at_
 else if s.next=2 then threadF s w
 else (s,false)
abbrev thH (s:PS) (rest:Heap):Heap :=
  some zO::some (rO s (.ow 44 2 (cls s.f.init)) (.hd 2 0 s.f.thr.length) (.ow 53 3 (ats s.f.cond)) (.hd 3 0 s.lines.length)) ::
   some ⟨47,1,towR s.f.thr⟩::some ⟨38,1,lowR s.lines⟩::rest
theorem thOpen {N:Nat} {T:Nat→HV} {s:PS}:Ghost N 2 T [some zO,some (pO s)] T (thH s []):=by
 have g1:=Ghost.openOw (N:=N) (L:=2) (T:=T) (H:=[some zO,some (pO s)]) 1 0 2 (e:=47) (sz:=1) (rows:=towR s.f.thr) rfl rfl rfl
 have g2:=g1.trans (Ghost.openOw 1 0 6 (e:=38) (sz:=1) (rows:=lowR s.lines) rfl rfl rfl)
 refine g2.to ?_
 simp only[towR_len,lowR_len,List.length_append,List.length_cons,List.length_nil,List.set_cons_succ,List.set_cons_zero,List.cons_append,List.nil_append]
theorem thClose {N:Nat} {T:Nat→HV} {s:PS} {rest:Heap} {a b:Nat} (ha:a=s.f.thr.length+1) (hb:b=s.lines.length+1) :
  Ghost N 2 T (some zO::some (rO s (.ow 44 2 (cls s.f.init)) (.hd 2 0 a) (.ow 53 3 (ats s.f.cond)) (.hd 3 0 b)) ::
   some ⟨47,1,towR s.f.thr++[[.v (.slice none 0 0)]]⟩::some ⟨38,1,lowR s.lines++[[.v (.slice none 0 0)]]⟩::rest) T
   (some zO::some (pO (withLast s s.f.thr s.lines [] []))::none::none::rest):=by
 subst ha hb
 have g1:=Ghost.cell (N:=N) (L:=2) (T:=T) (H:=some zO::some (rO s (.ow 44 2 (cls s.f.init)) (.hd 2 0 (s.f.thr.length+1)) (.ow 53 3 (ats s.f.cond)) (.hd 3 0 (s.lines.length+1))) ::
   some ⟨47,1,towR s.f.thr++[[.v (.slice none 0 0)]]⟩::some ⟨38,1,lowR s.lines++[[.v (.slice none 0 0)]]⟩::rest) 2 s.f.thr.length 0 (.ow 50 5 (lns [])) rfl (towR_at _ _) rfl rfl (Conv.nilOw _ _) (by simp)
 have g2:=g1.trans (Ghost.cell 3 s.lines.length 0 (.ow 3 1 (ints [])) rfl (lowR_at _ _) rfl rfl (Conv.nilOw _ _) (by simp))
 have g3:=g2.trans (Ghost.absorbHd 1 0 2 (j:=2) (len:=s.f.thr.length+1) rfl rfl rfl rfl (by decide) (by simp[towR_len]) (by
  show nmR 0 ((towR s.f.thr++[_]).set s.f.thr.length _)=true
  rw[towR_put];exact towR_nmR (l:=s.f.thr++[[]])▸by rw[←towR_snoc];rfl))
 have g4:=g3.trans (Ghost.absorbHd 1 0 6 (j:=3) (len:=s.lines.length+1) rfl rfl rfl rfl (by decide) (by simp[lowR_len]) (by
  show nmR 0 ((lowR s.lines++[_]).set s.lines.length _)=true
  rw[lowR_put];exact lowR_nmR (l:=s.lines++[[]])▸by rw[←lowR_snoc];rfl))
 refine g4.to ?_
 show some zO::some (rO s _ (.ow _ 1 ((towR s.f.thr++[_]).set s.f.thr.length _)) _ (.ow _ 1 ((lowR s.lines++[_]).set s.lines.length _)))::_=_
 rw[towR_put,lowR_put]
 show some zO::some (rO s _ (.ow _ 1 (towR s.f.thr++[towrow []])) _ (.ow _ 1 (lowR s.lines++[lorow []])))::_=_
 rw[towR_snoc,lowR_snoc]
 rfl
structure ROk (s:PS):Prop where
 init:s.f.init.length≤100000
 cond:s.f.cond.length≤100000
 thr:s.f.thr.length≤100000
 same:s.lines.length=s.f.thr.length
 len:∀l∈s.f.thr,l.length≤100000
 lens:∀l∈s.lines,l.length≤100000
 some3:s.next=3→s.f.thr≠[]
section
variable {s:PS} {w:List (List UInt8)} {at_:Int} {k:List UInt8}
abbrev readQ (s:PS) (r:PS×Bool):HV→Heap→Prop:=fun x H'=>x=.v (.bool r.2)∧H'=[some zO,some (pO r.1)]
abbrev readC (s:PS) (w:List (List UInt8)) (at_:Int) (r:PS×Bool):Prop :=
 HCalls Tryz.prog 22 [some zO,some (pO s)] [.pt 1 1 0 0,.sl (strs w),.v (.int .i64 at_)] (readQ s r)
theorem readHead (h:s.next=0) (hk:w[0]?=some k):readC s w at_ (headF s w at_):=by
 have hn:0<w.length:=by have:=(List.getElem?_eq_some_iff.1 hk).1;omega
 have hn' : ((0:Int)<(w.length:Int))=True:=by simp only[eq_iff_iff,iff_true];omega
 by_cases h1:k=[120,56,54]
 ·by_cases h2:w.length=2
  ·have h2' : ((w.length:Int)=2)=True:=by simp only[eq_iff_iff,iff_true];omega
   have e1:w[1]?=some w[1]:=List.getElem?_eq_getElem (by omega)
   generalize w[1]=n at e1
   have h12:((1:Int)<(w.length:Int))=True:=by simp only[eq_iff_iff,iff_true];omega
   rw[show headF s w at_=({ s with f:={ s.f with name:=n },head:=at_,next:=1 },true) from by unfold headF;rw[hk,e1,if_pos ⟨by rw[h1];rfl,h2⟩];rfl]
   refine HCalls_body (fn:=Tryz.f22) 113 [6] (by kernel_rfl) rfl (by kernel_rfl) (HW.run 400 (by kernel_rfl) ?_)
   simp (config:={ decide:=true }) only[go_sem,Int.reduceToNat,Nat.reduceAdd,Nat.reduceSub,Nat.reduceMul,Nat.reduceBEq,reduceIte,reduceCtorEq,h,hk,h1,h2',e1,hn',h12]
   exact endP_p (s:={ s with f:={ s.f with name:=n },head:=at_,next:=1 }) ⟨rfl,rfl⟩
  ·have h2' : ((w.length:Int)=2)=False:=by simp only[eq_iff_iff,iff_false];omega
   rw[show headF s w at_=(s,false) from by unfold headF;rw[if_neg (fun hh=>h2 hh.2)]]
   refine HCalls_body (fn:=Tryz.f22) 113 [6] (by kernel_rfl) rfl (by kernel_rfl) (HW.run 400 (by kernel_rfl) ?_)
   simp (config:={ decide:=true }) only[go_sem,Int.reduceToNat,Nat.reduceAdd,Nat.reduceSub,Nat.reduceMul,Nat.reduceBEq,reduceIte,reduceCtorEq,h,hk,h1,h2',hn']
   exact endP_p (s:=s) ⟨rfl,rfl⟩
 ·rw[show headF s w at_=(s,false) from by unfold headF;rw[hk,if_neg (fun hh=>h1 (Option.some.inj hh.1))]]
  refine HCalls_body (fn:=Tryz.f22) 113 [6] (by kernel_rfl) rfl (by kernel_rfl) (HW.run 400 (by kernel_rfl) ?_)
  simp (config:={ decide:=true }) only[go_sem,Int.reduceToNat,Nat.reduceAdd,Nat.reduceSub,Nat.reduceMul,Nat.reduceBEq,reduceIte,reduceCtorEq,h,hk,h1,hn']
  exact endP_p (s:=s) ⟨rfl,rfl⟩
theorem readStart (h:s.next=1) (hk:w[0]?=some k) (hi:s.f.init.length≤1000000) (hw:∀x∈w,x.length≤1000000) (hl:w.length≤1000000):readC s w at_ (startF s w):=by
 have hn:0<w.length:=by have:=(List.getElem?_eq_some_iff.1 hk).1;omega
 have hn' : ((0:Int)<(w.length:Int))=True:=by simp only[eq_iff_iff,iff_true];omega
 by_cases h1:k=[105,110,105,116]
 ·have htk:List.take (w.length-1) (List.drop 1 w)=List.drop 1 w:=List.take_of_length_le (by rw[List.length_drop];omega)
  have hC:=pCells (withNext s 2) (w.drop 1) (fun x hx=>hw x (List.mem_of_mem_drop hx)) (by rw[List.length_drop];omega) hi
  rw[show startF s w=(withInit (withNext s 2) (s.f.init++(cellsF (w.drop 1)).1),(cellsF (w.drop 1)).2) from by unfold startF;rw[hk,if_pos (by rw[h1];rfl)]]
  refine HCalls_body (fn:=Tryz.f22) 113 [6] (by kernel_rfl) rfl (by kernel_rfl) (HW.run 400 (by kernel_rfl) ?_)
  simp (config:={ decide:=true }) only[go_sem,Int.reduceToNat,Nat.reduceAdd,Nat.reduceSub,Nat.reduceMul,Nat.reduceBEq,reduceIte,reduceCtorEq,h,hk,h1,hn',htk]
  refine ⟨by omega,_,hC,?_⟩
  rintro r H' ⟨rfl,rfl⟩ -
  simp (config:={ decide:=true }) only[go_sem,Int.reduceToNat,Nat.reduceAdd,Nat.reduceSub,Nat.reduceMul,Nat.reduceBEq,reduceIte,reduceCtorEq]
  exact endP_p (s:=withInit (withNext s 2) (s.f.init++(cellsF (w.drop 1)).1)) ⟨rfl,rfl⟩
 ·rw[show startF s w=(withNext s 2,false) from by unfold startF;rw[hk];exact if_neg (fun hh=>h1 (Option.some.inj hh))]
  refine HCalls_body (fn:=Tryz.f22) 113 [6] (by kernel_rfl) rfl (by kernel_rfl) (HW.run 400 (by kernel_rfl) ?_)
  simp (config:={ decide:=true }) only[go_sem,Int.reduceToNat,Nat.reduceAdd,Nat.reduceSub,Nat.reduceMul,Nat.reduceBEq,reduceIte,reduceCtorEq,h,hk,h1,hn']
  exact endP_p (s:=withNext s 2) ⟨rfl,rfl⟩
theorem readThread (h:s.next=2) (hk:w[0]?=some k) (ok:ROk s):readC s w at_ (threadF s w):=by
 have hn:0<w.length:=by have:=(List.getElem?_eq_some_iff.1 hk).1;omega
 have hn' : ((0:Int)<(w.length:Int))=True:=by simp only[eq_iff_iff,iff_true];omega
 by_cases h1:k=[116,104,114,101,97,100]
 ·by_cases h2:w.length=1
  ·have h2' : ((w.length:Int)=1)=True:=by simp only[eq_iff_iff,iff_true];omega
   rw[show threadF s w=({ s with f:={ s.f with thr:=s.f.thr++[[]] },lines:=s.lines++[[]],next:=3 },true) from by unfold threadF;rw[hk,if_pos ⟨by rw[h1];rfl,h2⟩]]
   refine HCalls_body (fn:=Tryz.f22) 113 [6] (by kernel_rfl) rfl (by kernel_rfl) (HW.ghost thOpen (HW.run 400 (by kernel_rfl) ?_))
   simp (config:={ decide:=true }) only[go_sem,Int.reduceToNat,Nat.reduceAdd,Nat.reduceSub,Nat.reduceMul,Nat.reduceBEq,reduceIte,reduceCtorEq,h,hk,h1,h2',hn']
   refine HW.treeI (fun T H=>H=[some zO,some (pO (withNext (withLast s s.f.thr s.lines [] []) 3))]) (.light 0 (.light 1 (.light 2 (.light 3 (.light 4 (.light 5 (.light 6 (.light 7 (.light 8 (.light 11 (.light 12 (.light 13 (.light 14 (.heavy 9 [0,1,2,3,4,5,6,7,11,12,13,14] (.heavy 10 [0,1,2,11,12,13,14] (.heavy 15 [0,1,2,3,4,5,6,7,8,11,12,13,14] (.heavy 16 [0,1,2] (.light 17 (.light 18 (.light 19 (.heavy 20 [1,2] (.light 21 (.light 22 (.heavy 23 [2] (.light 24 (.light 25 (.heavy 26 [] .leaf .stop))) .stop))) .stop)))) .stop) .stop) (.heavy 15 [0,1,2,3,4,5,6,7,8,11,12,13,14] (.heavy 10 [0,1,2,11,12,13,14] (.heavy 16 [0,1,2] (.light 17 (.light 18 (.light 19 (.heavy 20 [1,2] (.light 21 (.light 22 (.heavy 23 [2] (.light 24 (.light 25 (.heavy 26 [] .leaf .stop))) .stop))) .stop)))) .stop) .stop) .stop)) (.heavy 15 [0,1,2,3,4,5,6,7,8,11,12,13,14] (.heavy 9 [0,1,2,3,4,5,6,7,11,12,13,14] (.heavy 10 [0,1,2,11,12,13,14] (.heavy 16 [0,1,2] (.light 17 (.light 18 (.light 19 (.heavy 20 [1,2] (.light 21 (.light 22 (.heavy 23 [2] (.light 24 (.light 25 (.heavy 26 [] .leaf .stop))) .stop))) .stop)))) .stop) .stop) .stop) .stop))))))))))))))) follows (by kernel_rfl) (by kernel_rfl) ?_ ?_
   ·have q1:=ok.thr
    have q2:=ok.same
    simp (config:={ decide:=true }) only[go_sem,Int.reduceToNat,Nat.reduceAdd,Nat.reduceSub,Nat.reduceMul,Nat.reduceBEq,reduceIte,reduceCtorEq]
    (with_reducible and_intros) <;> first | omega | exact GQ.step (thClose (s:=withNext s 3) rfl rfl) (GQ.step (Ghost.trunc [] 2 (by omega) rfl (nm_p _ _)) (GQ.done rfl))
   rintro T H rfl
   simp (config:={ decide:=true }) only[go_sem,Int.reduceToNat,Nat.reduceAdd,Nat.reduceSub,Nat.reduceMul,Nat.reduceBEq,reduceIte,reduceCtorEq]
   exact endP_p (s:=withNext (withLast s s.f.thr s.lines [] []) 3) ⟨rfl,rfl⟩
  ·have h2' : ((w.length:Int)=1)=False:=by simp only[eq_iff_iff,iff_false];omega
   rw[show threadF s w=(s,false) from by unfold threadF;rw[if_neg (fun hh=>h2 hh.2)]]
   refine HCalls_body (fn:=Tryz.f22) 113 [6] (by kernel_rfl) rfl (by kernel_rfl) (HW.run 400 (by kernel_rfl) ?_)
   simp (config:={ decide:=true }) only[go_sem,Int.reduceToNat,Nat.reduceAdd,Nat.reduceSub,Nat.reduceMul,Nat.reduceBEq,reduceIte,reduceCtorEq,h,hk,h1,h2',hn']
   exact endP_p (s:=s) ⟨rfl,rfl⟩
 ·rw[show threadF s w=(s,false) from by unfold threadF;rw[hk,if_neg (fun hh=>h1 (Option.some.inj hh.1))]]
  refine HCalls_body (fn:=Tryz.f22) 113 [6] (by kernel_rfl) rfl (by kernel_rfl) (HW.run 400 (by kernel_rfl) ?_)
  simp (config:={ decide:=true }) only[go_sem,Int.reduceToNat,Nat.reduceAdd,Nat.reduceSub,Nat.reduceMul,Nat.reduceBEq,reduceIte,reduceCtorEq,h,hk,h1,hn']
  exact endP_p (s:=s) ⟨rfl,rfl⟩
theorem readOver (h0:s.next≠0) (h1:s.next≠1) (h2:s.next≠2) (h3:s.next≠3) (hk:w[0]?=some k):readC s w at_ (s,false):=by
 have hn:0<w.length:=by have:=(List.getElem?_eq_some_iff.1 hk).1;omega
 have hn' : ((0:Int)<(w.length:Int))=True:=by simp only[eq_iff_iff,iff_true];omega
 refine HCalls_body (fn:=Tryz.f22) 113 [6] (by kernel_rfl) rfl (by kernel_rfl) (HW.run 400 (by kernel_rfl) ?_)
 simp (config:={ decide:=true }) only[go_sem,Int.reduceToNat,Nat.reduceAdd,Nat.reduceSub,Nat.reduceMul,Nat.reduceBEq,reduceIte,reduceCtorEq,hk,hn',h0,h1,h2,h3]
 exact endP_p (s:=s) ⟨rfl,rfl⟩
theorem readBodyThread (h:s.next=3) (hk:w[0]?=some threadB) (ok:ROk s):readC s w at_ (threadF s w):=by
 have hn:0<w.length:=by have:=(List.getElem?_eq_some_iff.1 hk).1;omega
 have hn' : ((0:Int)<(w.length:Int))=True:=by simp only[eq_iff_iff,iff_true];omega
 by_cases h2:w.length=1
 ·have h2' : ((w.length:Int)=1)=True:=by simp only[eq_iff_iff,iff_true];omega
  rw[show threadF s w=({ s with f:={ s.f with thr:=s.f.thr++[[]] },lines:=s.lines++[[]],next:=3 },true) from by unfold threadF;rw[if_pos ⟨hk,h2⟩]]
  unfold threadB at hk
  refine HCalls_body (fn:=Tryz.f22) 113 [6] (by kernel_rfl) rfl (by kernel_rfl) (HW.ghost thOpen (HW.run 400 (by kernel_rfl) ?_))
  simp (config:={ decide:=true }) only[go_sem,Int.reduceToNat,Nat.reduceAdd,Nat.reduceSub,Nat.reduceMul,Nat.reduceBEq,reduceIte,reduceCtorEq,h,hk,h2',hn']
  refine HW.treeI (fun T H=>H=[some zO,some (pO (withNext (withLast s s.f.thr s.lines [] []) 3))]) (.light 0 (.light 1 (.light 2 (.light 3 (.light 4 (.light 5 (.light 6 (.light 7 (.light 8 (.light 11 (.light 12 (.light 13 (.light 14 (.heavy 9 [0,1,2,3,4,5,6,7,11,12,13,14] (.heavy 10 [0,1,2,11,12,13,14] (.heavy 15 [0,1,2,3,4,5,6,7,8,11,12,13,14] (.heavy 16 [0,1,2] (.light 17 (.light 18 (.light 19 (.heavy 20 [1,2] (.light 21 (.light 22 (.heavy 23 [2] (.light 24 (.light 25 (.heavy 26 [] .leaf .stop))) .stop))) .stop)))) .stop) .stop) (.heavy 15 [0,1,2,3,4,5,6,7,8,11,12,13,14] (.heavy 10 [0,1,2,11,12,13,14] (.heavy 16 [0,1,2] (.light 17 (.light 18 (.light 19 (.heavy 20 [1,2] (.light 21 (.light 22 (.heavy 23 [2] (.light 24 (.light 25 (.heavy 26 [] .leaf .stop))) .stop))) .stop)))) .stop) .stop) .stop)) (.heavy 15 [0,1,2,3,4,5,6,7,8,11,12,13,14] (.heavy 9 [0,1,2,3,4,5,6,7,11,12,13,14] (.heavy 10 [0,1,2,11,12,13,14] (.heavy 16 [0,1,2] (.light 17 (.light 18 (.light 19 (.heavy 20 [1,2] (.light 21 (.light 22 (.heavy 23 [2] (.light 24 (.light 25 (.heavy 26 [] .leaf .stop))) .stop))) .stop)))) .stop) .stop) .stop) .stop))))))))))))))) follows (by kernel_rfl) (by kernel_rfl) ?_ ?_
  ·have q1:=ok.thr
   have q2:=ok.same
   simp (config:={ decide:=true }) only[go_sem,Int.reduceToNat,Nat.reduceAdd,Nat.reduceSub,Nat.reduceMul,Nat.reduceBEq,reduceIte,reduceCtorEq]
   (with_reducible and_intros) <;> first | omega | exact GQ.step (thClose (s:=withNext s 3) rfl rfl) (GQ.step (Ghost.trunc [] 2 (by omega) rfl (nm_p _ _)) (GQ.done rfl))
  rintro T H rfl
  simp (config:={ decide:=true }) only[go_sem,Int.reduceToNat,Nat.reduceAdd,Nat.reduceSub,Nat.reduceMul,Nat.reduceBEq,reduceIte,reduceCtorEq]
  exact endP_p (s:=withNext (withLast s s.f.thr s.lines [] []) 3) ⟨rfl,rfl⟩
 ·have h2' : ((w.length:Int)=1)=False:=by simp only[eq_iff_iff,iff_false];omega
  rw[show threadF s w=(s,false) from by unfold threadF;rw[if_neg (fun hh=>h2 hh.2)]]
  unfold threadB at hk
  refine HCalls_body (fn:=Tryz.f22) 113 [6] (by kernel_rfl) rfl (by kernel_rfl) (HW.run 400 (by kernel_rfl) ?_)
  simp (config:={ decide:=true }) only[go_sem,Int.reduceToNat,Nat.reduceAdd,Nat.reduceSub,Nat.reduceMul,Nat.reduceBEq,reduceIte,reduceCtorEq,h,hk,h2',hn']
  exact endP_p (s:=s) ⟨rfl,rfl⟩
abbrev overF (s:PS) (all:Bool) (c:List AT) (at_:Int):PS:={ s with f:={ s.f with all:=all,cond:=c },fin:=at_,next:=4 }
theorem readBodyOver (b:Bool) (h:s.next=3) (hk:w[0]?=some (if b=true then forallB else existsB)) (hi:s.f.cond.length≤1000000) (hw:∀x∈w,x.length≤1000000) (hl:w.length≤1000000):readC s w at_ (overF s b (s.f.cond++(atomsF (w.drop 1)).1) at_,(atomsF (w.drop 1)).2):=by
 have hn:0<w.length:=by have:=(List.getElem?_eq_some_iff.1 hk).1;omega
 have hn' : ((0:Int)<(w.length:Int))=True:=by simp only[eq_iff_iff,iff_true];omega
 have htk:List.take (w.length-1) (List.drop 1 w)=List.drop 1 w:=List.take_of_length_le (by rw[List.length_drop];omega)
 have hC:=pAtoms (overF s b s.f.cond at_) (w.drop 1) (fun x hx=>hw x (List.mem_of_mem_drop hx)) (by rw[List.length_drop];omega) hi
 cases b with
 | true =>
  have hk' : w[0]?=some [102,111,114,97,108,108]:=hk
  refine HCalls_body (fn:=Tryz.f22) 113 [6] (by kernel_rfl) rfl (by kernel_rfl) (HW.run 400 (by kernel_rfl) ?_)
  simp (config:={ decide:=true }) only[go_sem,Int.reduceToNat,Nat.reduceAdd,Nat.reduceSub,Nat.reduceMul,Nat.reduceBEq,reduceIte,reduceCtorEq,h,hk',hn',htk]
  refine ⟨by omega,_,hC,?_⟩
  rintro r H' ⟨rfl,rfl⟩ -
  simp (config:={ decide:=true }) only[go_sem,Int.reduceToNat,Nat.reduceAdd,Nat.reduceSub,Nat.reduceMul,Nat.reduceBEq,reduceIte,reduceCtorEq]
  exact endP_p (s:=overF s true (s.f.cond++(atomsF (w.drop 1)).1) at_) ⟨rfl,rfl⟩
 | false =>
  have hk' : w[0]?=some [101,120,105,115,116,115]:=hk
  refine HCalls_body (fn:=Tryz.f22) 113 [6] (by kernel_rfl) rfl (by kernel_rfl) (HW.run 400 (by kernel_rfl) ?_)
  simp (config:={ decide:=true }) only[go_sem,Int.reduceToNat,Nat.reduceAdd,Nat.reduceSub,Nat.reduceMul,Nat.reduceBEq,reduceIte,reduceCtorEq,h,hk',hn',htk]
  refine ⟨by omega,_,hC,?_⟩
  rintro r H' ⟨rfl,rfl⟩ -
  simp (config:={ decide:=true }) only[go_sem,Int.reduceToNat,Nat.reduceAdd,Nat.reduceSub,Nat.reduceMul,Nat.reduceBEq,reduceIte,reduceCtorEq]
  exact endP_p (s:=overF s false (s.f.cond++(atomsF (w.drop 1)).1) at_) ⟨rfl,rfl⟩
theorem readBodyInner (h:s.next=3) (hk:w[0]?=some k) (k1:k≠existsB) (k2:k≠forallB) (k3:k≠threadB) (pre:List (List LT)) (lpre:List (List Int)) (l:List LT) (ln:List Int) (h1:s.f.thr=pre++[l]) (h2:s.lines=lpre++[ln]) (h3:lpre.length=pre.length) (hp:pre.length≤100000) (hl:l.length≤100000) (hln:ln.length≤100000) (hw:∀x∈w,x.length≤1000000) (hn0:w.length≤1000000) :
  readC s w at_ (withLast s pre lpre (l++[(getB w).1]) (ln++[at_]),(getB w).2):=by
 have hn:0<w.length:=by have:=(List.getElem?_eq_some_iff.1 hk).1;omega
 have hn' : ((0:Int)<(w.length:Int))=True:=by simp only[eq_iff_iff,iff_true];omega
 have hC:=pInner s pre lpre l ln w at_ h1 h2 h3 hp hl hln hw hn0
 unfold existsB at k1
 unfold forallB at k2
 unfold threadB at k3
 refine HCalls_body (fn:=Tryz.f22) 113 [6] (by kernel_rfl) rfl (by kernel_rfl) (HW.run 400 (by kernel_rfl) ?_)
 simp (config:={ decide:=true }) only[go_sem,Int.reduceToNat,Nat.reduceAdd,Nat.reduceSub,Nat.reduceMul,Nat.reduceBEq,reduceIte,reduceCtorEq,h,hk,hn',k1,k2,k3]
 refine ⟨_,hC,?_⟩
 rintro r H' ⟨rfl,rfl⟩ -
 simp (config:={ decide:=true }) only[go_sem,Int.reduceToNat,Nat.reduceAdd,Nat.reduceSub,Nat.reduceMul,Nat.reduceBEq,reduceIte,reduceCtorEq]
 exact endP_p (s:=withLast s pre lpre (l++[(getB w).1]) (ln++[at_])) ⟨rfl,rfl⟩
end
end Go.Proofs.YtmapdjdnnhlpiaaGreatDoor
namespace Go.Proofs.YtmapdjdnnhlpiaaGreatDoor
open Go.RowKit
set_option maxRecDepth 8000
theorem lastF_snoc {α:Type} (pre:List (List α)) (l:List α) (x:α):lastF (pre++[l]) x=pre++[l++[x]]:=by simp[lastF]
theorem snoc_of {α:Type} {l:List α} (h:l≠[]):∃pre x,l=pre++[x]:=⟨l.dropLast,l.getLast h,(List.dropLast_concat_getLast h).symm⟩
theorem pRead (s:PS) (w:List (List UInt8)) (at_:Int) (ok:ROk s) (hne:w≠[]) (hw:∀x∈w,x.length≤1000000) (hl:w.length≤1000000):readC s w at_ (readF s w at_):=by
 have h1:=ok.init
 have h2:=ok.cond
 have hn:0<w.length:=List.length_pos_iff.2 hne
 have hk:w[0]?=some w[0]:=List.getElem?_eq_getElem hn
 generalize w[0]=k at hk
 unfold readF
 by_cases n0:s.next=0
 ·rw[if_pos n0];exact readHead n0 hk
 rw[if_neg n0]
 by_cases n1:s.next=1
 ·rw[if_pos n1];exact readStart n1 hk (by omega) hw hl
 rw[if_neg n1]
 by_cases n3:s.next=3
 ·rw[if_pos n3]
  unfold bodyF
  rw[hk]
  by_cases k1:k=existsB
  ·have e:(decide (some existsB=some forallB))=false:=by decide
   subst k1
   rw[if_pos (.inl rfl),e]
   exact readBodyOver false n3 hk (by omega) hw hl
  by_cases k2:k=forallB
  ·subst k2
   rw[if_pos (.inr rfl),decide_eq_true rfl]
   exact readBodyOver true n3 hk (by omega) hw hl
  rw[if_neg (by rintro (h | h);exact k1 (Option.some.inj h);exact k2 (Option.some.inj h))]
  by_cases k3:k=threadB
  ·subst k3
   rw[if_pos rfl]
   exact readBodyThread n3 hk ok
  rw[if_neg (fun h=>k3 (Option.some.inj h))]
  obtain ⟨pre,l,e1⟩:=snoc_of (ok.some3 n3)
  obtain ⟨lpre,ln,e2⟩:=snoc_of (l:=s.lines) (fun h=>ok.some3 n3 (by have:=ok.same;rw[h] at this;exact List.length_eq_zero_iff.1 this.symm))
  have hs:=ok.same
  have ht:=ok.thr
  rw[e1,e2] at hs
  rw[e1] at ht
  simp only[List.length_append,List.length_cons,List.length_nil] at hs ht
  have hl1:=ok.len l (by rw[e1];simp)
  have hl2:=ok.lens ln (by rw[e2];simp)
  rw[e1,e2,lastF_snoc,lastF_snoc]
  exact readBodyInner n3 hk k1 k2 k3 pre lpre l ln e1 e2 (by omega) (by omega) hl1 hl2 hw hl
 rw[if_neg n3]
 by_cases n2:s.next=2
 ·rw[if_pos n2];exact readThread n2 hk ok
 rw[if_neg n2]
 exact readOver n0 n1 n2 n3 hk
def totF (s:PS):Nat:=s.f.init.length+(s.f.thr.map List.length).sum+s.f.thr.length+s.f.cond.length
structure Agree (s:PS):Prop where
 same:s.lines.map List.length=s.f.thr.map List.length
 some3:s.next=3→s.f.thr≠[]
theorem sum_mem {l:List Nat} {x:Nat} (h:x∈l):x≤l.sum:=by
 induction l with
 | nil=>cases h
 | cons a r ih =>
  rcases List.mem_cons.1 h with rfl | h
  ·simp
  ·have:=ih h;simp;omega
theorem Agree.ok {s:PS} (h:Agree s) (ht:totF s≤100000):ROk s:=by
 unfold totF at ht
 have hs:=congrArg List.length h.same
 rw[List.length_map,List.length_map] at hs
 refine ⟨by omega,by omega,by omega,hs,fun l hl=>?_,fun l hl=>?_,h.some3⟩
 ·have:=sum_mem (List.mem_map.2 ⟨l,hl,rfl⟩:l.length∈s.f.thr.map List.length)
  omega
 ·have:=sum_mem (List.mem_map.2 ⟨l,hl,rfl⟩:l.length∈s.lines.map List.length)
  rw[h.same] at this
  omega
theorem readF_tot (s:PS) (w:List (List UInt8)) (at_:Int) (hne:w≠[]) (h:Agree s):totF (readF s w at_).1≤totF s+w.length∧((readF s w at_).2=true→Agree (readF s w at_).1):=by
 have hn:0<w.length:=List.length_pos_iff.2 hne
 have hd:(w.drop 1).length=w.length-1:=List.length_drop
 unfold readF
 by_cases n0:s.next=0
 ·rw[if_pos n0]
  unfold headF
  split
  ·exact ⟨by simp only[totF];omega,fun _=>⟨h.same,fun hh=>by simp at hh⟩⟩
  ·exact ⟨by simp,fun hh=>by cases hh⟩
 rw[if_neg n0]
 by_cases n1:s.next=1
 ·rw[if_pos n1]
  unfold startF
  split
  ·have:=cellsF_len (w.drop 1)
   exact ⟨by simp only[totF,withInit,withNext,List.length_append];omega,fun _=>⟨h.same,fun hh=>by simp at hh⟩⟩
  ·exact ⟨by simp only[totF,withNext];omega,fun hh=>by cases hh⟩
 rw[if_neg n1]
 have thr:totF (threadF s w).1≤totF s+w.length∧((threadF s w).2=true→Agree (threadF s w).1):=by
  unfold threadF
  split
  ·refine ⟨by simp only[totF,List.map_append,List.sum_append,List.length_append,List.map_cons,List.map_nil,List.sum_cons,List.sum_nil,List.length_cons,List.length_nil];omega,fun _=>⟨?_,fun _=>by simp⟩⟩
   simp only[List.map_append,h.same];rfl
  ·exact ⟨by simp,fun hh=>by cases hh⟩
 by_cases n3:s.next=3
 ·rw[if_pos n3]
  unfold bodyF
  split
  ·have:=atomsF_len (w.drop 1)
   exact ⟨by simp only[totF,List.length_append];omega,fun _=>⟨h.same,fun hh=>by simp at hh⟩⟩
  ·split
   ·exact thr
   ·obtain ⟨pre,l,e1⟩:=snoc_of (h.some3 n3)
    have hs:=h.same
    obtain ⟨lpre,ln,e2⟩:=snoc_of (l:=s.lines) (fun hh=>h.some3 n3 (by rw[hh] at hs;simpa using hs.symm))
    rw[e1,e2] at hs
    simp only[List.map_append,List.map_cons,List.map_nil] at hs
    obtain ⟨hs1,hs2⟩:=List.append_inj' hs rfl
    refine ⟨?_,fun _=>⟨?_,fun _=>?_⟩⟩
    ·simp only[totF,e1,lastF_snoc,List.map_append,List.sum_append,List.length_append,List.map_cons,List.map_nil,List.sum_cons,List.sum_nil,List.length_cons,List.length_nil];omega
    ·simp only[e1,e2,lastF_snoc,List.map_append,List.map_cons,List.map_nil,hs1,List.length_append,List.length_cons,List.length_nil]
     have:ln.length=l.length:=by simpa using hs2
     rw[this]
    ·show lastF s.f.thr _≠[]
     simp[lastF]
 rw[if_neg n3]
 by_cases n2:s.next=2
 ·rw[if_pos n2];exact thr
 rw[if_neg n2]
 exact ⟨by simp,fun hh=>by cases hh⟩
theorem towR_fzoR {l:List (List LT)}:fzoR (towR l)=tds l:=by
 induction l with
 | nil=>rfl
 | cons x l ih=>show fzoR (towrow x::towR l)=_;simp only[towrow,fzoR,fzoL,fzo,lns_fzoR,ih];rfl
theorem lowR_fzoR {l:List (List Int)}:fzoR (lowR l)=lws l:=by
 induction l with
 | nil=>rfl
 | cons x l ih=>show fzoR (lorow x::lowR l)=_;simp only[lorow,fzoR,fzoL,fzo,ints_fzoR,ih];rfl
abbrev pRow (s:PS):List HV:=[.v (str s.f.name),.sl (cls s.f.init),.sl (tds s.f.thr),.v (.bool s.f.all),.sl (ats s.f.cond),.v (.int .i64 s.next),.sl (lws s.lines),.v (.int .i64 s.head),.v (.int .i64 s.fin)]
theorem pO_fzoR (s:PS):fzoR (pO s).rows=[pRow s]:=by
 simp only[fzoR,fzoL,fzo,cls_fzoR,ats_fzoR,towR_fzoR,lowR_fzoR]
def whereF (s:PS) (t i:Int):Int :=
 if t<0 then s.head else if t=s.f.thr.length then s.fin else ((s.lines[t.toNat]?.getD [])[i.toNat]?).getD 0
theorem pWhere (s:PS) (t i:Int) (h:0≤t→t≠s.f.thr.length→0≤i∧∃ln,s.lines[t.toNat]?=some ln∧i.toNat<ln.length) :
  HFn Tryz.prog 26 [.fp [pRow s] 0 0,.v (.int .i64 t),.v (.int .i64 i)] (.v (.int .i64 (whereF s t i))):=by
 unfold whereF
 refine HCalls_body (fn:=Tryz.f26) 37 [6] (by kernel_rfl) rfl (by kernel_rfl) (HW.run 400 (by kernel_rfl) ?_)
 by_cases h1:t<0
 ·rw[if_pos h1]
  simp (config:={ decide:=true }) only[go_sem,Int.reduceToNat,Nat.reduceAdd,Nat.reduceSub,Nat.reduceMul,Nat.reduceBEq,reduceIte,reduceCtorEq,h1]
 ·rw[if_neg h1]
  by_cases h2:t=s.f.thr.length
  ·rw[if_pos h2]
   have h3:((s.f.thr.length:Int)<0)=False:=by simp only[eq_iff_iff,iff_false];omega
   subst h2
   simp (config:={ decide:=true }) only[go_sem,Int.reduceToNat,Nat.reduceAdd,Nat.reduceSub,Nat.reduceMul,Nat.reduceBEq,reduceIte,reduceCtorEq,h3]
  ·rw[if_neg h2]
   obtain ⟨hi,ln,e1,e2⟩:=h (by omega) h2
   have e3:ln[i.toNat]?=some ln[i.toNat]:=List.getElem?_eq_getElem e2
   have hlt:=(List.getElem?_eq_some_iff.1 e1).1
   rw[e1,Option.getD_some,e3,Option.getD_some]
   simp (config:={ decide:=true }) only[go_sem,Int.reduceToNat,Nat.reduceAdd,Nat.reduceSub,Nat.reduceMul,Nat.reduceBEq,reduceIte,reduceCtorEq,h1,h2,e1,e3]
   (with_reducible and_intros) <;> omega
end Go.Proofs.YtmapdjdnnhlpiaaGreatDoor
namespace Go.Proofs.YtmapdjdnnhlpiaaGreatDoor
open Go.RowKit
set_option maxRecDepth 8000
def ConvL:List HV→List HV→Prop
 | [],[]=>True
 | x::xs,y::ys=>Conv x y∧ConvL xs ys
 | _,_=>False
theorem RL_conv {Z:Nat→Prop} {G:List (Option OG)} {w:World}:∀{xs xs' : List HV},ConvL xs xs'→∀{ys:List Value},RL Z G w xs ys []→RL Z G w xs' ys []
 | [],[],_,ys,h=>h
 | x::xs,x'::xs',hc,ys,h=>by
  simp only[RL] at h⊢
  obtain ⟨y,ys',f1,f2,rfl,e,hv,hl⟩:=h
  obtain ⟨rfl,rfl⟩:=List.append_eq_nil_iff.1 e.symm
  exact ⟨y,ys',[],[],rfl,rfl,hc.1 _ _ _ _ hv,RL_conv hc.2 hl⟩
 | [],_::_,hc,_,_=>hc.elim
 | _::_,[],hc,_,_=>hc.elim
theorem Conv.refl (x:HV):Conv x x:=fun _ _ _ _ h=>h
theorem Conv.ag {xs ys:List HV} (h:ConvL xs ys):Conv (.ag xs) (.ag ys):=fun Z G w y hv=>by
 rw[RV] at hv⊢
 obtain ⟨zs,rfl,hl⟩:=hv
 exact ⟨zs,rfl,RL_conv h hl⟩
theorem Conv.tu {xs ys:List HV} (h:ConvL xs ys):Conv (.tu xs) (.tu ys):=fun Z G w y hv=>by
 rw[RV] at hv⊢
 obtain ⟨zs,rfl,hl⟩:=hv
 exact ⟨zs,rfl,RL_conv h hl⟩
abbrev zH:HV:=.ag [.v (str []),.v (.slice none 0 0),.v (.slice none 0 0),.v (.bool false),.v (.slice none 0 0)]
theorem Conv.noFile (a b:HV):Conv (.tu [zH,a,b]) (.tu [fileH noFl,a,b]) :=
 Conv.tu ⟨Conv.ag ⟨Conv.refl _,Conv.nilSl,Conv.nilSl,Conv.refl _,Conv.nilSl,trivial⟩,Conv.refl _,Conv.refl _,trivial⟩
theorem cut_sum (c:UInt8):∀s:List UInt8,((cutB c s).map List.length).sum≤s.length
 | []=>by simp[cutB]
 | b::s=>by
  have ih:=cut_sum c s
  unfold cutB
  split
  ·simp;omega
  ·cases h:cutB c s with
   | nil=>simp
   | cons w r=>rw[h] at ih;simp at ih⊢;omega
theorem line_len {s x:List UInt8} (h:x∈linesB s):x.length≤s.length:=by
 have hm:x∈cutB 10 s:=by
  unfold linesB at h
  split at h
  ·exact List.dropLast_subset _ h
  ·exact h
 exact Nat.le_trans (sum_mem (List.mem_map.2 ⟨x,hm,rfl⟩)) (cut_sum 10 s)
theorem word_len {s x:List UInt8} (h:x∈wordsB s):x.length≤s.length :=
 Nat.le_trans (sum_mem (List.mem_map.2 ⟨x,(List.mem_filter.1 h).1,rfl⟩)) (cut_sum 32 s)
theorem filter_sum:∀l:List (List UInt8),(l.filter fun w=>!w.isEmpty).length≤(l.map List.length).sum
 | []=>by simp
 | []::r=>by have:=filter_sum r;simp at this⊢;exact this
 | (a::b)::r=>by have:=filter_sum r;simp at this⊢;omega
theorem words_len (s:List UInt8):(wordsB s).length≤s.length:=Nat.le_trans (filter_sum _) (cut_sum 32 s)
def sumW (l:List (List UInt8)):Nat:=(l.map fun x=>(wordsB x).length).sum
theorem sumW_le:∀l:List (List UInt8),sumW l≤(l.map List.length).sum
 | []=>by simp[sumW]
 | x::r=>by
  have h1:=sumW_le r
  have h2:=words_len x
  simp only[sumW,List.map_cons,List.sum_cons] at h1⊢
  omega
theorem dropLast_sum:∀l:List Nat,l.dropLast.sum≤l.sum
 | []=>by simp
 | [a]=>by simp
 | a::b::r=>by
  have:=dropLast_sum (b::r)
  simp only[List.dropLast_cons_cons,List.sum_cons] at this⊢
  omega
theorem sumW_lines (s:List UInt8):sumW (linesB s)≤s.length:=by
 refine Nat.le_trans (sumW_le _) (Nat.le_trans ?_ (cut_sum 10 s))
 unfold linesB
 split
 ·rw[List.map_dropLast];exact dropLast_sum _
 ·exact Nat.le_refl _
def pS0:PS:=⟨noFl,0,[],0,0⟩
def linesF (s:PS) (n:Nat):List (List UInt8)→PS×Option Nat
 | []=>(s,none)
 | l::r=>if wordsB l=[] then linesF s (n+1) r else if (readF s (wordsB l) ((n+1:Nat):Int)).2=true then linesF (readF s (wordsB l) ((n+1:Nat):Int)).1 (n+1) r else (s,some (n+1))
def finF (st:PS) (many:Nat):Fl×Int×Int :=
 if st.next≠4 then (noFl,((many+1:Nat):Int),11)
 else if (checkF st.f).2.2≠0 then (noFl,whereF st (checkF st.f).1 (checkF st.f).2.1,(checkF st.f).2.2)
 else (st.f,0,0)
def parseF (s:List UInt8):Fl×Int×Int :=
 if 4000<s.length then (noFl,0,5)
 else match (linesF pS0 0 (linesB s)).2 with
 | some n=>(noFl,(n:Int),11)
 | none=>finF (linesF pS0 0 (linesB s)).1 (linesB s).length
theorem linesS (s:List UInt8) (hs:s.length≤1000000):HFn Tryz.prog 23 [.v (str s)] (.sl (strs (linesB s))):=HFn.shut (linesPr s hs) (by simp only[fzo_owStrs])
theorem wordsS (s:List UInt8) (hs:s.length≤1000000):HFn Tryz.prog 24 [.v (str s)] (.sl (strs (wordsB s))):=HFn.shut (wordsPr s hs) (by simp only[fzo_owStrs])
theorem pS0_agree:Agree pS0:=⟨rfl,fun h=>by simp[pS0] at h⟩
theorem thrE_at:∀(b a:List LT) {i:Nat} {e:Int},thrE a b=some (i,e)→a.length≤i∧i<a.length+b.length
 | [],_,_,_,h=>by simp[thrE] at h
 | x::b,a,i,e,h=>by
  rw[thrE] at h
  split at h
  ·have:=thrE_at b _ h
   simp only[List.length_append,List.length_cons,List.length_nil] at this⊢
   omega
  ·simp at h;simp only[List.length_cons];omega
theorem thsO_at:∀(r:List (List LT)) (t:Nat) {a b e:Int},thsO t r=some (a,b,e)→∃(k:Nat) (l:List LT),a=((t+k:Nat):Int)∧r[k]?=some l∧0≤b∧b<l.length
 | [],_,_,_,_,h=>by simp[thsO] at h
 | l::r,t,a,b,e,h=>by
  rw[thsO] at h
  cases hl:thrO t l with
  | none =>
   rw[hl] at h
   obtain ⟨k,l',h1,h2,h3,h4⟩:=thsO_at r (t+1) h
   exact ⟨k+1,l',by omega,by simpa using h2,h3,h4⟩
  | some w =>
   rw[hl] at h
   simp only[Option.some.injEq] at h
   subst h
   unfold thrO at hl
   cases h2:thrE [] l with
   | none=>rw[h2] at hl;simp at hl
   | some p =>
    rw[h2] at hl
    simp at hl
    have:=thrE_at l [] h2
    exact ⟨0,l,by omega,rfl,by omega,by simp at this;omega⟩
theorem checkF_at {s:PS} (ag:Agree s) (h0:(checkF s.f).2.2≠0):0≤(checkF s.f).1→(checkF s.f).1≠s.f.thr.length→0≤(checkF s.f).2.1∧∃ln,s.lines[(checkF s.f).1.toNat]?=some ln∧(checkF s.f).2.1.toNat<ln.length:=by
 unfold checkF at h0⊢
 cases ha:allO s.f with
 | none=>rw[ha] at h0;simp at h0
 | some w =>
  obtain ⟨a,b,e⟩:=w
  simp only[Option.getD_some]
  intro g1 g2
  unfold allO at ha
  cases h1:headO s.f with
  | some w =>
   rw[h1] at ha
   simp only[Option.some.injEq] at ha
   subst ha
   unfold headO at h1
   split at h1
   ·cases h1
   ·simp at h1;omega
  | none =>
   rw[h1] at ha
   simp only at ha
   cases h2:thsO 0 s.f.thr with
   | some w =>
    rw[h2] at ha
    simp only[Option.some.injEq] at ha
    subst ha
    obtain ⟨k,l,e1,e2,e3,e4⟩:=thsO_at _ _ h2
    obtain rfl:a=(k:Int):=by omega
    have hm:(s.lines.map List.length)[k]?=some l.length:=by rw[ag.same,List.getElem?_map,e2];rfl
    rw[List.getElem?_map] at hm
    cases h3:s.lines[k]? with
    | none=>rw[h3] at hm;cases hm
    | some ln =>
     rw[h3] at hm
     simp at hm
     exact ⟨e3,ln,by rw[Int.toNat_natCast];exact h3,by omega⟩
   | none =>
    rw[h2] at ha
    simp only at ha
    cases h3:conO s.f with
    | some w =>
     rw[h3] at ha
     simp only[Option.some.injEq] at ha
     subst ha
     unfold conO at h3
     cases h4:conE s.f.thr.length 0 s.f.cond with
     | none=>rw[h4] at h3;simp at h3
     | some p=>rw[h4] at h3;simp at h3;omega
    | none =>
     rw[h3] at ha
     simp only at ha
     unfold locO at ha
     split at ha
     ·simp at ha;omega
     ·cases ha
end Go.Proofs.YtmapdjdnnhlpiaaGreatDoor
namespace Go.Proofs.YtmapdjdnnhlpiaaGreatDoor
open Go.RowKit
set_option maxRecDepth 8000
structure NmA (f:Fl):Prop where
 i:∀c∈f.init,c.1.length≤1000000
 t:∀l∈f.thr,∀x∈l,x.loc.length≤1000000
 c:∀a∈f.cond,a.nm.length≤1000000
theorem NmA.ok {f:Fl} (h:NmA f):∀y∈locL f,y.length≤1000000:=fun y hy=>by
 rw[locL_eq,List.mem_append,List.mem_append] at hy
 rcases hy with (hy | hy) | hy
 ·obtain ⟨c,hc,rfl⟩:=List.mem_map.1 hy
  exact h.i c hc
 ·obtain ⟨l,hl,hy⟩:=List.mem_flatMap.1 hy
  obtain ⟨x,hx,rfl⟩:=List.mem_map.1 (List.mem_filter.1 hy).1
  exact h.t l hl x hx
 ·obtain ⟨a,ha,rfl⟩:=List.mem_map.1 hy
  exact h.c a (List.mem_filter.1 ha).1
def NmOk (s:PS):Prop:=NmA s.f
theorem pS0_nm:NmOk pS0:=⟨fun c hc=>by simp[pS0,noFl] at hc,fun c hc=>by simp[pS0,noFl] at hc,fun c hc=>by simp[pS0,noFl] at hc⟩
theorem okF_of {s:PS} (hN:NmOk s) (ht:totF s≤100000):OkF s.f:=by
 unfold totF at ht
 refine ⟨by omega,by omega,by omega,fun l hl=>?_,?_,hN.ok⟩
 ·have:=sum_mem (List.mem_map.2 ⟨l,hl,rfl⟩:l.length∈s.f.thr.map List.length)
  omega
 ·have hfl:∀r:List (List LT),(r.flatMap lineL).length≤(r.map List.length).sum:=fun r=>by
   induction r with
   | nil=>simp
   | cons a r ih =>
    have:=lineL_len a
    simp only[List.flatMap_cons,List.length_append,List.map_cons,List.sum_cons]
    omega
  have h1:=hfl s.f.thr
  have h2:=condL_len s.f.cond
  rw[locL_eq,List.length_append,List.length_append,List.length_map]
  omega
theorem insB_len (s:List UInt8):(insB s).length≤s.length:=by
 unfold insB
 split
 ·rw[List.length_take,List.length_drop];omega
 ·simp
theorem guessB_loc:∀w:List (List UInt8),(∀x∈w,x.length≤1000000)→(guessB w).loc.length≤1000000
 | [],_=>by simp[guessB,zeroL]
 | [k],_=>by
  simp only[guessB]
  repeat' split
  all_goals exact Nat.zero_le _
 | [k,l],_=>by
  simp only[guessB]
  repeat' split
  all_goals exact Nat.zero_le _
 | [k,a,b],h=>by
  have h1:=insB_len a
  have h2:=insB_len b
  have h3:=h a (by simp)
  have h4:=h b (by simp)
  have hm:(moveB a b).loc.length≤1000000:=by
   unfold moveB
   repeat' split
   all_goals first | exact Nat.le_trans h1 h3 | exact Nat.le_trans h2 h4 | exact Nat.zero_le _
  simp only[guessB]
  repeat' split
  all_goals first | exact hm | exact Nat.le_trans h1 h3 | exact Nat.zero_le _
 | _::_::_::_::_,_=>by simp[guessB,zeroL]
theorem getB_loc {w:List (List UInt8)} (h:∀x∈w,x.length≤1000000):(getB w).1.loc.length≤1000000:=by
 unfold getB
 split
 ·exact guessB_loc w h
 ·simp[zeroL]
theorem headA_nm {l:List UInt8} {th:Int} {nm:List UInt8} (h:headA l=some (th,nm)):nm.length≤l.length:=by
 have h2:=(cut_len 58 l).2
 unfold headA at h
 split at h
 ·split at h
  ·simp only[Option.some.injEq,Prod.mk.injEq] at h
   rw[←h.2];exact h2
  ·cases h
 ·simp only[Option.some.injEq,Prod.mk.injEq] at h
  rw[←h.2];exact Nat.le_refl _
theorem atomB_nm (s:List UInt8):(atomB s).1.nm.length≤s.length:=by
 have h1:=(cut_len 61 s).1
 unfold atomB
 split
 ·exact Nat.zero_le _
 ·rename_i th nm he
  have:=headA_nm he
  split
  ·exact Nat.le_trans this h1
  ·exact Nat.zero_le _
theorem cellsF_loc:∀(w:List (List UInt8)),(∀x∈w,x.length≤1000000)→∀c∈(cellsF w).1,c.1.length≤1000000
 | [],_,c,hc=>by simp[cellsF] at hc
 | [_],_,c,hc=>by simp[cellsF] at hc
 | a::b::r,h,c,hc=>by
  rw[cellsF] at hc
  split at hc
  ·simp at hc
  ·rcases List.mem_cons.1 hc with rfl | hc
   ·exact h a (by simp)
   ·exact cellsF_loc r (fun x hx=>h x (by simp[hx])) c hc
theorem atomsF_nm:∀(w:List (List UInt8)),(∀x∈w,x.length≤1000000)→∀c∈(atomsF w).1,c.nm.length≤1000000
 | [],_,c,hc=>by simp[atomsF] at hc
 | a::r,h,c,hc=>by
  rw[atomsF] at hc
  split at hc
  ·simp at hc
  ·rcases List.mem_cons.1 hc with rfl | hc
   ·exact Nat.le_trans (atomB_nm a) (h a (by simp))
   ·exact atomsF_nm r (fun x hx=>h x (by simp[hx])) c hc
theorem readF_nm {s:PS} {w:List (List UInt8)} {at_:Int} (hw:∀x∈w,x.length≤1000000) (h:NmOk s):NmOk (readF s w at_).1:=by
 have hd:∀x∈w.drop 1,x.length≤1000000:=fun x hx=>hw x (List.mem_of_mem_drop hx)
 have thr:NmOk (threadF s w).1:=by
  unfold threadF
  split
  ·exact ⟨h.i,fun l hl=>by
    rcases List.mem_append.1 hl with hl | hl
    ·exact h.t l hl
    ·simp at hl;subst hl;simp,h.c⟩
  ·exact h
 unfold readF
 split
 ·unfold headF;split
  ·exact ⟨h.i,h.t,h.c⟩
  ·exact h
 split
 ·unfold startF;split
  ·exact ⟨fun c hc=>by
    rcases List.mem_append.1 hc with hc | hc
    ·exact h.i c hc
    ·exact cellsF_loc _ hd c hc,h.t,h.c⟩
  ·exact ⟨h.i,h.t,h.c⟩
 split
 ·unfold bodyF
  split
  ·exact ⟨h.i,h.t,fun c hc=>by
    rcases List.mem_append.1 hc with hc | hc
    ·exact h.c c hc
    ·exact atomsF_nm _ hd c hc⟩
  ·split
   ·exact thr
   ·refine ⟨h.i,fun l hl x hx=>?_,h.c⟩
    have hl:l∈s.f.thr.dropLast++[(s.f.thr.getLast?.getD [])++[(getB w).1]]:=hl
    rcases List.mem_append.1 hl with hl | hl
    ·exact h.t l (List.dropLast_subset _ hl) x hx
    ·rw[List.mem_singleton] at hl
     subst hl
     rcases List.mem_append.1 hx with hx | hx
     ·cases hg:s.f.thr.getLast? with
      | none=>rw[hg] at hx;simp at hx
      | some l=>rw[hg] at hx;exact h.t l (List.mem_of_getLast? hg) x hx
     ·rw[List.mem_singleton] at hx
      subst hx
      exact getB_loc hw
 split
 ·exact thr
 ·exact h
end Go.Proofs.YtmapdjdnnhlpiaaGreatDoor
namespace Go.Proofs.YtmapdjdnnhlpiaaGreatDoor
open Go.RowKit
set_option maxRecDepth 8000
theorem pZero {N:Nat} {T:Nat→HV} {rest:Heap}:Ghost N 0 T (some zO::some ⟨58,9,[[.v (str []),.v (.slice none 0 0),.v (.slice none 0 0),.v (.bool false),.v (.slice none 0 0),.v (.int .i64 0),.v (.slice none 0 0),.v (.int .i64 0),.v (.int .i64 0)]]⟩::rest) T (some zO::some (pO pS0)::rest):=by
 have g1:=Ghost.cell (N:=N) (L:=0) (T:=T) (H:=some zO::some ⟨58,9,[[.v (str []),.v (.slice none 0 0),.v (.slice none 0 0),.v (.bool false),.v (.slice none 0 0),.v (.int .i64 0),.v (.slice none 0 0),.v (.int .i64 0),.v (.int .i64 0)]]⟩::rest) 1 0 1 (.ow 44 2 (cls [])) rfl rfl rfl rfl (Conv.nilOw _ _) (by simp)
 have g2:=g1.trans (Ghost.cell 1 0 2 (.ow 47 1 (towR [])) rfl rfl rfl rfl (Conv.nilOw _ _) (by simp))
 have g3:=g2.trans (Ghost.cell 1 0 4 (.ow 53 3 (ats [])) rfl rfl rfl rfl (Conv.nilOw _ _) (by simp))
 have g4:=g3.trans (Ghost.cell 1 0 6 (.ow 38 1 (lowR [])) rfl rfl rfl rfl (Conv.nilOw _ _) (by simp))
 exact g4
abbrev parV (r:Fl×Int×Int):HV:=.tu [fileH r.1,.v (.int .i64 r.2.1),.v (.int .i64 r.2.2)]
set_option maxHeartbeats 8000000 in
theorem parseParse (s:List UInt8) (hs:s.length≤1000000):HFn Tryz.prog 10 [.v (str s)] (parV (parseF s)):=by
 refine HCalls.conv (Q:=fun x _=>x=parV (parseF s)∨((parseF s).1=noFl∧x=.tu [zH,.v (.int .i64 (parseF s).2.1),.v (.int .i64 (parseF s).2.2)])) ?_ ?_
 rotate_left
 ·rintro x H' (rfl | ⟨h,rfl⟩)
  ·exact ⟨_,rfl,.inl rfl⟩
  ·refine ⟨_,rfl,.inr ⟨rfl,?_⟩⟩
   rw[parV,h]
   exact Conv.noFile _ _
 by_cases h4:4000<s.length
 ·have h4' : ((4000:Int)<(s.length:Int))=True:=by simp only[eq_iff_iff,iff_true];omega
  have e:parseF s=(noFl,0,5):=by unfold parseF;rw[if_pos h4]
  rw[e]
  refine HCalls_bodyC (fn:=Tryz.f10) 78 [.cell 2 27,.tmp 3,.tmp 4] (by kernel_rfl) rfl rfl (by kernel_rfl) (HW.run 400 (by kernel_rfl) ?_)
  simp (config:={ decide:=true }) only[go_sem,Int.reduceToNat,Nat.reduceAdd,Nat.reduceSub,Nat.reduceMul,Nat.reduceBEq,reduceIte,reduceCtorEq,h4']
  first | exact .inr trivial | exact .inr ⟨rfl,rfl⟩ | trivial
 have h4' : ((4000:Int)<(s.length:Int))=False:=by simp only[eq_iff_iff,iff_false];omega
 have eP:parseF s=match (linesF pS0 0 (linesB s)).2 with
  | some n=>(noFl,(n:Int),11)
  | none=>finF (linesF pS0 0 (linesB s)).1 (linesB s).length:=by
  unfold parseF
  rw[if_neg h4]
  try (cases (linesF pS0 0 (linesB s)).2 <;> rfl)
 have hll:(linesB s).length≤s.length+1:=by
  refine Nat.le_trans ?_ (cutB_length 10 s)
  unfold linesB
  split
  ·rw[List.length_dropLast];omega
  ·exact Nat.le_refl _
 have hsw:=sumW_lines s
 have hmem:∀x∈linesB s,x.length≤4000:=fun x hx=>Nat.le_trans (line_len hx) (by omega)
 generalize parseF s=R at eP
 refine HCalls_bodyC (fn:=Tryz.f10) 78 [.cell 2 27,.tmp 3,.tmp 4] (by kernel_rfl) rfl rfl (by kernel_rfl) (HW.run 400 (by kernel_rfl) ?_)
 simp (config:={ decide:=true }) only[go_sem,Int.reduceToNat,Nat.reduceAdd,Nat.reduceSub,Nat.reduceMul,Nat.reduceBEq,reduceIte,reduceCtorEq,h4']
 refine callX_nm (linesS s hs) rfl rfl ?_
 simp (config:={ decide:=true }) only[go_sem,Int.reduceToNat,Nat.reduceAdd,Nat.reduceSub,Nat.reduceMul,Nat.reduceBEq,reduceIte,reduceCtorEq]
 generalize linesB s=L at *
 refine HW.loopG (fun k T H=>∃(i:Nat) (st:PS),k=L.length-i∧i≤L.length∧Agree st∧NmOk st∧totF st+sumW (L.drop i)≤4000∧linesF pS0 0 L=linesF st i (L.drop i)∧T 2=.pt 0 1 0 0∧T 5=.pt 1 1 0 0∧T 6=.fn (4294967296+22) [.pt 1 1 0 0]∧T 7=.sl (strs L)∧T 24=.sl (strs L)∧T 25=.v (.int .i64 L.length)∧T 26=.v (.int .i64 i)∧H=[some zO,some (pO st)]) L.length ⟨_,_,pZero,0,pS0,rfl,by omega,pS0_agree,pS0_nm,by show 0+sumW L≤4000;omega,rfl,rfl,rfl,rfl,rfl,rfl,rfl,rfl,rfl⟩ ?_
 rintro k T H ⟨i,st,rfl,hil,hA,hN,hT,hI,h2,h5,h6,h7,h24,h25,h26,rfl⟩
 by_cases hlt:i<L.length
 ·refine HW.run 200 (by kernel_rfl) ?_
  have hlt' : ((i:Int)<(L.length:Int))=True:=by simp only[eq_iff_iff,iff_true];omega
  have hx:L[i]?=some L[i]:=List.getElem?_eq_getElem hlt
  have hdr:L.drop i=L[i]::L.drop (i+1):=List.drop_eq_getElem_cons hlt
  have hxl:=hmem _ (List.getElem_mem hlt)
  rw[hdr] at hT hI
  rw[linesF] at hI
  generalize L[i]=x at hx hxl hT hI
  have hsum:sumW (x::L.drop (i+1))=(wordsB x).length+sumW (L.drop (i+1)):=rfl
  have hwl:∀y∈wordsB x,y.length≤1000000:=fun y hy=>Nat.le_trans (word_len hy) (by omega)
  have hWx:=wordsS x (by omega)
  have hi1:IntKind.i64.wrap ((i:Int)+1)=((i+1:Nat):Int):=by rw[w64 (by omega) (by omega)];rfl
  simp (config:={ decide:=true }) only[go_sem,Int.reduceToNat,Nat.reduceAdd,Nat.reduceSub,Nat.reduceMul,Nat.reduceBEq,reduceIte,reduceCtorEq,h2,h5,h6,h7,h24,h25,h26,hlt',hx]
  refine callX_nm (hWx) rfl rfl ?_
  generalize wordsB x=w at *
  by_cases hw:w=[]
  ·subst hw
   rw[if_pos rfl] at hI
   simp (config:={ decide:=true }) only[go_sem,Int.reduceToNat,Nat.reduceAdd,Nat.reduceSub,Nat.reduceMul,Nat.reduceBEq,reduceIte,reduceCtorEq,h2,h5,h6,h7,h24,h25,h26]
   refine ⟨_,_,Ghost.refl,L.length-(i+1),by omega,i+1,st,rfl,by omega,hA,hN,by omega,hI,?_,?_,?_,?_,?_,?_,?_,rfl⟩
   all_goals first | (simp (config:={ decide:=true }) only[go_sem,Nat.reduceBEq,reduceIte,h2,h5,h6,h7,h24,h25];done) | (simp (config:={ decide:=true }) only[go_sem,Nat.reduceBEq,reduceIte];rw[w64 (by omega) (by omega)];rfl)
  ·rw[if_neg hw] at hI
   have hw0:((0:Int)<(w.length:Int))=True:=by have:=List.length_pos_iff.2 hw;simp only[eq_iff_iff,iff_true];omega
   have hR:=pRead st w ((i+1:Nat):Int) (hA.ok (by omega)) hw hwl (by omega)
   have hRt:=readF_tot st w ((i+1:Nat):Int) hw hA
   have hRn:=readF_nm (s:=st) (w:=w) (at_:=((i+1:Nat):Int)) hwl hN
   generalize readF st w ((i+1:Nat):Int)=r at hI hR hRt hRn
   simp (config:={ decide:=true }) only[go_sem,Int.reduceToNat,Nat.reduceAdd,Nat.reduceSub,Nat.reduceMul,Nat.reduceBEq,reduceIte,reduceCtorEq,h2,h5,h6,h7,h24,h25,h26,hw0,hi1]
   refine ⟨_,hR,?_⟩
   rintro q H' ⟨rfl,rfl⟩ -
   cases hr:r.2 with
   | true =>
    rw[if_pos hr] at hI
    simp (config:={ decide:=true }) only[go_sem,Int.reduceToNat,Nat.reduceAdd,Nat.reduceSub,Nat.reduceMul,Nat.reduceBEq,reduceIte,reduceCtorEq,h2,h5,h6,h7,h24,h25,h26,hw0,hi1]
    refine ⟨_,_,Ghost.refl,L.length-(i+1),by omega,i+1,r.1,rfl,by omega,hRt.2 hr,hRn,by have:=hRt.1;omega,hI,?_,?_,?_,?_,?_,?_,?_,rfl⟩
    all_goals first | (simp (config:={ decide:=true }) only[go_sem,Nat.reduceBEq,reduceIte,h2,h5,h6,h7,h24,h25];done) | (simp (config:={ decide:=true }) only[go_sem,Nat.reduceBEq,reduceIte,hi1];done) | (simp (config:={ decide:=true }) only[go_sem,Nat.reduceBEq,reduceIte];rw[w64 (by omega) (by omega)];rfl)
   | false =>
    rw[if_neg (by simp[hr])] at hI
    rw[hI] at eP
    simp only at eP
    subst eP
    simp (config:={ decide:=true }) only[go_sem,Int.reduceToNat,Nat.reduceAdd,Nat.reduceSub,Nat.reduceMul,Nat.reduceBEq,reduceIte,reduceCtorEq,h2,h5,h6,h7,h24,h25,h26,hw0,hi1]
    first | exact .inr trivial | exact .inr ⟨rfl,rfl⟩ | trivial
 ·have hlt' : ((i:Int)<(L.length:Int))=False:=by simp only[eq_iff_iff,iff_false];omega
  rw[List.drop_of_length_le (by omega)] at hI
  have hI' : linesF pS0 0 L=(st,none):=hI
  rw[hI'] at eP
  simp only at eP
  unfold finF at eP
  by_cases hn4:st.next=4
  ·rw[if_neg (by simp[hn4])] at eP
   have ok:OkF st.f:=okF_of hN (by omega)
   have hC:=validCheck st.f ok
   have hat:=checkF_at hA
   generalize hc:checkF st.f=c at eP hC hat
   refine HW.ghost (Ghost.freeze 5 1 1 0 0 h5 rfl rfl rfl) ?_
   rw[pO_fzoR]
   refine HW.run 200 (by kernel_rfl) ?_
   simp (config:={ decide:=true }) only[go_sem,Int.reduceToNat,Nat.reduceAdd,Nat.reduceSub,Nat.reduceMul,Nat.reduceBEq,reduceIte,reduceCtorEq,h2,h7,h24,h25,h26,hlt',hn4]
   refine callX_fn 3 (hC) (by simp only[go_sem]) rfl ?_
   by_cases he:c.2.2=0
   ·rw[if_neg (by simp[he])] at eP
    subst eP
    simp (config:={ decide:=true }) only[go_sem,Int.reduceToNat,Nat.reduceAdd,Nat.reduceSub,Nat.reduceMul,Nat.reduceBEq,reduceIte,reduceCtorEq,h2,he]
    first | exact .inl trivial | exact .inl rfl | trivial | skip
   ·rw[if_pos he] at eP
    subst eP
    simp (config:={ decide:=true }) only[go_sem,Int.reduceToNat,Nat.reduceAdd,Nat.reduceSub,Nat.reduceMul,Nat.reduceBEq,reduceIte,reduceCtorEq,h2,he]
    refine callX_fn 3 (pWhere st c.1 c.2.1 (hat he)) (by simp only[go_sem]) rfl ?_
    simp (config:={ decide:=true }) only[go_sem,Int.reduceToNat,Nat.reduceAdd,Nat.reduceSub,Nat.reduceMul,Nat.reduceBEq,reduceIte,reduceCtorEq,h2]
    first | exact .inr trivial | exact .inr ⟨rfl,rfl⟩ | trivial
  ·rw[if_pos hn4] at eP
   subst eP
   have hL1:IntKind.i64.wrap ((L.length:Int)+1)=((L.length+1:Nat):Int):=by rw[w64 (by omega) (by omega)];rfl
   refine HW.run 200 (by kernel_rfl) ?_
   simp (config:={ decide:=true }) only[go_sem,Int.reduceToNat,Nat.reduceAdd,Nat.reduceSub,Nat.reduceMul,Nat.reduceBEq,reduceIte,reduceCtorEq,h2,h5,h7,h24,h25,h26,hlt',hn4,hL1]
   first | exact .inr trivial | exact .inr ⟨rfl,rfl⟩ | trivial
end Go.Proofs.YtmapdjdnnhlpiaaGreatDoor
namespace Go.Proofs.YtmapdjdnnhlpiaaGreatDoor
open Go.RowKit
set_option maxRecDepth 8000
end Go.Proofs.YtmapdjdnnhlpiaaGreatDoor
namespace Go.Proofs.YtmapdjdnnhlpiaaGreatDoor
open Go.RowKit
set_option maxRecDepth 8000
theorem regB_cases (s:List UInt8):(regB s = -1)∨(0≤regB s∧regB s<4∧regNm (regB s)=s):=by
 unfold regB
 split
 ·rename_i h;exact .inr ⟨by decide,by decide,h.symm⟩
 split
 ·rename_i h;exact .inr ⟨by decide,by decide,h.symm⟩
 split
 ·rename_i h;exact .inr ⟨by decide,by decide,h.symm⟩
 split
 ·rename_i h;exact .inr ⟨by decide,by decide,h.symm⟩
 exact .inl rfl
end Go.Proofs.YtmapdjdnnhlpiaaGreatDoor
namespace Go.Proofs.YtmapdjdnnhlpiaaGreatDoor
open Go.RowKit
set_option maxRecDepth 8000
theorem linesB_length (s:List UInt8):(linesB s).length≤s.length+1:=by
 have:=cutB_length 10 s
 unfold linesB
 split
 ·simp;omega
 ·omega
end Go.Proofs.YtmapdjdnnhlpiaaGreatDoor
namespace Go.Proofs.YtmapdjdnnhlpiaaGreatDoor
set_option maxRecDepth 8000
structure GoodF (f:Fl):Prop where
 i:∀c∈f.init,inI c.2
 t:∀l∈f.thr,∀x∈l,x.right=true∧inI x.n
 c:∀a∈f.cond,a.asked=true∧inI a.n
theorem good0:GoodF pS0.f:=⟨fun c hc=>by simp[pS0,noFl] at hc,fun c hc=>by simp[pS0,noFl] at hc,fun c hc=>by simp[pS0,noFl] at hc⟩
theorem cells_good:∀w:List (List UInt8),∀c∈(cellsF w).1,inI c.2
 | [],c,hc=>by simp[cellsF] at hc
 | [_],c,hc=>by simp[cellsF] at hc
 | a::b::r,c,hc=>by
  rw[cellsF] at hc
  split at hc
  ·simp at hc
  ·rename_i hb
   rcases List.mem_cons.1 hc with rfl | hc
   ·exact numB_inI b
   ·exact cells_good r c hc
theorem atoms_good:∀w:List (List UInt8),∀a∈(atomsF w).1,a.asked=true∧inI a.n
 | [],c,hc=>by simp[atomsF] at hc
 | x::r,c,hc=>by
  rw[atomsF] at hc
  split at hc
  ·simp at hc
  ·rename_i hb
   rcases List.mem_cons.1 hc with rfl | hc
   ·have:=word_atom (s:=x) (a:=(atomB x).1) (by cases h:atomB x with | mk a b=>rw[h] at hb;simp at hb;simp[hb])
    exact ⟨this.1,this.2.2⟩
   ·exact atoms_good r c hc
theorem thread_good {s:PS} {w:List (List UInt8)} (h:GoodF s.f):GoodF (threadF s w).1.f:=by
 unfold threadF
 split
 ·exact ⟨h.i,fun l hl=>by
   rcases List.mem_append.1 hl with hl | hl
   ·exact h.t l hl
   ·simp at hl;subst hl;simp,h.c⟩
 ·exact h
theorem read_good {s:PS} {w:List (List UInt8)} {at_:Int} (h:GoodF s.f) (hr:(readF s w at_).2=true):GoodF (readF s w at_).1.f:=by
 unfold readF at hr⊢
 split
 ·unfold headF;split
  ·exact ⟨h.i,h.t,h.c⟩
  ·exact h
 rename_i n0
 rw[if_neg n0] at hr
 split
 ·unfold startF;split
  ·exact ⟨fun c hc=>by
    rcases List.mem_append.1 hc with hc | hc
    ·exact h.i c hc
    ·exact cells_good _ c hc,h.t,h.c⟩
  ·exact ⟨h.i,h.t,h.c⟩
 rename_i n1
 rw[if_neg n1] at hr
 split
 ·rename_i n3
  rw[if_pos n3] at hr
  unfold bodyF at hr⊢
  split
  ·exact ⟨h.i,h.t,fun c hc=>by
    rcases List.mem_append.1 hc with hc | hc
    ·exact h.c c hc
    ·exact atoms_good _ c hc⟩
  rename_i k1
  rw[if_neg k1] at hr
  split
  ·exact thread_good h
  ·rename_i k2
   rw[if_neg k2] at hr
   have hr:(getB w).2=true:=hr
   have hg:=words_get (w:=w) (l:=(getB w).1) (by cases h:getB w with | mk a b=>rw[h] at hr;simp at hr;simp[hr])
   refine ⟨h.i,fun l hl x hx=>?_,h.c⟩
   have hl:l∈s.f.thr.dropLast++[(s.f.thr.getLast?.getD [])++[(getB w).1]]:=hl
   rcases List.mem_append.1 hl with hl | hl
   ·exact h.t l (List.dropLast_subset _ hl) x hx
   ·rw[List.mem_singleton] at hl
    subst hl
    rcases List.mem_append.1 hx with hx | hx
    ·cases hg:s.f.thr.getLast? with
     | none=>rw[hg] at hx;simp at hx
     | some l=>rw[hg] at hx;exact h.t l (List.mem_of_getLast? hg) x hx
    ·rw[List.mem_singleton] at hx
     subst hx
     exact ⟨hg.1,hg.2.2⟩
 split
 ·exact thread_good h
 ·exact h
theorem lines_at_:∀(l:List (List UInt8)) (s:PS) (k n:Nat),(linesF s k l).2=some n→k<n∧n≤k+l.length
 | [],s,k,n,h=>by simp[linesF] at h
 | x::l,s,k,n,h=>by
  rw[linesF] at h
  simp only[List.length_cons]
  split at h
  ·have:=lines_at_ l _ _ _ h;omega
  ·split at h
   ·have:=lines_at_ l _ _ _ h;omega
   ·simp at h;omega
end Go.Proofs.YtmapdjdnnhlpiaaGreatDoor
namespace Go.Proofs.YtmapdjdnnhlpiaaGreatDoor
open Go.RowKit
set_option maxRecDepth 8000
def insB2 (op:Int):Bool:=decide (op≠6) && decide (op≠11)
def jumB (op:Int):Bool:=decide (8≤op) && decide (op≤10)
theorem refInstr (x:LT):HFn Tryz.prog 50 [lineT x] (.v (.bool (insB2 x.op))):=by
 unfold insB2
 refine HCalls_body (fn:=Tryz.f50) 11 [2] (by kernel_rfl) rfl (by kernel_rfl) (HW.run 400 (by kernel_rfl) ?_)
 by_cases h1:x.op=6
 ·simp (config:={ decide:=true }) only[go_sem,Int.reduceToNat,Nat.reduceAdd,Nat.reduceSub,Nat.reduceMul,Nat.reduceBEq,reduceIte,reduceCtorEq,h1]
  try rfl
 ·by_cases h2:x.op=11
  ·simp (config:={ decide:=true }) only[go_sem,Int.reduceToNat,Nat.reduceAdd,Nat.reduceSub,Nat.reduceMul,Nat.reduceBEq,reduceIte,reduceCtorEq,h1,h2]
   try rfl
  ·simp (config:={ decide:=true }) only[go_sem,Int.reduceToNat,Nat.reduceAdd,Nat.reduceSub,Nat.reduceMul,Nat.reduceBEq,reduceIte,reduceCtorEq,h1,h2]
   try simp[h1,h2]
theorem refJump (x:LT):HFn Tryz.prog 49 [lineT x] (.v (.bool (jumB x.op))):=by
 unfold jumB
 refine HCalls_body (fn:=Tryz.f49) 11 [2] (by kernel_rfl) rfl (by kernel_rfl) (HW.run 400 (by kernel_rfl) ?_)
 by_cases h1:8≤x.op
 ·by_cases h2:x.op≤10
  ·simp (config:={ decide:=true }) only[go_sem,Int.reduceToNat,Nat.reduceAdd,Nat.reduceSub,Nat.reduceMul,Nat.reduceBEq,reduceIte,reduceCtorEq,h1,h2]
   try simp[h1,h2]
  ·simp (config:={ decide:=true }) only[go_sem,Int.reduceToNat,Nat.reduceAdd,Nat.reduceSub,Nat.reduceMul,Nat.reduceBEq,reduceIte,reduceCtorEq,h1,h2]
   try simp[h1,h2]
 ·simp (config:={ decide:=true }) only[go_sem,Int.reduceToNat,Nat.reduceAdd,Nat.reduceSub,Nat.reduceMul,Nat.reduceBEq,reduceIte,reduceCtorEq,h1]
  try simp[h1]
theorem refLabels (l:List LT) (s:List UInt8) (hl:l.length≤1000000):HFn Tryz.prog 48 [.sl (lns l),.v (str s)] (.v (.int .i64 (labN s l))):=by
 refine HCalls_body (fn:=Tryz.f48) 31 [4] (by kernel_rfl) rfl (by kernel_rfl) (HW.run 400 (by kernel_rfl) ?_)
 simp (config:={ decide:=true }) only[go_sem,Int.reduceToNat,Nat.reduceAdd,Nat.reduceSub,Nat.reduceMul,Nat.reduceBEq,reduceIte,reduceCtorEq]
 refine HW.loopG (fun k T H=>∃i:Nat,k=l.length-i∧i≤l.length∧T 0=.sl (lns l)∧T 1=.v (str s)∧T 5=.v (.int .i64 (labN s (l.take i)))∧T 6=.v (.int .i64 i)∧H=[]) l.length ⟨_,_,Ghost.refl,0,rfl,by omega,rfl,rfl,rfl,rfl,rfl⟩ ?_
 rintro k T H ⟨i,rfl,hi,h0,h1,h5,h6,rfl⟩
 refine HW.run 200 (by kernel_rfl) ?_
 by_cases hlt:i<l.length
 ·have hlt' : ((i:Int)<(l.length:Int))=True:=by simp only[eq_iff_iff,iff_true];omega
  have hx:l[i]?=some l[i]:=List.getElem?_eq_getElem hlt
  have htk:l.take (i+1)=l.take i++[l[i]]:=by rw[List.take_add_one,hx];rfl
  have hle:=fun s=>labN_snoc s l[i] (l.take i)
  generalize l[i]=x at hx htk hle
  have hn:=Nat.le_trans (List.length_filter_le (fun x=>decide (x.op=11) && decide (x.lab=s)) (l.take i)) (List.length_take_le _ _)
  have hn:labN s (l.take i)≤i:=hn
  have hw1:IntKind.i64.wrap ((labN s (l.take i):Int)+1)=((labN s (l.take i)+1:Nat):Int):=by rw[w64 (by omega) (by omega)];rfl
  by_cases h11:x.op=11
  ·by_cases hs:x.lab=s
   ·simp (config:={ decide:=true }) only[go_sem,Int.reduceToNat,Nat.reduceAdd,Nat.reduceSub,Nat.reduceMul,Nat.reduceBEq,reduceIte,reduceCtorEq,h0,h1,h5,h6,hlt',hx,lnrow,h11,hs,hw1]
    repeat (with_reducible refine And.intro ?_ ?_;·(with_reducible and_intros) <;> omega)
    refine ⟨_,_,Ghost.refl,l.length-(i+1),by omega,i+1,rfl,by omega,?_,?_,?_,?_,rfl⟩
    all_goals first | (simp (config:={ decide:=true }) only[go_sem,Nat.reduceBEq,reduceIte,h0,h1];done) | (simp (config:={ decide:=true }) only[go_sem,Nat.reduceBEq,reduceIte];rw[w64 (by omega) (by omega)];rfl) | (simp (config:={ decide:=true }) only[go_sem,Nat.reduceBEq,reduceIte];rw[htk,hle,if_pos ⟨h11,hs⟩])
   ·simp (config:={ decide:=true }) only[go_sem,Int.reduceToNat,Nat.reduceAdd,Nat.reduceSub,Nat.reduceMul,Nat.reduceBEq,reduceIte,reduceCtorEq,h0,h1,h5,h6,hlt',hx,lnrow,h11,hs]
    repeat (with_reducible refine And.intro ?_ ?_;·(with_reducible and_intros) <;> omega)
    refine ⟨_,_,Ghost.refl,l.length-(i+1),by omega,i+1,rfl,by omega,?_,?_,?_,?_,rfl⟩
    all_goals first | (simp (config:={ decide:=true }) only[go_sem,Nat.reduceBEq,reduceIte,h0,h1];done) | (simp (config:={ decide:=true }) only[go_sem,Nat.reduceBEq,reduceIte];rw[w64 (by omega) (by omega)];rfl) | (simp (config:={ decide:=true }) only[go_sem,Nat.reduceBEq,reduceIte,h5];rw[htk,hle,if_neg (fun h=>hs h.2)];rfl)
  ·simp (config:={ decide:=true }) only[go_sem,Int.reduceToNat,Nat.reduceAdd,Nat.reduceSub,Nat.reduceMul,Nat.reduceBEq,reduceIte,reduceCtorEq,h0,h1,h5,h6,hlt',hx,lnrow,h11]
   repeat (with_reducible refine And.intro ?_ ?_;·(with_reducible and_intros) <;> omega)
   refine ⟨_,_,Ghost.refl,l.length-(i+1),by omega,i+1,rfl,by omega,?_,?_,?_,?_,rfl⟩
   all_goals first | (simp (config:={ decide:=true }) only[go_sem,Nat.reduceBEq,reduceIte,h0,h1];done) | (simp (config:={ decide:=true }) only[go_sem,Nat.reduceBEq,reduceIte];rw[w64 (by omega) (by omega)];rfl) | (simp (config:={ decide:=true }) only[go_sem,Nat.reduceBEq,reduceIte,h5];rw[htk,hle,if_neg (fun h=>h11 h.1)];rfl)
 ·have hlt' : ((i:Int)<(l.length:Int))=False:=by simp only[eq_iff_iff,iff_false];omega
  have htk:l.take i=l:=List.take_of_length_le (by omega)
  simp (config:={ decide:=true }) only[go_sem,Int.reduceToNat,Nat.reduceAdd,Nat.reduceSub,Nat.reduceMul,Nat.reduceBEq,reduceIte,reduceCtorEq,h0,h1,h5,h6,hlt',htk]
end Go.Proofs.YtmapdjdnnhlpiaaGreatDoor
