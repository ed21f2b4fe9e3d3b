/- Parts of the proof: Ng, Nc, Nf, Nh, HiDk, Ni, Nj, Nk, Nm, Nn. -/
import Derived.Test.YtmapdjdnnhlpiaaGreatDoorZs11
import Derived.Test.YtmapdjdnnhlpiaaGreatDoorZs10
import Derived.Test.YtmapdjdnnhlpiaaGreatDoorZs07
import Derived.WalkKit
import Derived.LaidEql
import Derived.Stop.Asserts
import Derived.RowKitTokens
set_option linter.unusedSectionVars false
set_option linter.unusedVariables false
set_option linter.unusedSimpArgs false
namespace Go.Proofs.YtmapdjdnnhlpiaaGreatDoor
open Go.RowKit
set_option maxRecDepth 8000
def lineL (l:List LT):List (List UInt8):=(l.map (·.loc)).filter fun s=>decide (s≠[])
def condL (l:List AT):List (List UInt8):=(l.filter fun a=>decide (a.th = -1)).map (·.nm)
theorem lineL_snoc (l:List LT) (x:LT):lineL (l++[x])=if x.loc=[] then lineL l else lineL l++[x.loc]:=by
 unfold lineL
 by_cases h:x.loc=[] <;> simp[h,List.filter_append]
theorem condL_snoc (l:List AT) (x:AT):condL (l++[x])=if x.th = -1 then condL l++[x.nm] else condL l:=by
 unfold condL
 by_cases h:x.th = -1 <;> simp[h,List.filter_append]
theorem locL_eq (f:Fl):locL f=f.init.map (·.1)++f.thr.flatMap lineL++condL f.cond:=rfl
theorem lineL_len (l:List LT):(lineL l).length≤l.length:=by
 unfold lineL
 exact Nat.le_trans (List.length_filter_le _ _) (by simp)
theorem condL_len (l:List AT):(condL l).length≤l.length:=by
 unfold condL
 rw[List.length_map]
 exact List.length_filter_le _ _
theorem flatL_take (l:List (List LT)) (t:Nat):((l.take t).flatMap lineL).length≤(l.flatMap lineL).length:=by
 have:l.flatMap lineL=(l.take t).flatMap lineL++(l.drop t).flatMap lineL:=by rw[←List.flatMap_append,List.take_append_drop]
 rw[this,List.length_append];omega
set_option maxHeartbeats 16000000 in
theorem validLocs (f:Fl) (hB:(locL f).length≤1000000) (hi:f.init.length≤1000000) (ht:f.thr.length≤1000000) (hc:f.cond.length≤1000000) (hl:∀l∈f.thr,l.length≤1000000) (hn:∀s∈locL f,s.length≤1000000) :
  HFn Tryz.prog 66 [fileH f] (owStrs (sortedMS (foldC [] (locL f)))):=by
 rw[locL_eq] at hB hn⊢
 simp only[List.length_append] at hB
 refine HCalls_body (fn:=Tryz.f66) 69 [2] (by kernel_rfl) rfl (by kernel_rfl) (HW.run 400 (by kernel_rfl) ?_)
 simp (config:={ decide:=true }) only[go_sem,Int.reduceToNat,Nat.reduceAdd,Nat.reduceSub,Nat.reduceMul,Nat.reduceBEq,reduceIte,reduceCtorEq]
 refine HW.loopG (fun k T H=>∃(i:Nat),k=f.init.length-i∧i≤f.init.length∧T 1=.pt 0 1 0 0∧T 3=.mp 1∧T 14=.sl (cls f.init)∧T 15=.v (.int .i64 f.init.length)∧T 16=.v (.int .i64 i)∧H=[some (fileO f),some (mapS (foldC [] ((f.init.take i).map (·.1))))]) f.init.length ⟨_,_,Ghost.refl,0,rfl,by omega,rfl,rfl,rfl,rfl,rfl,rfl⟩ ?_
 rintro k T H ⟨i,rfl,hil,h1,h3,h14,h15,h16,rfl⟩
 refine HW.run 200 (by kernel_rfl) ?_
 by_cases hlt:i<f.init.length
 ·have hlt' : ((i:Int)<(f.init.length:Int))=True:=by simp only[eq_iff_iff,iff_true];omega
  have hx:f.init[i]?=some f.init[i]:=List.getElem?_eq_getElem hlt
  have htk:f.init.take (i+1)=f.init.take i++[f.init[i]]:=by rw[List.take_add_one,hx];rfl
  generalize f.init[i]=c at hx htk
  have hg:=getM_foldC0 ((f.init.take i).map (·.1)) c.1
  rw[List.length_map,List.length_take] at hg
  have hw:IntKind.i64.wrap (getM (foldC [] ((f.init.take i).map (·.1))) c.1+1)=getM (foldC [] ((f.init.take i).map (·.1))) c.1+1:=w64 (by omega) (by omega)
  simp (config:={ decide:=true }) only[go_sem,Int.reduceToNat,Nat.reduceAdd,Nat.reduceSub,Nat.reduceMul,Nat.reduceBEq,reduceIte,reduceCtorEq,h1,h3,h14,h15,h16,hlt',hx,crow,hw]
  refine ⟨_,_,Ghost.trunc [1,3,14,15,16] 2 (by omega) ?_ ?_,f.init.length-(i+1),by omega,i+1,rfl,by omega,?_,?_,?_,?_,?_,?_⟩
  iterate 6 first | (simp (config:={ decide:=true }) only[go_sem,Nat.reduceBEq,reduceIte,h1,h3,h14,h15,h16];done) | skip
  all_goals first | (simp (config:={ decide:=true }) only[go_sem,Nat.reduceBEq,reduceIte,h1,h3,h14,h15,h16];done) | (simp (config:={ decide:=true }) only[go_sem,Nat.reduceBEq,reduceIte];rw[w64 (by omega) (by omega)];rfl) | (rw[htk,List.map_append,List.map_cons,List.map_nil,foldC_snoc];rfl)
 ·have hlt' : ((i:Int)<(f.init.length:Int))=False:=by simp only[eq_iff_iff,iff_false];omega
  obtain rfl:i=f.init.length:=by omega
  rw[List.take_length]
  simp (config:={ decide:=true }) only[go_sem,Int.reduceToNat,Nat.reduceAdd,Nat.reduceSub,Nat.reduceMul,Nat.reduceBEq,reduceIte,reduceCtorEq,h1,h3,h14,h15,h16,hlt']
  generalize hA:f.init.map (·.1)=A at hB hn
  have hAl:A.length≤1000000:=by rw[←hA,List.length_map];exact hi
  refine HW.loopG (fun k T H=>∃(i:Nat),k=f.thr.length-i∧i≤f.thr.length∧T 1=.pt 0 1 0 0∧T 3=.mp 1∧T 27=.sl (tds f.thr)∧T 28=.v (.int .i64 f.thr.length)∧T 29=.v (.int .i64 i)∧H=[some (fileO f),some (mapS (foldC [] (A++(f.thr.take i).flatMap lineL)))]) f.thr.length ⟨_,_,Ghost.refl,0,rfl,by omega,by simp (config:={ decide:=true }) only[go_sem,Nat.reduceBEq,reduceIte,h1],by simp (config:={ decide:=true }) only[go_sem,Nat.reduceBEq,reduceIte,h3],rfl,rfl,rfl,by simp⟩ ?_
  clear h1 h3 h14 h15 h16
  rintro k T H ⟨i,rfl,hil,h1,h3,h27,h28,h29,rfl⟩
  refine HW.run 200 (by kernel_rfl) ?_
  by_cases hlt:i<f.thr.length
  ·have hlt' : ((i:Int)<(f.thr.length:Int))=True:=by simp only[eq_iff_iff,iff_true];omega
   have hx:f.thr[i]?=some f.thr[i]:=List.getElem?_eq_getElem hlt
   have htk:f.thr.take (i+1)=f.thr.take i++[f.thr[i]]:=by rw[List.take_add_one,hx];rfl
   have hll:=hl _ (List.getElem_mem hlt)
   have hfl:=flatL_take f.thr (i+1)
   generalize f.thr[i]=l at hx htk hll
   rw[htk,List.flatMap_append,List.length_append] at hfl
   generalize hBB:(f.thr.take i).flatMap lineL=B at hfl
   have hfl' : B.length+(lineL l).length≤(f.thr.flatMap lineL).length:=by simpa using hfl
   simp (config:={ decide:=true }) only[go_sem,Int.reduceToNat,Nat.reduceAdd,Nat.reduceSub,Nat.reduceMul,Nat.reduceBEq,reduceIte,reduceCtorEq,h1,h3,h27,h28,h29,hlt',hx,tdrow]
   refine HW.loopG (fun k T H=>∃(j:Nat),k=l.length-j∧j≤l.length∧T 1=.pt 0 1 0 0∧T 3=.mp 1∧T 27=.sl (tds f.thr)∧T 28=.v (.int .i64 f.thr.length)∧T 29=.v (.int .i64 i)∧T 34=.sl (lns l)∧T 35=.v (.int .i64 l.length)∧T 36=.v (.int .i64 j)∧H=[some (fileO f),some (mapS (foldC [] (A++B++lineL (l.take j)))),some ⟨47,1,[[.sl (lns l)]]⟩]) l.length ⟨_,_,Ghost.refl,0,rfl,by omega,by simp (config:={ decide:=true }) only[go_sem,Nat.reduceBEq,reduceIte,h1],by simp (config:={ decide:=true }) only[go_sem,Nat.reduceBEq,reduceIte,h3],by simp (config:={ decide:=true }) only[go_sem,Nat.reduceBEq,reduceIte,h27],by simp (config:={ decide:=true }) only[go_sem,Nat.reduceBEq,reduceIte,h28],by simp (config:={ decide:=true }) only[go_sem,Nat.reduceBEq,reduceIte,h29],rfl,rfl,rfl,by simp[lineL,hBB]⟩ ?_
   clear h1 h3 h27 h28 h29
   rintro k T H ⟨j,rfl,hjl,h1,h3,h27,h28,h29,h34,h35,h36,rfl⟩
   refine HW.run 200 (by kernel_rfl) ?_
   by_cases hlt2:j<l.length
   ·have hlt2' : ((j:Int)<(l.length:Int))=True:=by simp only[eq_iff_iff,iff_true];omega
    have hx2:l[j]?=some l[j]:=List.getElem?_eq_getElem hlt2
    have htk2:l.take (j+1)=l.take j++[l[j]]:=by rw[List.take_add_one,hx2];rfl
    have hjl2:=lineL_len (l.take j)
    rw[List.length_take] at hjl2
    generalize l[j]=x at hx2 htk2
    have hs:=lineL_snoc (l.take j) x
    rw[←htk2] at hs
    have hg:=getM_foldC0 (A++B++lineL (l.take j)) x.loc
    simp only[List.length_append] at hg
    have hw:IntKind.i64.wrap (getM (foldC [] (A++B++lineL (l.take j))) x.loc+1)=getM (foldC [] (A++B++lineL (l.take j))) x.loc+1:=w64 (by omega) (by omega)
    by_cases hx0:x.loc=[]
    ·rw[if_pos hx0] at hs
     simp (config:={ decide:=true }) only[go_sem,Int.reduceToNat,Nat.reduceAdd,Nat.reduceSub,Nat.reduceMul,Nat.reduceBEq,reduceIte,reduceCtorEq,h1,h3,h27,h28,h29,h34,h35,h36,hlt2',hx2,lnrow,hx0]
     refine ⟨_,_,Ghost.trunc [1,3,27,28,29,34,35,36] 3 (by omega) ?_ ?_,l.length-(j+1),by omega,j+1,rfl,by omega,?_,?_,?_,?_,?_,?_,?_,?_,?_⟩
     all_goals first | (simp (config:={ decide:=true }) only[go_sem,Nat.reduceBEq,reduceIte,h1,h3,h27,h28,h29,h34,h35,h36];done) | (simp (config:={ decide:=true }) only[go_sem,Nat.reduceBEq,reduceIte];rw[w64 (by omega) (by omega)];rfl) | (rw[hs];rfl)
    ·rw[if_neg hx0] at hs
     simp (config:={ decide:=true }) only[go_sem,Int.reduceToNat,Nat.reduceAdd,Nat.reduceSub,Nat.reduceMul,Nat.reduceBEq,reduceIte,reduceCtorEq,h1,h3,h27,h28,h29,h34,h35,h36,hlt2',hx2,lnrow,hx0,hw]
     refine ⟨_,_,Ghost.trunc [1,3,27,28,29,34,35,36] 3 (by omega) ?_ ?_,l.length-(j+1),by omega,j+1,rfl,by omega,?_,?_,?_,?_,?_,?_,?_,?_,?_⟩
     all_goals first | (simp (config:={ decide:=true }) only[go_sem,Nat.reduceBEq,reduceIte,h1,h3,h27,h28,h29,h34,h35,h36];done) | (simp (config:={ decide:=true }) only[go_sem,Nat.reduceBEq,reduceIte];rw[w64 (by omega) (by omega)];rfl) | (rw[hs,←List.append_assoc,foldC_snoc];rfl)
   ·have hlt2' : ((j:Int)<(l.length:Int))=False:=by simp only[eq_iff_iff,iff_false];omega
    obtain rfl:j=l.length:=by omega
    rw[List.take_length]
    simp (config:={ decide:=true }) only[go_sem,Int.reduceToNat,Nat.reduceAdd,Nat.reduceSub,Nat.reduceMul,Nat.reduceBEq,reduceIte,reduceCtorEq,h1,h3,h27,h28,h29,h34,h35,h36,hlt2']
    refine ⟨_,_,Ghost.trunc [1,3,27,28,29] 2 (by omega) ?_ ?_,f.thr.length-(i+1),by omega,i+1,rfl,by omega,?_,?_,?_,?_,?_,?_⟩
    all_goals first | (simp (config:={ decide:=true }) only[go_sem,Nat.reduceBEq,reduceIte,h1,h3,h27,h28,h29];done) | (simp (config:={ decide:=true }) only[go_sem,Nat.reduceBEq,reduceIte];rw[w64 (by omega) (by omega)];rfl) | (rw[htk,List.flatMap_append,hBB];simp)
  ·have hlt' : ((i:Int)<(f.thr.length:Int))=False:=by simp only[eq_iff_iff,iff_false];omega
   obtain rfl:i=f.thr.length:=by omega
   rw[List.take_length]
   simp (config:={ decide:=true }) only[go_sem,Int.reduceToNat,Nat.reduceAdd,Nat.reduceSub,Nat.reduceMul,Nat.reduceBEq,reduceIte,reduceCtorEq,h1,h3,h27,h28,h29,hlt']
   generalize hA2:A++f.thr.flatMap lineL=A2 at hn
   have hA2l:A2.length+(condL f.cond).length≤1000000:=by rw[←hA2,List.length_append];exact hB
   refine HW.loopG (fun k T H=>∃(i:Nat),k=f.cond.length-i∧i≤f.cond.length∧T 1=.pt 0 1 0 0∧T 3=.mp 1∧T 51=.sl (ats f.cond)∧T 52=.v (.int .i64 f.cond.length)∧T 53=.v (.int .i64 i)∧H=[some (fileO f),some (mapS (foldC [] (A2++condL (f.cond.take i))))]) f.cond.length ⟨_,_,Ghost.refl,0,rfl,by omega,by simp (config:={ decide:=true }) only[go_sem,Nat.reduceBEq,reduceIte,h1],by simp (config:={ decide:=true }) only[go_sem,Nat.reduceBEq,reduceIte,h3],rfl,rfl,rfl,by simp[condL]⟩ ?_
   clear h1 h3 h27 h28 h29
   rintro k T H ⟨i,rfl,hil,h1,h3,h51,h52,h53,rfl⟩
   by_cases hlt:i<f.cond.length
   ·refine HW.run 200 (by kernel_rfl) ?_
    have hlt' : ((i:Int)<(f.cond.length:Int))=True:=by simp only[eq_iff_iff,iff_true];omega
    have hx:f.cond[i]?=some f.cond[i]:=List.getElem?_eq_getElem hlt
    have htk:f.cond.take (i+1)=f.cond.take i++[f.cond[i]]:=by rw[List.take_add_one,hx];rfl
    have hjl2:=condL_len (f.cond.take i)
    rw[List.length_take] at hjl2
    generalize f.cond[i]=x at hx htk
    have hs:=condL_snoc (f.cond.take i) x
    rw[←htk] at hs
    have hg:=getM_foldC0 (A2++condL (f.cond.take i)) x.nm
    simp only[List.length_append] at hg
    have hw:IntKind.i64.wrap (getM (foldC [] (A2++condL (f.cond.take i))) x.nm+1)=getM (foldC [] (A2++condL (f.cond.take i))) x.nm+1:=w64 (by omega) (by omega)
    by_cases hx0:x.th = -1
    ·rw[if_pos hx0] at hs
     simp (config:={ decide:=true }) only[go_sem,Int.reduceToNat,Nat.reduceAdd,Nat.reduceSub,Nat.reduceMul,Nat.reduceBEq,reduceIte,reduceCtorEq,h1,h3,h51,h52,h53,hlt',hx,arow,hx0,hw]
     refine ⟨_,_,Ghost.trunc [1,3,51,52,53] 2 (by omega) ?_ ?_,f.cond.length-(i+1),by omega,i+1,rfl,by omega,?_,?_,?_,?_,?_,?_⟩
     all_goals first | (simp (config:={ decide:=true }) only[go_sem,Nat.reduceBEq,reduceIte,h1,h3,h51,h52,h53];done) | (simp (config:={ decide:=true }) only[go_sem,Nat.reduceBEq,reduceIte];rw[w64 (by omega) (by omega)];rfl) | (rw[hs,←List.append_assoc,foldC_snoc];rfl)
    ·rw[if_neg hx0] at hs
     simp (config:={ decide:=true }) only[go_sem,Int.reduceToNat,Nat.reduceAdd,Nat.reduceSub,Nat.reduceMul,Nat.reduceBEq,reduceIte,reduceCtorEq,h1,h3,h51,h52,h53,hlt',hx,arow,hx0]
     refine ⟨_,_,Ghost.trunc [1,3,51,52,53] 2 (by omega) ?_ ?_,f.cond.length-(i+1),by omega,i+1,rfl,by omega,?_,?_,?_,?_,?_,?_⟩
     all_goals first | (simp (config:={ decide:=true }) only[go_sem,Nat.reduceBEq,reduceIte,h1,h3,h51,h52,h53];done) | (simp (config:={ decide:=true }) only[go_sem,Nat.reduceBEq,reduceIte];rw[w64 (by omega) (by omega)];rfl) | (rw[hs];rfl)
   ·have hlt' : ((i:Int)<(f.cond.length:Int))=False:=by simp only[eq_iff_iff,iff_false];omega
    obtain rfl:i=f.cond.length:=by omega
    rw[List.take_length]
    refine HW.ghost (Ghost.holeS 132 1) ?_
    refine HW.run 200 (by kernel_rfl) ?_
    simp (config:={ decide:=true }) only[go_sem,Int.reduceToNat,Nat.reduceAdd,Nat.reduceSub,Nat.reduceMul,Nat.reduceBEq,reduceIte,reduceCtorEq,h1,h3,h51,h52,h53,hlt']
    have hkey:∀e∈foldC [] (A2++condL f.cond),e.1.length≤1000000:=fun e he=>by
     have:=(foldC_keys e.1 (A2++condL f.cond) []).1 (List.mem_map.2 ⟨e,he,rfl⟩)
     rcases this with h | h
     ·simp at h
     ·exact hn _ h
    refine ⟨_,mapsKeysS (kv:=foldC [] (A2++condL f.cond)) (j:=2) rfl rfl,?_⟩
    rintro r H' ⟨rfl,rfl⟩ -
    simp (config:={ decide:=true }) only[go_sem,Int.reduceToNat,Nat.reduceAdd,Nat.reduceSub,Nat.reduceMul,Nat.reduceBEq,reduceIte,reduceCtorEq]
    refine ⟨_,slicesSortedS (id:=1) (j:=2) (kv:=foldC [] (A2++condL f.cond)) rfl rfl (foldC_nodup _ _ (by simp)) hkey (by have:=foldC_len (A2++condL f.cond) [];simp only[List.length_append,List.length_nil] at this;omega),?_⟩
    rintro r H' ⟨rfl,rfl⟩ -
    simp (config:={ decide:=true }) only[go_sem,Int.reduceToNat,Nat.reduceAdd,Nat.reduceSub,Nat.reduceMul,Nat.reduceBEq,reduceIte,reduceCtorEq,owStrs]
end Go.Proofs.YtmapdjdnnhlpiaaGreatDoor
namespace Go.Proofs.YtmapdjdnnhlpiaaGreatDoor
open Go.RowKit Go.Extern.Stop Go.Stop Go.Extern
set_option maxRecDepth 8000
theorem as_nil (t:Value) (w:World):Calls Tryz.prog 43 #[.nilIface,t] w fun e w'=>e=.returned (.bool false)∧w'=w:=by
 go_enter Tryz.func43,Tryz.ntmps43
 go_wp2
 go_ret
 exact ⟨rfl,rfl⟩
theorem asValueOfP (t:Addr) (w:World):(ReflectliteValue.unpack (.iface 85 (.pointer (some t)))).run Tryz.prog w
  = .ok (.agg #[.pointer (some ⟨7,85,none⟩),.pointer (some ⟨w.heap.size,0,none⟩),.int .u64 150]) (w.alloc (.cells #[.pointer (some t)] 85)):=by kernel_rfl
theorem asTypeP (a:Addr) (w:World):(ReflectliteValue.methodAny (ReflectliteValue.valueError "reflectlite.Value.Type" 0) (fun t _ _ _=>ReflectliteType.toType t) #[.agg #[.pointer (some ⟨7,85,none⟩),.pointer (some a),.int .u64 150]]).run Tryz.prog w
  = .ok (.iface 117 (.agg #[.pointer (some ⟨7,85,none⟩)])) w:=by kernel_rfl
theorem asKind (h:Value) (w:World):(Go.method 342 117 (.agg #[h]) "Kind").run Tryz.prog w=.ok (172,h) w:=by kernel_rfl
theorem asKindP (w:World):((ReflectliteType.abiMethod fun t=>(fun a:Nat=>Value.int IntKind.u8 (a:Int)) <$> Rtype.kind t) #[.pointer (some ⟨7,85,none⟩)]).run Tryz.prog w=.ok (.int .u8 22) w:=by kernel_rfl
theorem asKindW (w:World):((ReflectliteType.abiMethod fun t=>(fun a:Nat=>Value.int IntKind.u8 (a:Int)) <$> Rtype.kind t) #[.pointer (some ⟨7,80,none⟩)]).run Tryz.prog w=.ok (.int .u8 25) w:=by kernel_rfl
theorem rlm (z:Sem Value) (f:TypeId→Addr→Nat→Nat→Sem Value) (v:Value) :
  ReflectliteValue.method z f #[v]=(do match ←ReflectliteValue.parts v with | none=>z | some (t,a,fl)=>f t a fl (fl % 32)):=rfl
theorem asPartsP (a:Addr) (w:World):(ReflectliteValue.parts (.agg #[.pointer (some ⟨7,85,none⟩),.pointer (some a),.int .u64 150])).run Tryz.prog w=.ok (some (85,a,150)) w:=by kernel_rfl
theorem asIsNilP (a p:Addr) (W:World) (ha:W.cell? a=some (.pointer (some p))) :
  (ReflectliteValue.method (ReflectliteValue.valueError "reflectlite.Value.IsNil" 0) ReflectliteValue.isNil #[.agg #[.pointer (some ⟨7,85,none⟩),.pointer (some a),.int .u64 150]]).run Tryz.prog W=.ok (.bool false) W:=by
 rw[rlm]
 simp only[Sem.run_bind,asPartsP,Result.andThen]
 simp[ReflectliteValue.isNil,loadVar,isAgg,underlying,Tryz.underlying85,ha,Result.andThen]
theorem asElem (h:Value) (w:World):(Go.method 342 117 (.agg #[h]) "Elem").run Tryz.prog w=.ok (183,.agg #[h]) w:=by kernel_rfl
theorem asImplements (h:Value) (w:World):(Go.method 342 117 (.agg #[h]) "Implements").run Tryz.prog w=.ok (184,.agg #[h]) w:=by kernel_rfl
theorem asAssignableTo (h:Value) (w:World):(Go.method 342 117 (.agg #[h]) "AssignableTo").run Tryz.prog w=.ok (181,.agg #[h]) w:=by kernel_rfl
theorem asElemP (w:World):(ReflectliteType.method ReflectliteType.elem #[.agg #[.pointer (some ⟨7,85,none⟩)]]).run Tryz.prog w=.ok (.iface 117 (.agg #[.pointer (some ⟨7,80,none⟩)])) w:=by kernel_rfl
theorem asImplementsW (w:World):(ReflectliteType.relation "Implements" ReflectliteType.implements_ #[.agg #[.pointer (some ⟨7,80,none⟩)],.iface 117 (.agg #[.pointer (some ⟨7,83,none⟩)])]).run Tryz.prog w=.ok (.bool true) w:=by kernel_rfl
theorem asTypeOfW (v:Value) (w:World):(ReflectliteType.typeOf #[.iface 80 v]).run Tryz.prog w=.ok (.iface 117 (.agg #[.pointer (some ⟨7,80,none⟩)])) w:=by kernel_rfl
theorem asAssignableW (w:World):(ReflectliteType.relation "AssignableTo" ReflectliteType.assignableTo #[.agg #[.pointer (some ⟨7,80,none⟩)],.iface 117 (.agg #[.pointer (some ⟨7,80,none⟩)])]).run Tryz.prog w=.ok (.bool true) w:=by kernel_rfl
theorem asValueOfW (x y z:Int) (w:World):(ReflectliteValue.unpack (.iface 80 (.agg #[.int .i64 x,.int .i64 y,.int .i64 z]))).run Tryz.prog w
  = .ok (.agg #[.pointer (some ⟨7,80,none⟩),.pointer (some ⟨w.heap.size,0,none⟩),.int .u64 153]) (w.alloc (.cells #[.int .i64 x,.int .i64 y,.int .i64 z] 80)):=by kernel_rfl
theorem asElemOfP (w:World):(Rtype.elem? 85).run Tryz.prog w=.ok (some 80) w:=by kernel_rfl
theorem asMkW (p:Addr) (w:World):(ReflectliteValue.mk 80 p ReflectliteValue.flagAddr).run Tryz.prog w=.ok (.agg #[.pointer (some ⟨7,80,none⟩),.pointer (some p),.int .u64 409]) w:=by kernel_rfl
theorem asElemVP (a p:Addr) (W:World) (ha:W.cell? a=some (.pointer (some p))) :
  (ReflectliteValue.method (ReflectliteValue.valueError "reflectlite.Value.Elem" 0) ReflectliteValue.elem #[.agg #[.pointer (some ⟨7,85,none⟩),.pointer (some a),.int .u64 150]]).run Tryz.prog W
   = .ok (.agg #[.pointer (some ⟨7,80,none⟩),.pointer (some p),.int .u64 409]) W:=by
 rw[rlm]
 simp only[Sem.run_bind,asPartsP,Result.andThen]
 simp[ReflectliteValue.elem,loadVar,isAgg,underlying,Tryz.underlying85,ha,Result.andThen,asElemOfP,asMkW]
theorem rls (v x:Value):ReflectliteValue.set #[v,x]=(do
  let (some (dst,a,fl),some (src,b,_)):=(←ReflectliteValue.parts v,←ReflectliteValue.parts x)
   | unsupported (.noEntry "extern/(internal/reflectlite.Value).Set.zeroValue")
  if fl / ReflectliteValue.flagAddr % 2 == 0 then unsupported (.noEntry "extern/(internal/reflectlite.Value).Set.unaddressable")
  let val ←loadVar src b
  if ←Rtype.directlyAssignable dst src then storeVar dst a val
  else if ←Rtype.implements dst src then
   if (←Rtype.kind src) == 20 then
    match val with
    | .nilIface=>unsupported (.noEntry "extern/reflectlite: a nil value of one interface type handed on as a value of another")
    | _=>storeVar dst a val
   else storeVar dst a (.iface src val)
  else panicString ("reflectlite.Set: value of type "++(←Rtype.spelt src) ++ " is not assignable to type "++(←Rtype.spelt dst))
  pure (.tuple #[])):=rfl
theorem asPartsWa (a:Addr) (w:World):(ReflectliteValue.parts (.agg #[.pointer (some ⟨7,80,none⟩),.pointer (some a),.int .u64 409])).run Tryz.prog w=.ok (some (80,a,409)) w:=by kernel_rfl
theorem asPartsW (a:Addr) (w:World):(ReflectliteValue.parts (.agg #[.pointer (some ⟨7,80,none⟩),.pointer (some a),.int .u64 153])).run Tryz.prog w=.ok (some (80,a,153)) w:=by kernel_rfl
theorem asDirectW (w:World):(Rtype.directlyAssignable 80 80).run Tryz.prog w=.ok true w:=by kernel_rfl
theorem asSetW (b n:Nat) (e:TypeId) (cells:Array Value) (x y z:Int) (W:World) (hb:W.heap[b]?=some (.cells cells e (0,0))) (hs:3≤cells.size) (hn:W.heap[n]?=some (.cells #[.int .i64 x,.int .i64 y,.int .i64 z] 80 (0,0))) :
  (ReflectliteValue.set #[.agg #[.pointer (some ⟨7,80,none⟩),.pointer (some ⟨b,0,none⟩),.int .u64 409],.agg #[.pointer (some ⟨7,80,none⟩),.pointer (some ⟨n,0,none⟩),.int .u64 153]]).run Tryz.prog W
   = .ok (.tuple #[]) (W.setRow b (([Value.int .i64 x,Value.int .i64 y,Value.int .i64 z]:List Value)++cells.toList.drop 3).toArray):=by
 have hl:=run_loadVar_at (P:=Tryz.prog) (w:=W) ti80 (b:=n) (o:=0) (ys:=[.int .i64 x,.int .i64 y,.int .i64 z]) rfl (by decide) (fun j u hj=>by
  have:(#[Value.int .i64 x,.int .i64 y,.int .i64 z]:Array Value)[0+j]?=some u:=by rw[Nat.zero_add];simpa using hj
  unfold World.cell?
  rw[hn];exact this)
 have hst:=run_storeVar_at (P:=Tryz.prog) (w:=W) ti80 (o:=0) (v:=.agg #[.int .i64 x,.int .i64 y,.int .i64 z]) hb rfl (by intro u hu;simp[Value.cells] at hu;rcases hu with rfl | rfl | rfl <;> rfl) (by show 0+3≤_;omega)
 rw[rls]
 simp only[Sem.run_bind,asPartsWa,asPartsW,Result.andThen]
 have hl' : (loadVar 80 ⟨n,0,none⟩).run Tryz.prog W=.ok (.agg #[.int .i64 x,.int .i64 y,.int .i64 z]) W:=hl
 simp[ReflectliteValue.flagAddr,hl',Result.andThen,asDirectW,hst,Value.cells]
set_option maxHeartbeats 4000000 in
theorem as_hit (b:Nat) (e:TypeId) (cells:Array Value) (x y z:Int) (w:World) (hg:w.cell? ⟨0,0,none⟩=some (.iface 117 (.agg #[.pointer (some ⟨7,83,none⟩)]))) (hb:w.heap[b]?=some (.cells cells e (0,0))) (hs:3≤cells.size) :
  Calls Tryz.prog 43 #[.iface 80 (.agg #[.int .i64 x,.int .i64 y,.int .i64 z]),.iface 85 (.pointer (some ⟨b,0,none⟩))] w fun ev w'=>ev=.returned (.bool true)∧w'=((((w.alloc (.cells #[.pointer (some ⟨b,0,none⟩)] 85)).alloc (.cells #[.pointer (some ⟨7,85,none⟩),.pointer (some ⟨w.heap.size,0,none⟩),.int .u64 150] 100)).alloc (.cells #[.pointer (some ⟨7,85,none⟩),.pointer (some ⟨w.heap.size,0,none⟩),.int .u64 150] 100)).alloc (.cells #[.int .i64 x,.int .i64 y,.int .i64 z] 80)).setRow b (([Value.int .i64 x,Value.int .i64 y,Value.int .i64 z]:List Value)++cells.toList.drop 3).toArray:=by
 have h6:=@run_callFunc_extern Tryz.prog 59 _ (fun args=>ReflectliteValue.unpack (args.getD 0 (.tuple #[]))) Tryz.func59 (by kernel_rfl) (by kernel_rfl) (by kernel_rfl) (by kernel_rfl)
 have h7:=@run_callFunc_extern Tryz.prog 60 _ (ReflectliteValue.methodAny (ReflectliteValue.valueError "reflectlite.Value.Type" 0) (fun t _ _ _=>ReflectliteType.toType t)) Tryz.func60 (by kernel_rfl) (by kernel_rfl) (by kernel_rfl) (by kernel_rfl)
 have h8:=@run_callFunc_extern Tryz.prog 61 _ (ReflectliteValue.method (ReflectliteValue.valueError "reflectlite.Value.IsNil" 0) ReflectliteValue.isNil) Tryz.func61 (by kernel_rfl) (by kernel_rfl) (by kernel_rfl) (by kernel_rfl)
 have h27:=@run_callFunc_extern Tryz.prog 172 _ (ReflectliteType.abiMethod fun t=>do pure (.int .u8 (←Rtype.kind t))) Tryz.func172 (by kernel_rfl) (by kernel_rfl) (by kernel_rfl) (by kernel_rfl)
 have h37:=@run_callFunc_extern Tryz.prog 183 _ (ReflectliteType.method ReflectliteType.elem) Tryz.func183 (by kernel_rfl) (by kernel_rfl) (by kernel_rfl) (by kernel_rfl)
 have h38:=@run_callFunc_extern Tryz.prog 184 _ (ReflectliteType.relation "Implements" ReflectliteType.implements_) Tryz.func184 (by kernel_rfl) (by kernel_rfl) (by kernel_rfl) (by kernel_rfl)
 have h10:=@run_callFunc_extern Tryz.prog 76 _ ReflectliteType.typeOf Tryz.func76 (by kernel_rfl) (by kernel_rfl) (by kernel_rfl) (by kernel_rfl)
 have h35:=@run_callFunc_extern Tryz.prog 181 _ (ReflectliteType.relation "AssignableTo" ReflectliteType.assignableTo) Tryz.func181 (by kernel_rfl) (by kernel_rfl) (by kernel_rfl) (by kernel_rfl)
 have h11:=@run_callFunc_extern Tryz.prog 77 _ (ReflectliteValue.method (ReflectliteValue.valueError "reflectlite.Value.Elem" 0) ReflectliteValue.elem) Tryz.func77 (by kernel_rfl) (by kernel_rfl) (by kernel_rfl) (by kernel_rfl)
 have h12:=@run_callFunc_extern Tryz.prog 78 _ ReflectliteValue.set Tryz.func78 (by kernel_rfl) (by kernel_rfl) (by kernel_rfl) (by kernel_rfl)
 have tO:=asTypeOfW
 have mA:=asAssignableTo
 have a25:=asAssignableW
 have v25:=asValueOfW
 have f6:=asValueOfP
 have f7:=asTypeP
 have mK:=asKind
 have mE:=asElem
 have mI:=asImplements
 have k27:=asKindP
 have k25:=asKindW
 have e27:=asElemP
 have i25:=asImplementsW
 have n8:=asIsNilP ⟨w.heap.size,0,none⟩ ⟨b,0,none⟩ ((w.alloc (.cells #[.pointer (some ⟨b,0,none⟩)] 85)).alloc (.cells #[.pointer (some ⟨7,85,none⟩),.pointer (some ⟨w.heap.size,0,none⟩),.int .u64 150] 100)) (by simp)
 have hlt:0<w.heap.size:=by
  rcases Nat.lt_or_ge 0 w.heap.size with h | h
  ·exact h
  ·simp[World.cell?,Array.getElem?_eq_none h] at hg
 have hg2:((w.alloc (.cells #[.pointer (some ⟨b,0,none⟩)] 85)).alloc (.cells #[.pointer (some ⟨7,85,none⟩),.pointer (some ⟨w.heap.size,0,none⟩),.int .u64 150] 100)).cell? ⟨0,0,none⟩=some (.iface 117 (.agg #[.pointer (some ⟨7,83,none⟩)])):=by
  rw[World.cell?_alloc_lt _ _ ⟨0,0,none⟩ (by simp <;> omega),World.cell?_alloc_lt _ _ ⟨0,0,none⟩ hlt];exact hg
 have htl:b<w.heap.size:=(Array.getElem?_eq_some_iff.1 hb).1
 have el:=asElemVP ⟨w.heap.size,0,none⟩ ⟨b,0,none⟩ (((w.alloc (.cells #[.pointer (some ⟨b,0,none⟩)] 85)).alloc (.cells #[.pointer (some ⟨7,85,none⟩),.pointer (some ⟨w.heap.size,0,none⟩),.int .u64 150] 100)).alloc (.cells #[.pointer (some ⟨7,85,none⟩),.pointer (some ⟨w.heap.size,0,none⟩),.int .u64 150] 100)) (by rw[World.cell?_alloc_lt _ _ ⟨w.heap.size,0,none⟩ (by simp;omega)];simp)
 have st:=asSetW b (w.heap.size+1+1+1) e cells x y z ((((w.alloc (.cells #[.pointer (some ⟨b,0,none⟩)] 85)).alloc (.cells #[.pointer (some ⟨7,85,none⟩),.pointer (some ⟨w.heap.size,0,none⟩),.int .u64 150] 100)).alloc (.cells #[.pointer (some ⟨7,85,none⟩),.pointer (some ⟨w.heap.size,0,none⟩),.int .u64 150] 100)).alloc (.cells #[.int .i64 x,.int .i64 y,.int .i64 z] 80))
  (by rw[Below.heap_alloc _ _ _ (by simp;omega),Below.heap_alloc _ _ _ (by simp;omega),Below.heap_alloc _ _ _ (by simp;omega),Below.heap_alloc _ _ _ htl];exact hb) hs (by
   show (Array.push _ _)[_]?=_
   rw[Array.getElem?_push];simp)
 go_enter Tryz.func43,Tryz.ntmps43
 go_wp2
 refine wp_loop_rounds 1 ?_
 rw[rounds_succ]
 go_wp2
 go_ret
 exact ⟨rfl,rfl⟩
end Go.Proofs.YtmapdjdnnhlpiaaGreatDoor
namespace Go.Proofs.YtmapdjdnnhlpiaaGreatDoor
open Go.RowKit
set_option maxRecDepth 8000
def More (w W:World):Prop:=W.os=w.os∧W.tape=w.tape∧W.output=w.output∧w.heap.size≤W.heap.size∧∀k,k<w.heap.size→W.heap[k]?=w.heap[k]?
theorem More.refl (w:World):More w w:=⟨rfl,rfl,rfl,Nat.le_refl _,fun _ _=>rfl⟩
theorem More.alloc {w W:World} (h:More w W) (o:Obj):More w (W.alloc o):=by
 obtain ⟨h1,h2,h3,h4,h5⟩:=h
 refine ⟨h1,h2,h3,by simp;omega,fun k hk=>?_⟩
 rw[Below.heap_alloc W o k (by omega)]
 exact h5 k hk
abbrev wrongO (x y z:Int):HObj:=⟨80,3,[[.v (.int .i64 x),.v (.int .i64 y),.v (.int .i64 z)]]⟩
theorem asHit {H:Heap} {k:Nat} {c0:List HV} (x y z:Int) (hk:H[k]?=some (some ⟨80,3,[c0]⟩)) :
  HCalls Tryz.prog 43 H [wrongH x y z,.ic 85 (.pt k 1 0 0)] (fun r H'=>r=.v (.bool true)∧H'=H.set k (some (wrongO x y z))):=by
 refine ⟨fun vals w=>enters_of (P:=Tryz.prog) Tryz.func43 (by kernel_rfl) rfl vals w,fun Z G FP w vals hi ha=>?_⟩
 simp only[RL] at ha
 obtain ⟨y0,ys,f1,f2,rfl,e1,hv,y1,ys1,f3,f4,rfl,e2,hv2,rfl,rfl⟩:=ha
 obtain ⟨rfl,rfl⟩:=List.append_eq_nil_iff.1 e1.symm
 obtain ⟨rfl,_⟩:=List.append_eq_nil_iff.1 e2.symm
 unfold wrongH at hv
 rw[RV] at hv hv2
 obtain ⟨_,z0,rfl,hv⟩:=hv
 obtain ⟨_,z1,rfl,hv2⟩:=hv2
 rw[RV] at hv
 obtain ⟨zs,rfl,hv⟩:=hv
 obtain ⟨zs⟩:=zs
 simp only[RL,RV] at hv
 obtain ⟨_,_,_,_,rfl,_,⟨_,rfl⟩,_,_,_,_,rfl,_,⟨_,rfl⟩,_,_,_,_,rfl,_,⟨_,rfl⟩,rfl,_⟩:=hv
 obtain ⟨g,b,cells,f,hg,hob,hgb,hfp,hb,hcs,hc1,hc2,hrr,rfl,hrow⟩:=pt_at hi hk rfl rfl hv2
 have hbl:b<w.heap.size:=(Array.getElem?_eq_some_iff.1 hb).1
 have hgl:=(hi.glob.han 0 rfl).2
 have hc1' : 1≤g.cap:=hc1
 have hs:3≤cells.size:=by rw[hcs];show 3≤g.cap*3;omega
 refine Calls.mono (as_hit b _ cells x y z w hgl hb hs) ?_
 rintro e w' ⟨rfl,rfl⟩
 obtain ⟨m1,m2,m3,m4,m5⟩:=((((More.refl w).alloc (.cells #[.pointer (some ⟨b,0,none⟩)] 85)).alloc (.cells #[.pointer (some ⟨7,85,none⟩),.pointer (some ⟨w.heap.size,0,none⟩),.int .u64 150] 100)).alloc (.cells #[.pointer (some ⟨7,85,none⟩),.pointer (some ⟨w.heap.size,0,none⟩),.int .u64 150] 100)).alloc (.cells #[.int .i64 x,.int .i64 y,.int .i64 z] 80)
 generalize (((w.alloc (.cells #[.pointer (some ⟨b,0,none⟩)] 85)).alloc (.cells #[.pointer (some ⟨7,85,none⟩),.pointer (some ⟨w.heap.size,0,none⟩),.int .u64 150] 100)).alloc (.cells #[.pointer (some ⟨7,85,none⟩),.pointer (some ⟨w.heap.size,0,none⟩),.int .u64 150] 100)).alloc (.cells #[.int .i64 x,.int .i64 y,.int .i64 z] 80)=W at m1 m2 m3 m4 m5
 generalize hcn:(([Value.int .i64 x,Value.int .i64 y,Value.int .i64 z]:List Value)++cells.toList.drop 3).toArray=cn
 have hcz:cn.size=cells.size:=by rw[←hcn];simp;omega
 have hbW:W.heap[b]?=some (.cells cells 80 (0,0)):=by rw[m5 b hbl];exact hb
 have hnew:=setRow_heap W b cells cn _ _ hbW
 have hold:∀j,j<w.heap.size→j≠b→(W.setRow b cn).heap[j]?=w.heap[j]?:=fun j hj hne=>by rw[setRow_other W b j cn hne];exact m5 j hj
 have hcell:∀j,(W.setRow b cn).cell? ⟨b,j,none⟩=cn[j]?:=fun j=>cell_setRow_same W b j cells cn _ _ hbW
 have h0:cn[0]?=some (.int .i64 x):=by rw[←hcn];rfl
 have h1:cn[1]?=some (.int .i64 y):=by rw[←hcn];rfl
 have h2:cn[2]?=some (.int .i64 z):=by rw[←hcn];rfl
 have hb1:b∈FP k:=by rw[hfp];simp
 have hinv:=hi.turn (w':=W.setRow b cn) (o':=wrongO x y z) (g':=g) (fp':=[b]) hk hg (.inl rfl) (by simp;omega) (fun j hj hn=>hold j hj (fun e=>hn (by rw[hfp,e];simp)))
  ⟨hob.e,hob.sz,hob.n,by simp,.inr (.inl ⟨b,cn,[],hgb,rfl,hnew,by rw[hcz];exact hcs,hc1,hc2,by
   simp only[RR,RC,RV]
   exact ⟨[],[],rfl,⟨_,[],[],rfl,(hcell 0).trans h0,rfl,⟨rfl,rfl⟩,_,[],[],rfl,(hcell 1).trans h1,rfl,⟨rfl,rfl⟩,_,[],[],rfl,(hcell 2).trans h2,rfl,⟨rfl,rfl⟩,rfl⟩,rfl⟩⟩)⟩ (by simp) (fun j hj=>by
    obtain rfl:=List.mem_singleton.1 hj
    exact ⟨fun hz=>hi.zfp k _ hb1 hz,by simp;omega,fun i hne hc=>hne (hi.disj i k _ hc hb1)⟩)
 refine ⟨_,_,_,_,_,_,[],rfl,⟨rfl,rfl⟩,by simp,hinv,by simp[RV],by simp,by simp,by simp,GLe.set hg (.inl rfl),evo_turn m1 m2 m3 (by simp;omega) (fun j hj hn=>hold j hj (fun e=>hn (by rw[hfp,e];simp))) (fun j hj=>by
  obtain rfl:=List.mem_singleton.1 hj
  exact .inr ⟨k,hb1⟩)⟩
theorem asNil {H:Heap} {k:Nat} {c0:List HV} (hk:H[k]?=some (some ⟨80,3,[c0]⟩)) :
  HCalls Tryz.prog 43 H [.v .nilIface,.ic 85 (.pt k 1 0 0)] (fun r H'=>r=.v (.bool false)∧H'=H):=by
 refine ⟨fun vals w=>enters_of (P:=Tryz.prog) Tryz.func43 (by kernel_rfl) rfl vals w,fun Z G FP w vals hi ha=>?_⟩
 simp only[RL] at ha
 obtain ⟨y0,ys,f1,f2,rfl,e1,hv,y1,ys1,f3,f4,rfl,e2,hv2,rfl,rfl⟩:=ha
 obtain ⟨rfl,rfl⟩:=List.append_eq_nil_iff.1 e1.symm
 obtain ⟨rfl,_⟩:=List.append_eq_nil_iff.1 e2.symm
 simp only[RV] at hv
 obtain ⟨_,rfl⟩:=hv
 refine Calls.mono (as_nil _ w) ?_
 rintro e w' ⟨rfl,rfl⟩
 exact ⟨_,_,H,Z,G,FP,[],rfl,⟨rfl,rfl⟩,rfl,hi,by simp[RV],by simp,by simp,by simp,GLe.refl _,Evo.refl _ _ _⟩
end Go.Proofs.YtmapdjdnnhlpiaaGreatDoor
namespace Go.Proofs.YtmapdjdnnhlpiaaGreatDoor
open Go.RowKit
set_option maxRecDepth 8000
structure OkF (f:Fl):Prop where
 init:f.init.length≤1000000
 thr:f.thr.length≤1000000
 cond:f.cond.length≤1000000
 len:∀l∈f.thr,l.length≤1000000
 locs:(locL f).length≤1000000
 loc:∀s∈locL f,s.length≤1000000
def thsO (t:Nat):List (List LT)→Option (Int×Int×Int)
 | []=>none
 | l::r=>match thrO t l with | some w=>some w | none=>thsO (t+1) r
def locO (f:Fl):Option (Int×Int×Int):=if 4<(foldC [] (locL f)).length then some (-1,-1,5) else none
def allO (f:Fl):Option (Int×Int×Int) :=
 match headO f with
 | some w=>some w
 | none=>match thsO 0 f.thr with
  | some w=>some w
  | none=>match conO f with
   | some w=>some w
   | none=>locO f
def checkF (f:Fl):Int×Int×Int:=(allO f).getD (0,0,0)
theorem wrO_none:wrO none=.v .nilIface:=rfl
theorem wrO_some {t i e:Int}:wrO (some (t,i,e))=wrongH t i e:=rfl
attribute [go_sem] wrO_none wrO_some
theorem sortedMS_length (kv:List (List UInt8×Int)):(sortedMS kv).length=kv.length:=by simp[sortedMS,List.length_mergeSort]
theorem thrE_ne:∀(b a:List LT) {i:Nat} {e:Int},thrE a b=some (i,e)→e≠0
 | [],_,_,_,h=>by simp[thrE] at h
 | x::b,a,i,e,h=>by
  rw[thrE] at h
  split at h
  ·exact thrE_ne b _ h
  ·rename_i hn;simp at h;rw[←h.2];exact hn
theorem thsO_ne:∀(r:List (List LT)) (t:Nat) {a b e:Int},thsO t r=some (a,b,e)→e≠0
 | [],_,_,_,_,h=>by simp[thsO] at h
 | l::r,t,a,b,e,h=>by
  rw[thsO] at h
  cases hl:thrO t l with
  | none=>rw[hl] at h;exact thsO_ne r _ h
  | some w =>
   rw[hl] at h
   simp only[Option.some.injEq] at h
   subst h
   unfold thrO at hl
   cases h2:thrE [] l with
   | none=>rw[h2] at hl;simp at hl
   | some p =>
    rw[h2] at hl
    simp at hl
    rw[←hl.2.2]
    exact thrE_ne l [] h2
theorem conE_ne (n:Nat):∀(c:List AT) (i:Nat) {j:Nat} {e:Int},conE n i c=some (j,e)→e≠0
 | [],_,_,_,h=>by simp[conE] at h
 | a::c,i,j,e,h=>by
  rw[conE] at h
  split at h
  ·simp at h;omega
  ·split at h
   ·simp at h;omega
   ·split at h
    ·simp at h;omega
    ·exact conE_ne n c _ h
set_option maxHeartbeats 8000000 in
theorem validAll (f:Fl) (ok:OkF f):HFn Tryz.prog 44 [fileH f] (wrO (allO f)):=by
 have hH:=validHead f ok.init ok.thr
 have hC:=validAsked f ok.cond ok.thr
 have hL:=validLocs f ok.locs ok.init ok.thr ok.cond ok.len ok.loc
 have hthr:=ok.thr
 unfold allO
 refine HCalls_body (fn:=Tryz.f44) 40 [2] (by kernel_rfl) rfl (by kernel_rfl) (HW.run 400 (by kernel_rfl) ?_)
 simp (config:={ decide:=true }) only[go_sem,Int.reduceToNat,Nat.reduceAdd,Nat.reduceSub,Nat.reduceMul,Nat.reduceBEq,reduceIte,reduceCtorEq]
 cases hh:headO f with
 | some w =>
  obtain ⟨a,b,c⟩:=w
  rw[hh] at hH
  refine callX_fn 3 (hH) (by simp only[go_sem]) rfl ?_
  simp (config:={ decide:=true }) only[go_sem,Int.reduceToNat,Nat.reduceAdd,Nat.reduceSub,Nat.reduceMul,Nat.reduceBEq,reduceIte,reduceCtorEq]
 | none =>
  rw[hh] at hH
  refine callX_fn 3 (hH) (by simp only[go_sem]) rfl ?_
  simp (config:={ decide:=true }) only[go_sem,Int.reduceToNat,Nat.reduceAdd,Nat.reduceSub,Nat.reduceMul,Nat.reduceBEq,reduceIte,reduceCtorEq]
  refine HW.loopG (fun k T H=>∃(i:Nat),k=f.thr.length-i∧i≤f.thr.length∧thsO 0 f.thr=thsO i (f.thr.drop i)∧T 1=.pt 0 1 0 0∧T 14=.sl (tds f.thr)∧T 15=.v (.int .i64 f.thr.length)∧T 16=.v (.int .i64 i)∧H=[some (fileO f)]) f.thr.length ⟨_,_,Ghost.refl,0,rfl,by omega,rfl,rfl,rfl,rfl,rfl,rfl⟩ ?_
  rintro k T H ⟨i,rfl,hil,hI,h1,h14,h15,h16,rfl⟩
  refine HW.run 200 (by kernel_rfl) ?_
  by_cases hlt:i<f.thr.length
  ·have hlt' : ((i:Int)<(f.thr.length:Int))=True:=by simp only[eq_iff_iff,iff_true];omega
   have hx:f.thr[i]?=some f.thr[i]:=List.getElem?_eq_getElem hlt
   have hdr:f.thr.drop i=f.thr[i]::f.thr.drop (i+1):=List.drop_eq_getElem_cons hlt
   have hll:=ok.len _ (List.getElem_mem hlt)
   rw[hdr,thsO] at hI
   generalize f.thr[i]=l at hx hI hll
   have hT:=validThread (i:Int) l hll
   simp (config:={ decide:=true }) only[go_sem,Int.reduceToNat,Nat.reduceAdd,Nat.reduceSub,Nat.reduceMul,Nat.reduceBEq,reduceIte,reduceCtorEq,h1,h14,h15,h16,hlt',hx,tdrow]
   cases ht:thrO (i:Int) l with
   | some w =>
    obtain ⟨a,b,c⟩:=w
    rw[ht] at hT hI
    rw[hI]
    refine callX_fn 3 (hT) (by simp only[go_sem]) rfl ?_
    simp (config:={ decide:=true }) only[go_sem,Int.reduceToNat,Nat.reduceAdd,Nat.reduceSub,Nat.reduceMul,Nat.reduceBEq,reduceIte,reduceCtorEq,h1,h14,h15,h16]
   | none =>
    rw[ht] at hT hI
    refine callX_fn 3 (hT) (by simp only[go_sem]) rfl ?_
    simp (config:={ decide:=true }) only[go_sem,Int.reduceToNat,Nat.reduceAdd,Nat.reduceSub,Nat.reduceMul,Nat.reduceBEq,reduceIte,reduceCtorEq,h1,h14,h15,h16]
    refine ⟨_,_,Ghost.trunc [1,14,15,16] 1 (by omega) ?_ ?_,f.thr.length-(i+1),by omega,i+1,rfl,by omega,hI,?_,?_,?_,?_,?_⟩
    all_goals first | (simp (config:={ decide:=true }) only[go_sem,Nat.reduceBEq,reduceIte,h1,h14,h15,h16];done) | (simp (config:={ decide:=true }) only[go_sem,Nat.reduceBEq,reduceIte];rw[w64 (by omega) (by omega)];rfl) | rfl
  ·have hlt' : ((i:Int)<(f.thr.length:Int))=False:=by simp only[eq_iff_iff,iff_false];omega
   rw[List.drop_of_length_le (by omega)] at hI
   have hI' : thsO 0 f.thr=none:=hI
   rw[hI']
   simp (config:={ decide:=true }) only[go_sem,Int.reduceToNat,Nat.reduceAdd,Nat.reduceSub,Nat.reduceMul,Nat.reduceBEq,reduceIte,reduceCtorEq,h1,h14,h15,h16,hlt']
   cases hc:conO f with
   | some w =>
    obtain ⟨a,b,c⟩:=w
    rw[hc] at hC
    refine callX_fn 3 (hC) (by simp only[go_sem]) rfl ?_
    simp (config:={ decide:=true }) only[go_sem,Int.reduceToNat,Nat.reduceAdd,Nat.reduceSub,Nat.reduceMul,Nat.reduceBEq,reduceIte,reduceCtorEq,h1]
   | none =>
    rw[hc] at hC
    refine callX_fn 3 (hC) (by simp only[go_sem]) rfl ?_
    simp (config:={ decide:=true }) only[go_sem,Int.reduceToNat,Nat.reduceAdd,Nat.reduceSub,Nat.reduceMul,Nat.reduceBEq,reduceIte,reduceCtorEq,h1]
    refine callX_fn 3 (hL) (by simp only[go_sem]) nz_owStrs ?_
    have hlen:=sortedMS_length (foldC [] (locL f))
    by_cases h4:4<(foldC [] (locL f)).length
    ·have h4' : ((4:Int)<((foldC [] (locL f)).length:Int))=True:=by simp only[eq_iff_iff,iff_true];omega
     simp (config:={ decide:=true }) only[go_sem,Int.reduceToNat,Nat.reduceAdd,Nat.reduceSub,Nat.reduceMul,Nat.reduceBEq,reduceIte,reduceCtorEq,h1,owStrs,hlen,h4']
     unfold locO
     rw[if_pos h4]
     rfl
    ·have h4' : ((4:Int)<((foldC [] (locL f)).length:Int))=False:=by simp only[eq_iff_iff,iff_false];omega
     simp (config:={ decide:=true }) only[go_sem,Int.reduceToNat,Nat.reduceAdd,Nat.reduceSub,Nat.reduceMul,Nat.reduceBEq,reduceIte,reduceCtorEq,h1,owStrs,hlen,h4']
     unfold locO
     rw[if_neg h4]
     rfl
theorem validCheck (f:Fl) (ok:OkF f):HFn Tryz.prog 25 [fileH f] (.tu [.v (.int .i64 (checkF f).1),.v (.int .i64 (checkF f).2.1),.v (.int .i64 (checkF f).2.2)]):=by
 have hA:=validAll f ok
 unfold checkF
 refine HCalls_body (fn:=Tryz.f25) 16 [2,3,4] (by kernel_rfl) rfl (by kernel_rfl) (HW.run 400 (by kernel_rfl) ?_)
 simp (config:={ decide:=true }) only[go_sem,Int.reduceToNat,Nat.reduceAdd,Nat.reduceSub,Nat.reduceMul,Nat.reduceBEq,reduceIte,reduceCtorEq]
 cases ha:allO f with
 | none =>
  rw[ha] at hA
  refine callX_fn 3 (hA) (by simp only[go_sem]) rfl ?_
  simp (config:={ decide:=true }) only[go_sem,Int.reduceToNat,Nat.reduceAdd,Nat.reduceSub,Nat.reduceMul,Nat.reduceBEq,reduceIte,reduceCtorEq]
  refine ⟨_,asNil (k:=1) rfl,?_⟩
  rintro r H' ⟨rfl,rfl⟩ -
  simp (config:={ decide:=true }) only[go_sem,Int.reduceToNat,Nat.reduceAdd,Nat.reduceSub,Nat.reduceMul,Nat.reduceBEq,reduceIte,reduceCtorEq]
 | some w =>
  obtain ⟨a,b,c⟩:=w
  rw[ha] at hA
  refine callX_fn 3 (hA) (by simp only[go_sem]) rfl ?_
  simp (config:={ decide:=true }) only[go_sem,Int.reduceToNat,Nat.reduceAdd,Nat.reduceSub,Nat.reduceMul,Nat.reduceBEq,reduceIte,reduceCtorEq]
  refine ⟨_,asHit (k:=1) a b c rfl,?_⟩
  rintro r H' ⟨rfl,rfl⟩ -
  simp (config:={ decide:=true }) only[go_sem,Int.reduceToNat,Nat.reduceAdd,Nat.reduceSub,Nat.reduceMul,Nat.reduceBEq,reduceIte,reduceCtorEq]
  refine HW.tree 1 (.light 0 (.light 1 (.light 2 (.light 3 (.light 4 (.light 5 (.light 6 (.light 7 (.light 8 .leaf))))))))) follows (by kernel_rfl) (by kernel_rfl) ?_
  simp (config:={ decide:=true }) only[go_sem,Int.reduceToNat,Nat.reduceAdd,Nat.reduceSub,Nat.reduceMul,Nat.reduceBEq,reduceIte,reduceCtorEq]
end Go.Proofs.YtmapdjdnnhlpiaaGreatDoor
namespace Go.Proofs.YtmapdjdnnhlpiaaGreatDoor
open Go.RowKit
section
variable {N L:Nat} {T:Nat→HV} {H:Heap}
end
end Go.Proofs.YtmapdjdnnhlpiaaGreatDoor
namespace Go.Proofs.YtmapdjdnnhlpiaaGreatDoor
open Go.RowKit
set_option maxRecDepth 8000
def towrow (x:List LT):List HV:=[.ow 50 5 (lns x)]
def towR (l:List (List LT)):List (List HV):=l.map towrow
def lorow (x:List Int):List HV:=[.ow 3 1 (ints x)]
def lowR (l:List (List Int)):List (List HV):=l.map lorow
theorem towR_len {l:List (List LT)}:(towR l).length=l.length:=by simp[towR]
theorem lowR_len {l:List (List Int)}:(lowR l).length=l.length:=by simp[lowR]
theorem towR_nmR {m:Nat}:∀{l:List (List LT)},nmR m (towR l)=true
 | []=>rfl
 | x::l=>by
  show nmR m (towrow x::towR l)=true
  simp only[nmR,towrow,nmL,nm,towR_nmR,Bool.and_self]
theorem lowR_nmR {m:Nat}:∀{l:List (List Int)},nmR m (lowR l)=true
 | []=>rfl
 | x::l=>by
  show nmR m (lorow x::lowR l)=true
  simp only[nmR,lorow,nmL,nm,lowR_nmR,Bool.and_self]
theorem towR_rowsLen {l:List (List LT)}:RowsLen (towR l) 1=True:=by
 simp only[RowsLen,towR,List.mem_map,eq_iff_iff,iff_true]
 rintro r ⟨a,_,rfl⟩;rfl
theorem lowR_rowsLen {l:List (List Int)}:RowsLen (lowR l) 1=True:=by
 simp only[RowsLen,lowR,List.mem_map,eq_iff_iff,iff_true]
 rintro r ⟨a,_,rfl⟩;rfl
theorem towR_snoc {l:List (List LT)} {x:List LT}:towR l++[towrow x]=towR (l++[x]):=by simp[towR]
theorem lowR_snoc {l:List (List Int)} {x:List Int}:lowR l++[lorow x]=lowR (l++[x]):=by simp[lowR]
attribute [go_sem] towR_len lowR_len towR_nmR lowR_nmR towR_rowsLen lowR_rowsLen
structure PS where
 f:Fl
 next:Int
 lines:List (List Int)
 head:Int
 fin:Int
abbrev rO (s:PS) (a b c d:HV):HObj:=⟨58,9,[[.v (str s.f.name),a,b,.v (.bool s.f.all),c,.v (.int .i64 s.next),d,.v (.int .i64 s.head),.v (.int .i64 s.fin)]]⟩
abbrev pO (s:PS):HObj:=rO s (.ow 44 2 (cls s.f.init)) (.ow 47 1 (towR s.f.thr)) (.ow 53 3 (ats s.f.cond)) (.ow 38 1 (lowR s.lines))
abbrev zO:HObj:=⟨27,5,[[.v (str []),.v (.slice none 0 0),.v (.slice none 0 0),.v (.bool false),.v (.slice none 0 0)]]⟩
def cellsF:List (List UInt8)→List (List UInt8×Int)×Bool
 | []=>([],true)
 | [_]=>([],false)
 | a::b::r=>if (numB b).2=false then ([],false) else ((a,(numB b).1)::(cellsF r).1,(cellsF r).2)
theorem cellsF_two {r:List (List UInt8)} {a b:List UInt8} (h0:r[0]?=some a) (h1:r[1]?=some b):cellsF r=if (numB b).2=false then ([],false) else ((a,(numB b).1)::(cellsF (r.drop 2)).1,(cellsF (r.drop 2)).2):=by
 match r,h0,h1 with
 | _::_::r,h0,h1 =>
  simp at h0 h1
  subst h0 h1
  rw[cellsF];rfl
theorem cellsF_few {r:List (List UInt8)} (h:¬1<r.length):cellsF r=([],decide ((r.length:Int)=0)):=by
 match r,h with
 | [],_=>rfl
 | [_],_=>rfl
 | _::_::_,h=>simp at h
theorem cellsF_len:∀(w:List (List UInt8)),(cellsF w).1.length≤w.length
 | []=>by simp[cellsF]
 | [_]=>by simp[cellsF]
 | a::b::r=>by
  rw[cellsF]
  have:=cellsF_len r
  split <;> simp;omega
abbrev withInit (s:PS) (x:List (List UInt8×Int)):PS:={ s with f:={ s.f with init:=x } }
abbrev withCond (s:PS) (x:List AT):PS:={ s with f:={ s.f with cond:=x } }
theorem nm_p (s:PS) (rest:Heap):nmH 2 (some zO::some (pO s)::rest)=true:=by
 simp (config:={ decide:=true }) only[go_sem,Int.reduceToNat,Nat.reduceAdd,Nat.reduceSub,Nat.reduceMul,Nat.reduceBEq,reduceIte,reduceCtorEq,nmH,List.take_succ_cons,List.take_zero,List.all_cons,List.all_nil,nmR,nmL,nm,cls_nmR,towR_nmR,ats_nmR,lowR_nmR,Bool.and_self]
theorem endP_p {s:PS} {x:HV} {rest:Heap} {Q:HV→Heap→Prop} (h:Q x [some zO,some (pO s)]):endP 2 Q (x,some zO::some (pO s)::rest):=⟨nm_p s rest,h⟩
set_option maxHeartbeats 8000000 in
theorem pCells (s:PS) (w:List (List UInt8)) (hw:∀x∈w,x.length≤1000000) (hn:w.length≤1000000) (hi:s.f.init.length≤1000000) :
  HCalls Tryz.prog 38 [some zO,some (pO s)] [.pt 1 1 0 0,.sl (strs w)] (fun x H'=>x=.v (.bool (cellsF w).2)∧H'=[some zO,some (pO (withInit s (s.f.init++(cellsF w).1)))]):=by
 refine HCalls_body (fn:=Tryz.f38) 40 [4] (by kernel_rfl) rfl (by kernel_rfl) (HW.run 400 (by kernel_rfl) ?_)
 simp (config:={ decide:=true }) only[go_sem,Int.reduceToNat,Nat.reduceAdd,Nat.reduceSub,Nat.reduceMul,Nat.reduceBEq,reduceIte,reduceCtorEq]
 refine HW.loopG (fun k T H=>∃(acc:List (List UInt8×Int)) (r:List (List UInt8)),k=r.length∧r.length≤1000000∧acc.length+r.length≤2000000∧(∀x∈r,x.length≤1000000)∧s.f.init++(cellsF w).1=acc++(cellsF r).1∧(cellsF w).2=(cellsF r).2∧T 0=.pt 1 1 0 0∧T 1=.sl (strs r)∧H=[some zO,some (rO s (.hd 2 0 acc.length) (.ow 47 1 (towR s.f.thr)) (.ow 53 3 (ats s.f.cond)) (.ow 38 1 (lowR s.lines))),some ⟨44,2,cls acc⟩]) w.length ⟨_,_,Ghost.open 1 0 1,s.f.init,w,rfl,hn,by omega,hw,rfl,rfl,rfl,rfl,?_⟩ ?_
 ·rw[←cls_length];rfl
 rintro k T H ⟨acc,r,rfl,hr,har,hrw,hI1,hI2,h0,h1,rfl⟩
 by_cases hlt:1<r.length
 ·have hlt' : ((1:Int)<(r.length:Int))=True:=by simp only[eq_iff_iff,iff_true];omega
  have e0:r[0]?=some r[0]:=List.getElem?_eq_getElem (by omega)
  have e1:r[1]?=some r[1]:=List.getElem?_eq_getElem hlt
  have hb:=hrw _ (List.getElem_mem hlt)
  generalize r[0]=a at e0
  generalize r[1]=b at e1 hb
  rw[cellsF_two e0 e1] at hI1 hI2
  cases hnb:(numB b).2 with
  | false =>
   rw[if_pos hnb] at hI1 hI2
   refine HW.ghost (Ghost.absorbHd 1 0 1 (j:=2) rfl rfl rfl rfl (by decide) cls_length.symm cls_nmR) ?_
   refine HW.run 200 (by kernel_rfl) ?_
   simp (config:={ decide:=true }) only[go_sem,Int.reduceToNat,Nat.reduceAdd,Nat.reduceSub,Nat.reduceMul,Nat.reduceBEq,reduceIte,reduceCtorEq,h0,h1,hlt',e0,e1]
   refine callX_fn 3 (numGet b hb) (by simp only[go_sem]) rfl ?_
   simp (config:={ decide:=true }) only[go_sem,Int.reduceToNat,Nat.reduceAdd,Nat.reduceSub,Nat.reduceMul,Nat.reduceBEq,reduceIte,reduceCtorEq,h0,h1,hnb]
   refine endP_p (s:=withInit s acc) ⟨by rw[hI2],?_⟩
   rw[hI1,List.append_nil]
  | true =>
   rw[if_neg (by simp[hnb])] at hI1 hI2
   refine HW.run 200 (by kernel_rfl) ?_
   simp (config:={ decide:=true }) only[go_sem,Int.reduceToNat,Nat.reduceAdd,Nat.reduceSub,Nat.reduceMul,Nat.reduceBEq,reduceIte,reduceCtorEq,h0,h1,hlt',e0,e1]
   refine callX_fn 3 (numGet b hb) (by simp only[go_sem]) rfl ?_
   simp (config:={ decide:=true }) only[go_sem,Int.reduceToNat,Nat.reduceAdd,Nat.reduceSub,Nat.reduceMul,Nat.reduceBEq,reduceIte,reduceCtorEq,h0,h1,hnb,e0,e1]
   refine HW.tree 1 (.light 0 (.light 1 (.light 2 (.light 3 (.light 4 (.light 5 (.light 6 (.light 7 (.light 8 (.light 9 (.light 10 (.heavy 11 [0,1,2,3,4,5] (.heavy 12 [0] (.light 13 (.light 14 (.light 15 (.heavy 16 [] .leaf .stop)))) .stop) .stop)))))))))))) follows (by kernel_rfl) (by kernel_rfl) ?_
   simp (config:={ decide:=true }) only[go_sem,Int.reduceToNat,Nat.reduceAdd,Nat.reduceSub,Nat.reduceMul,Nat.reduceBEq,reduceIte,reduceCtorEq,h0,h1,hnb,e0,e1]
   have htk:List.take (r.length-2) (List.drop 2 r)=List.drop 2 r:=List.take_of_length_le (by rw[List.length_drop];omega)
   have hrd:(r.drop 2).length≤r.length-2:=by rw[List.length_drop];omega
   refine ⟨by omega,⟨by omega,by omega⟩,by omega,_,_,Ghost.trunc [0,1] 3 (by omega) ?_ ?_,(r.drop 2).length,by omega,acc++[(a,(numB b).1)],r.drop 2,rfl,by omega,by simp only[List.length_append,List.length_cons,List.length_nil];omega,fun x hx=>hrw x (List.mem_of_mem_drop hx),by rw[hI1,List.append_assoc];rfl,hI2,?_,?_,?_⟩
   all_goals first | (simp (config:={ decide:=true }) only[go_sem,Nat.reduceBEq,reduceIte,h0,h1,htk];done) | (simp (config:={ decide:=true }) only[go_sem,Int.reduceToNat,Nat.reduceAdd,Nat.reduceSub,Nat.reduceMul,Nat.reduceBEq,reduceIte,reduceCtorEq,h0,h1,List.length_append,List.length_cons,List.length_nil];done)
 ·have hlt' : ((1:Int)<(r.length:Int))=False:=by simp only[eq_iff_iff,iff_false];omega
  rw[cellsF_few hlt] at hI1 hI2
  refine HW.ghost (Ghost.absorbHd 1 0 1 (j:=2) rfl rfl rfl rfl (by decide) cls_length.symm cls_nmR) ?_
  refine HW.run 200 (by kernel_rfl) ?_
  simp (config:={ decide:=true }) only[go_sem,Int.reduceToNat,Nat.reduceAdd,Nat.reduceSub,Nat.reduceMul,Nat.reduceBEq,reduceIte,reduceCtorEq,h0,h1,hlt']
  refine endP_p (s:=withInit s acc) ⟨by rw[hI2],?_⟩
  rw[hI1,List.append_nil]
def atomsF:List (List UInt8)→List AT×Bool
 | []=>([],true)
 | x::r=>if (atomB x).2=false then ([],false) else ((atomB x).1::(atomsF r).1,(atomsF r).2)
theorem atomsF_len:∀(w:List (List UInt8)),(atomsF w).1.length≤w.length
 | []=>by simp[atomsF]
 | a::r=>by
  rw[atomsF]
  have:=atomsF_len r
  split <;> simp;omega
set_option maxHeartbeats 8000000 in
theorem pAtoms (s:PS) (w:List (List UInt8)) (hw:∀x∈w,x.length≤1000000) (hn:w.length≤1000000) (hi:s.f.cond.length≤1000000) :
  HCalls Tryz.prog 39 [some zO,some (pO s)] [.pt 1 1 0 0,.sl (strs w)] (fun x H'=>x=.v (.bool (atomsF w).2)∧H'=[some zO,some (pO (withCond s (s.f.cond++(atomsF w).1)))]):=by
 refine HCalls_body (fn:=Tryz.f39) 35 [4] (by kernel_rfl) rfl (by kernel_rfl) (HW.run 400 (by kernel_rfl) ?_)
 simp (config:={ decide:=true }) only[go_sem,Int.reduceToNat,Nat.reduceAdd,Nat.reduceSub,Nat.reduceMul,Nat.reduceBEq,reduceIte,reduceCtorEq]
 refine HW.loopG (fun k T H=>∃(i:Nat) (acc:List AT),k=w.length-i∧i≤w.length∧acc.length≤1000000+i∧s.f.cond++(atomsF w).1=acc++(atomsF (w.drop i)).1∧(atomsF w).2=(atomsF (w.drop i)).2∧T 0=.pt 1 1 0 0∧T 9=.sl (strs w)∧T 10=.v (.int .i64 w.length)∧T 11=.v (.int .i64 i)∧H=[some zO,some (rO s (.ow 44 2 (cls s.f.init)) (.ow 47 1 (towR s.f.thr)) (.hd 2 0 acc.length) (.ow 38 1 (lowR s.lines))),some ⟨53,3,ats acc⟩]) w.length ⟨_,_,Ghost.open 1 0 4,0,s.f.cond,rfl,by omega,by omega,rfl,rfl,rfl,rfl,rfl,rfl,?_⟩ ?_
 ·rw[←ats_length];rfl
 rintro k T H ⟨i,acc,rfl,hil,har,hI1,hI2,h0,h9,h10,h11,rfl⟩
 by_cases hlt:i<w.length
 ·have hlt' : ((i:Int)<(w.length:Int))=True:=by simp only[eq_iff_iff,iff_true];omega
  have hx:w[i]?=some w[i]:=List.getElem?_eq_getElem hlt
  have hdr:w.drop i=w[i]::w.drop (i+1):=List.drop_eq_getElem_cons hlt
  have hb:=hw _ (List.getElem_mem hlt)
  rw[hdr,atomsF] at hI1 hI2
  generalize w[i]=b at hx hb hI1 hI2
  cases hnb:(atomB b).2 with
  | false =>
   rw[if_pos hnb] at hI1 hI2
   refine HW.ghost (Ghost.absorbHd 1 0 4 (j:=2) rfl rfl rfl rfl (by decide) ats_length.symm ats_nmR) ?_
   refine HW.run 200 (by kernel_rfl) ?_
   simp (config:={ decide:=true }) only[go_sem,Int.reduceToNat,Nat.reduceAdd,Nat.reduceSub,Nat.reduceMul,Nat.reduceBEq,reduceIte,reduceCtorEq,h0,h9,h10,h11,hlt',hx]
   refine callX_fn 3 (opsAtom b hb) (by simp only[go_sem]) rfl ?_
   simp (config:={ decide:=true }) only[go_sem,Int.reduceToNat,Nat.reduceAdd,Nat.reduceSub,Nat.reduceMul,Nat.reduceBEq,reduceIte,reduceCtorEq,h0,h9,h10,h11,hnb]
   refine endP_p (s:=withCond s acc) ⟨by rw[hI2],?_⟩
   rw[hI1,List.append_nil]
  | true =>
   rw[if_neg (by simp[hnb])] at hI1 hI2
   refine HW.run 200 (by kernel_rfl) ?_
   simp (config:={ decide:=true }) only[go_sem,Int.reduceToNat,Nat.reduceAdd,Nat.reduceSub,Nat.reduceMul,Nat.reduceBEq,reduceIte,reduceCtorEq,h0,h9,h10,h11,hlt',hx]
   refine callX_fn 3 (opsAtom b hb) (by simp only[go_sem]) rfl ?_
   simp (config:={ decide:=true }) only[go_sem,Int.reduceToNat,Nat.reduceAdd,Nat.reduceSub,Nat.reduceMul,Nat.reduceBEq,reduceIte,reduceCtorEq,h0,h9,h10,h11,hnb]
   refine HW.tree 1 (.light 0 (.light 1 (.light 2 (.light 3 (.light 4 (.light 5 (.light 6 (.heavy 7 [0,1,2,3,4,5] (.heavy 8 [0] (.light 9 (.light 10 (.light 11 (.heavy 12 [] .leaf .stop)))) .stop) .stop)))))))) follows (by kernel_rfl) (by kernel_rfl) ?_
   simp (config:={ decide:=true }) only[go_sem,Int.reduceToNat,Nat.reduceAdd,Nat.reduceSub,Nat.reduceMul,Nat.reduceBEq,reduceIte,reduceCtorEq,h0,h9,h10,h11]
   refine ⟨⟨by omega,by omega⟩,_,_,Ghost.trunc [0,9,10,11] 3 (by omega) ?_ ?_,w.length-(i+1),by omega,i+1,acc++[(atomB b).1],rfl,by omega,by simp only[List.length_append,List.length_cons,List.length_nil];omega,by rw[hI1,List.append_assoc];rfl,hI2,?_,?_,?_,?_,?_⟩
   all_goals first | (simp (config:={ decide:=true }) only[go_sem,Nat.reduceBEq,reduceIte,h0,h9,h10,h11];done) | (simp (config:={ decide:=true }) only[go_sem,Nat.reduceBEq,reduceIte];rw[w64 (by omega) (by omega)];rfl) | (simp (config:={ decide:=true }) only[go_sem,Int.reduceToNat,Nat.reduceAdd,Nat.reduceSub,Nat.reduceMul,Nat.reduceBEq,reduceIte,reduceCtorEq,h0,h9,List.length_append,List.length_cons,List.length_nil];done)
 ·have hlt' : ((i:Int)<(w.length:Int))=False:=by simp only[eq_iff_iff,iff_false];omega
  rw[List.drop_of_length_le (by omega)] at hI1 hI2
  refine HW.ghost (Ghost.absorbHd 1 0 4 (j:=2) rfl rfl rfl rfl (by decide) ats_length.symm ats_nmR) ?_
  refine HW.run 200 (by kernel_rfl) ?_
  simp (config:={ decide:=true }) only[go_sem,Int.reduceToNat,Nat.reduceAdd,Nat.reduceSub,Nat.reduceMul,Nat.reduceBEq,reduceIte,reduceCtorEq,h0,h9,h10,h11,hlt']
  refine endP_p (s:=withCond s acc) ⟨by rw[hI2];rfl,?_⟩
  rw[hI1]
  show _=[some zO,some (pO (withCond s (acc++[])))]
  rw[List.append_nil]
end Go.Proofs.YtmapdjdnnhlpiaaGreatDoor
namespace Go.Proofs.YtmapdjdnnhlpiaaGreatDoor
open Go.RowKit
set_option maxRecDepth 8000
theorem Ghost.openOw {N L:Nat} {T:Nat→HV} {H:Heap} (id r c:Nat) {e:TypeId} {sz:Nat} {rows:List (List HV)} {ob:HObj} {row:List HV} (ho:H[id]?=some (some ob)) (hr:ob.rows[r]?=some row) (hc:row[c]?=some (.ow e sz rows)) :
  Ghost N L T H T (H.set id (some { ob with rows:=ob.rows.set r (row.set c (.hd H.length 0 rows.length)) })++[some ⟨e,sz,rows⟩]) :=
 (Ghost.open id r c).to (by unfold gopen;simp only[ho,hr,hc])
abbrev withLast (s:PS) (pre:List (List LT)) (lpre:List (List Int)) (l:List LT) (ln:List Int):PS:={ s with f:={ s.f with thr:=pre++[l] },lines:=lpre++[ln] }
abbrev inH (s:PS) (pre:List (List LT)) (lpre:List (List Int)) (l:List LT) (ln:List Int) (rest:Heap):Heap :=
  some zO::some (rO s (.ow 44 2 (cls s.f.init)) (.hd 2 0 (pre.length+1)) (.ow 53 3 (ats s.f.cond)) (.hd 3 0 (lpre.length+1))) ::
   some ⟨47,1,towR pre++[[.hd 4 0 l.length]]⟩::some ⟨38,1,lowR lpre++[[.hd 5 0 ln.length]]⟩::some ⟨50,5,lns l⟩::some ⟨3,1,ints ln⟩::rest
theorem towR_at (pre:List (List LT)) (X:List HV):(towR pre++[X])[pre.length]?=some X:=row_last towR_len
theorem towR_put (pre:List (List LT)) (X Y:List HV):(towR pre++[X]).set pre.length Y=towR pre++[Y]:=set_last towR_len
theorem lowR_at (pre:List (List Int)) (X:List HV):(lowR pre++[X])[pre.length]?=some X:=row_last lowR_len
theorem lowR_put (pre:List (List Int)) (X Y:List HV):(lowR pre++[X]).set pre.length Y=lowR pre++[Y]:=set_last lowR_len
theorem inOpen {N:Nat} {T:Nat→HV} {s:PS} {pre:List (List LT)} {lpre:List (List Int)} {l:List LT} {ln:List Int} (h1:s.f.thr=pre++[l]) (h2:s.lines=lpre++[ln]) :
  Ghost N 2 T [some zO,some (pO s)] T (inH s pre lpre l ln []):=by
 have e1:towR s.f.thr=towR pre++[towrow l]:=by rw[h1,towR_snoc]
 have e2:lowR s.lines=lowR lpre++[lorow ln]:=by rw[h2,lowR_snoc]
 have g1:=Ghost.openOw (N:=N) (L:=2) (T:=T) (H:=[some zO,some (pO s)]) 1 0 2 (e:=47) (sz:=1) (rows:=towR pre++[towrow l]) rfl rfl (by show some (HV.ow _ _ (towR s.f.thr))=_;rw[e1])
 have g2:=g1.trans (Ghost.openOw 1 0 6 (e:=38) (sz:=1) (rows:=lowR lpre++[lorow ln]) rfl rfl (by show some (HV.ow _ _ (lowR s.lines))=_;rw[e2]))
 have g3:=g2.trans (Ghost.openOw 2 pre.length 0 (e:=50) (sz:=5) (rows:=lns l) rfl (towR_at pre _) rfl)
 have g4:=g3.trans (Ghost.openOw 3 lpre.length 0 (e:=3) (sz:=1) (rows:=ints ln) rfl (lowR_at lpre _) rfl)
 refine g4.to ?_
 simp only[List.length_append,List.length_cons,List.length_nil,towR_len,lowR_len,lns_length,ints_length,towR_put,lowR_put,towrow,lorow,List.set_cons_succ,List.set_cons_zero,List.cons_append,List.nil_append,towR_at]
theorem inClose {N:Nat} {T:Nat→HV} {s:PS} {pre:List (List LT)} {lpre:List (List Int)} {l:List LT} {ln:List Int} {rest:Heap} :
  Ghost N 2 T (inH s pre lpre l ln rest) T (some zO::some (pO (withLast s pre lpre l ln))::none::none::none::none::rest):=by
 have g1:=Ghost.absorbHd (N:=N) (L:=2) (T:=T) (H:=inH s pre lpre l ln rest) 2 pre.length 0 (j:=4) rfl (towR_at pre _) rfl rfl (by decide) lns_length.symm lns_nmR
 have g2:=g1.trans (Ghost.absorbHd 3 lpre.length 0 (j:=5) rfl (lowR_at lpre _) rfl rfl (by decide) ints_length.symm ints_nmR)
 have g3:=g2.trans (Ghost.absorbHd 1 0 2 (j:=2) (len:=pre.length+1) rfl rfl rfl rfl (by decide) (by simp[towR_len]) (by
  show nmR 0 ((towR pre++[_]).set pre.length _)=true
  rw[towR_put];exact towR_nmR (l:=pre++[l])▸by rw[←towR_snoc];rfl))
 have g4:=g3.trans (Ghost.absorbHd 1 0 6 (j:=3) (len:=lpre.length+1) rfl rfl rfl rfl (by decide) (by simp[lowR_len]) (by
  show nmR 0 ((lowR lpre++[_]).set lpre.length _)=true
  rw[lowR_put];exact lowR_nmR (l:=lpre++[ln])▸by rw[←lowR_snoc];rfl))
 refine g4.to ?_
 show some zO::some (rO s _ (.ow _ 1 ((towR pre++[_]).set pre.length _)) _ (.ow _ 1 ((lowR lpre++[_]).set lpre.length _)))::_=_
 rw[towR_put,lowR_put]
 show some zO::some (rO s _ (.ow _ 1 (towR pre++[towrow l])) _ (.ow _ 1 (lowR lpre++[lorow ln])))::_=_
 rw[towR_snoc,lowR_snoc]
 rfl
theorem inClose' {N:Nat} {T:Nat→HV} {s:PS} {pre:List (List LT)} {lpre:List (List Int)} {l:List LT} {ln:List Int} {rest:Heap} {a b c d:Nat} (ha:a=pre.length+1) (hb:b=lpre.length+1) (hc:c=l.length) (hd:d=ln.length) :
    Ghost N 2 T (some zO::some (rO s (.ow 44 2 (cls s.f.init)) (.hd 2 0 a) (.ow 53 3 (ats s.f.cond)) (.hd 3 0 b)) ::
     some ⟨47,1,towR pre++[[.hd 4 0 c]]⟩::some ⟨38,1,lowR lpre++[[.hd 5 0 d]]⟩::some ⟨50,5,lns l⟩::some ⟨3,1,ints ln⟩::rest) T (some zO::some (pO (withLast s pre lpre l ln))::none::none::none::none::rest):=by
  subst ha hb hc hd
  exact inClose
set_option maxHeartbeats 8000000 in
theorem pInner (s:PS) (pre:List (List LT)) (lpre:List (List Int)) (l:List LT) (ln:List Int) (w:List (List UInt8)) (at_:Int) (h1:s.f.thr=pre++[l]) (h2:s.lines=lpre++[ln]) (h3:lpre.length=pre.length) (hp:pre.length≤100000) (hl:l.length≤100000) (hln:ln.length≤100000) (hw:∀x∈w,x.length≤1000000) (hn:w.length≤1000000) :
  HCalls Tryz.prog 40 [some zO,some (pO s)] [.pt 1 1 0 0,.sl (strs w),.v (.int .i64 at_)] (fun x H'=>x=.v (.bool (getB w).2)∧H'=[some zO,some (pO (withLast s pre lpre (l++[(getB w).1]) (ln++[at_])))]):=by
 have hw0:IntKind.i64.wrap (((pre.length+1:Nat):Int)-1)=(pre.length:Int):=by rw[w64 (by omega) (by omega)];omega
 have ta:=towR_at pre
 have tp:=towR_put pre
 have la:=lowR_at lpre
 have lp:=lowR_put lpre
 rw[h3] at la lp
 refine HCalls_body (fn:=Tryz.f40) 59 [6] (by kernel_rfl) rfl (by kernel_rfl) (HW.ghost (inOpen h1 h2) (HW.run 400 (by kernel_rfl) ?_))
 simp (config:={ decide:=true }) only[go_sem,Int.reduceToNat,Nat.reduceAdd,Nat.reduceSub,Nat.reduceMul,Nat.reduceBEq,reduceIte,reduceCtorEq]
 refine callX_fn 3 (opsGet w hw hn) (by simp only[go_sem]) rfl ?_
 simp (config:={ decide:=true }) only[go_sem,Int.reduceToNat,Nat.reduceAdd,Nat.reduceSub,Nat.reduceMul,Nat.reduceBEq,reduceIte,reduceCtorEq,hw0]
 refine HW.tree 1 (.light 0 (.light 1 (.light 2 (.light 3 (.light 4 (.light 5 (.light 6 (.light 7 (.light 8 (.light 9 (.light 10 (.light 11 (.light 12 (.light 13 (.light 14 (.light 15 (.heavy 16 [0,1,2,3,4,5,6,7,8,9,10,11,12,13,14] (.heavy 17 [0,1,2,3,4,5] (.light 18 (.light 19 (.heavy 20 [] .leaf .stop))) .stop) .stop))))))))))))))))) follows (by kernel_rfl) (by kernel_rfl) ?_
 simp (config:={ decide:=true }) only[go_sem,Int.reduceToNat,Nat.reduceAdd,Nat.reduceSub,Nat.reduceMul,Nat.reduceBEq,reduceIte,reduceCtorEq,ta,tp,la,lp,h3,hw0]
 refine ⟨by omega,by simp,⟨by omega,by omega⟩,by omega,by simp,?_⟩
 refine HW.treeI (fun T H=>T 8=.v (.bool (getB w).2)∧H=[some zO,some (pO (withLast s pre lpre (l++[(getB w).1]) (ln++[at_])))]) (.light 0 (.light 1 (.light 2 (.light 3 (.light 4 (.light 5 (.light 6 (.light 7 (.light 8 (.light 9 (.light 10 (.light 11 (.light 12 (.heavy 13 [0,1,2,3,4,5,6,7,8,9,10,11] (.heavy 14 [0,1,2,3,4] (.light 15 (.heavy 16 [] .leaf .stop)) .stop) .stop)))))))))))))) follows (by kernel_rfl) (by kernel_rfl) ?_ ?_
 ·simp (config:={ decide:=true }) only[go_sem,Int.reduceToNat,Nat.reduceAdd,Nat.reduceSub,Nat.reduceMul,Nat.reduceBEq,reduceIte,reduceCtorEq,ta,tp,la,lp,h3]
  repeat (with_reducible refine And.intro ?_ ?_;·(with_reducible and_intros) <;> omega)
  refine GQ.step (inClose' (s:=s) (pre:=pre) (lpre:=lpre) (l:=l++[(getB w).1]) (ln:=ln++[at_]) rfl (by rw[h3]) (by simp) (by simp)) (GQ.step (Ghost.trunc [8] 2 (by omega) ?_ (nm_p _ _)) (GQ.done ⟨?_,rfl⟩))
  ·simp (config:={ decide:=true }) only[go_sem,Nat.reduceBEq,reduceIte]
  ·simp (config:={ decide:=true }) only[go_sem,Nat.reduceBEq,reduceIte]
 rintro T H ⟨h8,rfl⟩
 simp (config:={ decide:=true }) only[go_sem,Int.reduceToNat,Nat.reduceAdd,Nat.reduceSub,Nat.reduceMul,Nat.reduceBEq,reduceIte,reduceCtorEq,h8]
 exact endP_p ⟨rfl,rfl⟩
end Go.Proofs.YtmapdjdnnhlpiaaGreatDoor
namespace Go.Proofs.YtmapdjdnnhlpiaaGreatDoor
open Go.RowKit
set_option maxRecDepth 8000
def x86B:List UInt8:=[120,56,54]
def initB:List UInt8:=[105,110,105,116]
def existsB:List UInt8:=[101,120,105,115,116,115]
def forallB:List UInt8:=[102,111,114,97,108,108]
def threadB:List UInt8:=[116,104,114,101,97,100]
abbrev withNext (s:PS) (n:Int):PS:={ s with next:=n }
def headF (s:PS) (w:List (List UInt8)) (at_:Int):PS×Bool :=
 if w[0]?=some x86B∧w.length=2 then ({ s with f:={ s.f with name:=w[1]?.getD [] },head:=at_,next:=1 },true) else (s,false)
def startF (s:PS) (w:List (List UInt8)):PS×Bool :=
 if w[0]?=some initB then (withInit (withNext s 2) (s.f.init++(cellsF (w.drop 1)).1),(cellsF (w.drop 1)).2) else (withNext s 2,false)
def threadF (s:PS) (w:List (List UInt8)):PS×Bool :=
 if w[0]?=some threadB∧w.length=1 then ({ s with f:={ s.f with thr:=s.f.thr++[[]] },lines:=s.lines++[[]],next:=3 },true) else (s,false)
def lastF {α:Type} (l:List (List α)) (x:α):List (List α):=l.dropLast++[(l.getLast?.getD [])++[x]]
def bodyF (s:PS) (w:List (List UInt8)) (at_:Int):PS×Bool :=
 if w[0]?=some existsB∨w[0]?=some forallB then
  ({ s with f:={ s.f with all:=decide (w[0]?=some forallB),cond:=s.f.cond++(atomsF (w.drop 1)).1 },fin:=at_,next:=4 },(atomsF (w.drop 1)).2)
 else if w[0]?=some threadB then threadF s w
 else ({ s with f:={ s.f with thr:=lastF s.f.thr (getB w).1 },lines:=lastF s.lines at_ },(getB w).2)
def readF (s:PS) (w:List (List UInt8)) (at_:Int):PS×Bool :=
 if s.next=0 then headF s w at_
 else if s.next=1 then startF s w
 else if s.next=3 then bodyF s w at_
 else if s.next=2 then threadF s w
 else (s,false)
abbrev thH (s:PS) (rest:Heap):Heap :=
  some zO::some (rO s (.ow 44 2 (cls s.f.init)) (.hd 2 0 s.f.thr.length) (.ow 53 3 (ats s.f.cond)) (.hd 3 0 s.lines.length)) ::
   some ⟨47,1,towR s.f.thr⟩::some ⟨38,1,lowR s.lines⟩::rest
theorem thOpen {N:Nat} {T:Nat→HV} {s:PS}:Ghost N 2 T [some zO,some (pO s)] T (thH s []):=by
 have g1:=Ghost.openOw (N:=N) (L:=2) (T:=T) (H:=[some zO,some (pO s)]) 1 0 2 (e:=47) (sz:=1) (rows:=towR s.f.thr) rfl rfl rfl
 have g2:=g1.trans (Ghost.openOw 1 0 6 (e:=38) (sz:=1) (rows:=lowR s.lines) rfl rfl rfl)
 refine g2.to ?_
 simp only[towR_len,lowR_len,List.length_append,List.length_cons,List.length_nil,List.set_cons_succ,List.set_cons_zero,List.cons_append,List.nil_append]
theorem thClose {N:Nat} {T:Nat→HV} {s:PS} {rest:Heap} {a b:Nat} (ha:a=s.f.thr.length+1) (hb:b=s.lines.length+1) :
  Ghost N 2 T (some zO::some (rO s (.ow 44 2 (cls s.f.init)) (.hd 2 0 a) (.ow 53 3 (ats s.f.cond)) (.hd 3 0 b)) ::
   some ⟨47,1,towR s.f.thr++[[.v (.slice none 0 0)]]⟩::some ⟨38,1,lowR s.lines++[[.v (.slice none 0 0)]]⟩::rest) T
   (some zO::some (pO (withLast s s.f.thr s.lines [] []))::none::none::rest):=by
 subst ha hb
 have g1:=Ghost.cell (N:=N) (L:=2) (T:=T) (H:=some zO::some (rO s (.ow 44 2 (cls s.f.init)) (.hd 2 0 (s.f.thr.length+1)) (.ow 53 3 (ats s.f.cond)) (.hd 3 0 (s.lines.length+1))) ::
   some ⟨47,1,towR s.f.thr++[[.v (.slice none 0 0)]]⟩::some ⟨38,1,lowR s.lines++[[.v (.slice none 0 0)]]⟩::rest) 2 s.f.thr.length 0 (.ow 50 5 (lns [])) rfl (towR_at _ _) rfl rfl (Conv.nilOw _ _) (by simp)
 have g2:=g1.trans (Ghost.cell 3 s.lines.length 0 (.ow 3 1 (ints [])) rfl (lowR_at _ _) rfl rfl (Conv.nilOw _ _) (by simp))
 have g3:=g2.trans (Ghost.absorbHd 1 0 2 (j:=2) (len:=s.f.thr.length+1) rfl rfl rfl rfl (by decide) (by simp[towR_len]) (by
  show nmR 0 ((towR s.f.thr++[_]).set s.f.thr.length _)=true
  rw[towR_put];exact towR_nmR (l:=s.f.thr++[[]])▸by rw[←towR_snoc];rfl))
 have g4:=g3.trans (Ghost.absorbHd 1 0 6 (j:=3) (len:=s.lines.length+1) rfl rfl rfl rfl (by decide) (by simp[lowR_len]) (by
  show nmR 0 ((lowR s.lines++[_]).set s.lines.length _)=true
  rw[lowR_put];exact lowR_nmR (l:=s.lines++[[]])▸by rw[←lowR_snoc];rfl))
 refine g4.to ?_
 show some zO::some (rO s _ (.ow _ 1 ((towR s.f.thr++[_]).set s.f.thr.length _)) _ (.ow _ 1 ((lowR s.lines++[_]).set s.lines.length _)))::_=_
 rw[towR_put,lowR_put]
 show some zO::some (rO s _ (.ow _ 1 (towR s.f.thr++[towrow []])) _ (.ow _ 1 (lowR s.lines++[lorow []])))::_=_
 rw[towR_snoc,lowR_snoc]
 rfl
structure ROk (s:PS):Prop where
 init:s.f.init.length≤100000
 cond:s.f.cond.length≤100000
 thr:s.f.thr.length≤100000
 same:s.lines.length=s.f.thr.length
 len:∀l∈s.f.thr,l.length≤100000
 lens:∀l∈s.lines,l.length≤100000
 some3:s.next=3→s.f.thr≠[]
section
variable {s:PS} {w:List (List UInt8)} {at_:Int} {k:List UInt8}
abbrev readQ (s:PS) (r:PS×Bool):HV→Heap→Prop:=fun x H'=>x=.v (.bool r.2)∧H'=[some zO,some (pO r.1)]
abbrev readC (s:PS) (w:List (List UInt8)) (at_:Int) (r:PS×Bool):Prop :=
 HCalls Tryz.prog 22 [some zO,some (pO s)] [.pt 1 1 0 0,.sl (strs w),.v (.int .i64 at_)] (readQ s r)
theorem readHead (h:s.next=0) (hk:w[0]?=some k):readC s w at_ (headF s w at_):=by
 have hn:0<w.length:=by have:=(List.getElem?_eq_some_iff.1 hk).1;omega
 have hn' : ((0:Int)<(w.length:Int))=True:=by simp only[eq_iff_iff,iff_true];omega
 by_cases h1:k=[120,56,54]
 ·by_cases h2:w.length=2
  ·have h2' : ((w.length:Int)=2)=True:=by simp only[eq_iff_iff,iff_true];omega
   have e1:w[1]?=some w[1]:=List.getElem?_eq_getElem (by omega)
   generalize w[1]=n at e1
   have h12:((1:Int)<(w.length:Int))=True:=by simp only[eq_iff_iff,iff_true];omega
   rw[show headF s w at_=({ s with f:={ s.f with name:=n },head:=at_,next:=1 },true) from by unfold headF;rw[hk,e1,if_pos ⟨by rw[h1];rfl,h2⟩];rfl]
   refine HCalls_body (fn:=Tryz.f22) 113 [6] (by kernel_rfl) rfl (by kernel_rfl) (HW.run 400 (by kernel_rfl) ?_)
   simp (config:={ decide:=true }) only[go_sem,Int.reduceToNat,Nat.reduceAdd,Nat.reduceSub,Nat.reduceMul,Nat.reduceBEq,reduceIte,reduceCtorEq,h,hk,h1,h2',e1,hn',h12]
   exact endP_p (s:={ s with f:={ s.f with name:=n },head:=at_,next:=1 }) ⟨rfl,rfl⟩
  ·have h2' : ((w.length:Int)=2)=False:=by simp only[eq_iff_iff,iff_false];omega
   rw[show headF s w at_=(s,false) from by unfold headF;rw[if_neg (fun hh=>h2 hh.2)]]
   refine HCalls_body (fn:=Tryz.f22) 113 [6] (by kernel_rfl) rfl (by kernel_rfl) (HW.run 400 (by kernel_rfl) ?_)
   simp (config:={ decide:=true }) only[go_sem,Int.reduceToNat,Nat.reduceAdd,Nat.reduceSub,Nat.reduceMul,Nat.reduceBEq,reduceIte,reduceCtorEq,h,hk,h1,h2',hn']
   exact endP_p (s:=s) ⟨rfl,rfl⟩
 ·rw[show headF s w at_=(s,false) from by unfold headF;rw[hk,if_neg (fun hh=>h1 (Option.some.inj hh.1))]]
  refine HCalls_body (fn:=Tryz.f22) 113 [6] (by kernel_rfl) rfl (by kernel_rfl) (HW.run 400 (by kernel_rfl) ?_)
  simp (config:={ decide:=true }) only[go_sem,Int.reduceToNat,Nat.reduceAdd,Nat.reduceSub,Nat.reduceMul,Nat.reduceBEq,reduceIte,reduceCtorEq,h,hk,h1,hn']
  exact endP_p (s:=s) ⟨rfl,rfl⟩
theorem readStart (h:s.next=1) (hk:w[0]?=some k) (hi:s.f.init.length≤1000000) (hw:∀x∈w,x.length≤1000000) (hl:w.length≤1000000):readC s w at_ (startF s w):=by
 have hn:0<w.length:=by have:=(List.getElem?_eq_some_iff.1 hk).1;omega
 have hn' : ((0:Int)<(w.length:Int))=True:=by simp only[eq_iff_iff,iff_true];omega
 by_cases h1:k=[105,110,105,116]
 ·have htk:List.take (w.length-1) (List.drop 1 w)=List.drop 1 w:=List.take_of_length_le (by rw[List.length_drop];omega)
  have hC:=pCells (withNext s 2) (w.drop 1) (fun x hx=>hw x (List.mem_of_mem_drop hx)) (by rw[List.length_drop];omega) hi
  rw[show startF s w=(withInit (withNext s 2) (s.f.init++(cellsF (w.drop 1)).1),(cellsF (w.drop 1)).2) from by unfold startF;rw[hk,if_pos (by rw[h1];rfl)]]
  refine HCalls_body (fn:=Tryz.f22) 113 [6] (by kernel_rfl) rfl (by kernel_rfl) (HW.run 400 (by kernel_rfl) ?_)
  simp (config:={ decide:=true }) only[go_sem,Int.reduceToNat,Nat.reduceAdd,Nat.reduceSub,Nat.reduceMul,Nat.reduceBEq,reduceIte,reduceCtorEq,h,hk,h1,hn',htk]
  refine ⟨by omega,_,hC,?_⟩
  rintro r H' ⟨rfl,rfl⟩ -
  simp (config:={ decide:=true }) only[go_sem,Int.reduceToNat,Nat.reduceAdd,Nat.reduceSub,Nat.reduceMul,Nat.reduceBEq,reduceIte,reduceCtorEq]
  exact endP_p (s:=withInit (withNext s 2) (s.f.init++(cellsF (w.drop 1)).1)) ⟨rfl,rfl⟩
 ·rw[show startF s w=(withNext s 2,false) from by unfold startF;rw[hk];exact if_neg (fun hh=>h1 (Option.some.inj hh))]
  refine HCalls_body (fn:=Tryz.f22) 113 [6] (by kernel_rfl) rfl (by kernel_rfl) (HW.run 400 (by kernel_rfl) ?_)
  simp (config:={ decide:=true }) only[go_sem,Int.reduceToNat,Nat.reduceAdd,Nat.reduceSub,Nat.reduceMul,Nat.reduceBEq,reduceIte,reduceCtorEq,h,hk,h1,hn']
  exact endP_p (s:=withNext s 2) ⟨rfl,rfl⟩
theorem readThread (h:s.next=2) (hk:w[0]?=some k) (ok:ROk s):readC s w at_ (threadF s w):=by
 have hn:0<w.length:=by have:=(List.getElem?_eq_some_iff.1 hk).1;omega
 have hn' : ((0:Int)<(w.length:Int))=True:=by simp only[eq_iff_iff,iff_true];omega
 by_cases h1:k=[116,104,114,101,97,100]
 ·by_cases h2:w.length=1
  ·have h2' : ((w.length:Int)=1)=True:=by simp only[eq_iff_iff,iff_true];omega
   rw[show threadF s w=({ s with f:={ s.f with thr:=s.f.thr++[[]] },lines:=s.lines++[[]],next:=3 },true) from by unfold threadF;rw[hk,if_pos ⟨by rw[h1];rfl,h2⟩]]
   refine HCalls_body (fn:=Tryz.f22) 113 [6] (by kernel_rfl) rfl (by kernel_rfl) (HW.ghost thOpen (HW.run 400 (by kernel_rfl) ?_))
   simp (config:={ decide:=true }) only[go_sem,Int.reduceToNat,Nat.reduceAdd,Nat.reduceSub,Nat.reduceMul,Nat.reduceBEq,reduceIte,reduceCtorEq,h,hk,h1,h2',hn']
   refine HW.treeI (fun T H=>H=[some zO,some (pO (withNext (withLast s s.f.thr s.lines [] []) 3))]) (.light 0 (.light 1 (.light 2 (.light 3 (.light 4 (.light 5 (.light 6 (.light 7 (.light 8 (.light 11 (.light 12 (.light 13 (.light 14 (.heavy 9 [0,1,2,3,4,5,6,7,11,12,13,14] (.heavy 10 [0,1,2,11,12,13,14] (.heavy 15 [0,1,2,3,4,5,6,7,8,11,12,13,14] (.heavy 16 [0,1,2] (.light 17 (.light 18 (.light 19 (.heavy 20 [1,2] (.light 21 (.light 22 (.heavy 23 [2] (.light 24 (.light 25 (.heavy 26 [] .leaf .stop))) .stop))) .stop)))) .stop) .stop) (.heavy 15 [0,1,2,3,4,5,6,7,8,11,12,13,14] (.heavy 10 [0,1,2,11,12,13,14] (.heavy 16 [0,1,2] (.light 17 (.light 18 (.light 19 (.heavy 20 [1,2] (.light 21 (.light 22 (.heavy 23 [2] (.light 24 (.light 25 (.heavy 26 [] .leaf .stop))) .stop))) .stop)))) .stop) .stop) .stop)) (.heavy 15 [0,1,2,3,4,5,6,7,8,11,12,13,14] (.heavy 9 [0,1,2,3,4,5,6,7,11,12,13,14] (.heavy 10 [0,1,2,11,12,13,14] (.heavy 16 [0,1,2] (.light 17 (.light 18 (.light 19 (.heavy 20 [1,2] (.light 21 (.light 22 (.heavy 23 [2] (.light 24 (.light 25 (.heavy 26 [] .leaf .stop))) .stop))) .stop)))) .stop) .stop) .stop) .stop))))))))))))))) follows (by kernel_rfl) (by kernel_rfl) ?_ ?_
   ·have q1:=ok.thr
    have q2:=ok.same
    simp (config:={ decide:=true }) only[go_sem,Int.reduceToNat,Nat.reduceAdd,Nat.reduceSub,Nat.reduceMul,Nat.reduceBEq,reduceIte,reduceCtorEq]
    (with_reducible and_intros) <;> first | omega | exact GQ.step (thClose (s:=withNext s 3) rfl rfl) (GQ.step (Ghost.trunc [] 2 (by omega) rfl (nm_p _ _)) (GQ.done rfl))
   rintro T H rfl
   simp (config:={ decide:=true }) only[go_sem,Int.reduceToNat,Nat.reduceAdd,Nat.reduceSub,Nat.reduceMul,Nat.reduceBEq,reduceIte,reduceCtorEq]
   exact endP_p (s:=withNext (withLast s s.f.thr s.lines [] []) 3) ⟨rfl,rfl⟩
  ·have h2' : ((w.length:Int)=1)=False:=by simp only[eq_iff_iff,iff_false];omega
   rw[show threadF s w=(s,false) from by unfold threadF;rw[if_neg (fun hh=>h2 hh.2)]]
   refine HCalls_body (fn:=Tryz.f22) 113 [6] (by kernel_rfl) rfl (by kernel_rfl) (HW.run 400 (by kernel_rfl) ?_)
   simp (config:={ decide:=true }) only[go_sem,Int.reduceToNat,Nat.reduceAdd,Nat.reduceSub,Nat.reduceMul,Nat.reduceBEq,reduceIte,reduceCtorEq,h,hk,h1,h2',hn']
   exact endP_p (s:=s) ⟨rfl,rfl⟩
 ·rw[show threadF s w=(s,false) from by unfold threadF;rw[hk,if_neg (fun hh=>h1 (Option.some.inj hh.1))]]
  refine HCalls_body (fn:=Tryz.f22) 113 [6] (by kernel_rfl) rfl (by kernel_rfl) (HW.run 400 (by kernel_rfl) ?_)
  simp (config:={ decide:=true }) only[go_sem,Int.reduceToNat,Nat.reduceAdd,Nat.reduceSub,Nat.reduceMul,Nat.reduceBEq,reduceIte,reduceCtorEq,h,hk,h1,hn']
  exact endP_p (s:=s) ⟨rfl,rfl⟩
theorem readOver (h0:s.next≠0) (h1:s.next≠1) (h2:s.next≠2) (h3:s.next≠3) (hk:w[0]?=some k):readC s w at_ (s,false):=by
 have hn:0<w.length:=by have:=(List.getElem?_eq_some_iff.1 hk).1;omega
 have hn' : ((0:Int)<(w.length:Int))=True:=by simp only[eq_iff_iff,iff_true];omega
 refine HCalls_body (fn:=Tryz.f22) 113 [6] (by kernel_rfl) rfl (by kernel_rfl) (HW.run 400 (by kernel_rfl) ?_)
 simp (config:={ decide:=true }) only[go_sem,Int.reduceToNat,Nat.reduceAdd,Nat.reduceSub,Nat.reduceMul,Nat.reduceBEq,reduceIte,reduceCtorEq,hk,hn',h0,h1,h2,h3]
 exact endP_p (s:=s) ⟨rfl,rfl⟩
theorem readBodyThread (h:s.next=3) (hk:w[0]?=some threadB) (ok:ROk s):readC s w at_ (threadF s w):=by
 have hn:0<w.length:=by have:=(List.getElem?_eq_some_iff.1 hk).1;omega
 have hn' : ((0:Int)<(w.length:Int))=True:=by simp only[eq_iff_iff,iff_true];omega
 by_cases h2:w.length=1
 ·have h2' : ((w.length:Int)=1)=True:=by simp only[eq_iff_iff,iff_true];omega
  rw[show threadF s w=({ s with f:={ s.f with thr:=s.f.thr++[[]] },lines:=s.lines++[[]],next:=3 },true) from by unfold threadF;rw[if_pos ⟨hk,h2⟩]]
  unfold threadB at hk
  refine HCalls_body (fn:=Tryz.f22) 113 [6] (by kernel_rfl) rfl (by kernel_rfl) (HW.ghost thOpen (HW.run 400 (by kernel_rfl) ?_))
  simp (config:={ decide:=true }) only[go_sem,Int.reduceToNat,Nat.reduceAdd,Nat.reduceSub,Nat.reduceMul,Nat.reduceBEq,reduceIte,reduceCtorEq,h,hk,h2',hn']
  refine HW.treeI (fun T H=>H=[some zO,some (pO (withNext (withLast s s.f.thr s.lines [] []) 3))]) (.light 0 (.light 1 (.light 2 (.light 3 (.light 4 (.light 5 (.light 6 (.light 7 (.light 8 (.light 11 (.light 12 (.light 13 (.light 14 (.heavy 9 [0,1,2,3,4,5,6,7,11,12,13,14] (.heavy 10 [0,1,2,11,12,13,14] (.heavy 15 [0,1,2,3,4,5,6,7,8,11,12,13,14] (.heavy 16 [0,1,2] (.light 17 (.light 18 (.light 19 (.heavy 20 [1,2] (.light 21 (.light 22 (.heavy 23 [2] (.light 24 (.light 25 (.heavy 26 [] .leaf .stop))) .stop))) .stop)))) .stop) .stop) (.heavy 15 [0,1,2,3,4,5,6,7,8,11,12,13,14] (.heavy 10 [0,1,2,11,12,13,14] (.heavy 16 [0,1,2] (.light 17 (.light 18 (.light 19 (.heavy 20 [1,2] (.light 21 (.light 22 (.heavy 23 [2] (.light 24 (.light 25 (.heavy 26 [] .leaf .stop))) .stop))) .stop)))) .stop) .stop) .stop)) (.heavy 15 [0,1,2,3,4,5,6,7,8,11,12,13,14] (.heavy 9 [0,1,2,3,4,5,6,7,11,12,13,14] (.heavy 10 [0,1,2,11,12,13,14] (.heavy 16 [0,1,2] (.light 17 (.light 18 (.light 19 (.heavy 20 [1,2] (.light 21 (.light 22 (.heavy 23 [2] (.light 24 (.light 25 (.heavy 26 [] .leaf .stop))) .stop))) .stop)))) .stop) .stop) .stop) .stop))))))))))))))) follows (by kernel_rfl) (by kernel_rfl) ?_ ?_
  ·have q1:=ok.thr
   have q2:=ok.same
   simp (config:={ decide:=true }) only[go_sem,Int.reduceToNat,Nat.reduceAdd,Nat.reduceSub,Nat.reduceMul,Nat.reduceBEq,reduceIte,reduceCtorEq]
   (with_reducible and_intros) <;> first | omega | exact GQ.step (thClose (s:=withNext s 3) rfl rfl) (GQ.step (Ghost.trunc [] 2 (by omega) rfl (nm_p _ _)) (GQ.done rfl))
  rintro T H rfl
  simp (config:={ decide:=true }) only[go_sem,Int.reduceToNat,Nat.reduceAdd,Nat.reduceSub,Nat.reduceMul,Nat.reduceBEq,reduceIte,reduceCtorEq]
  exact endP_p (s:=withNext (withLast s s.f.thr s.lines [] []) 3) ⟨rfl,rfl⟩
 ·have h2' : ((w.length:Int)=1)=False:=by simp only[eq_iff_iff,iff_false];omega
  rw[show threadF s w=(s,false) from by unfold threadF;rw[if_neg (fun hh=>h2 hh.2)]]
  unfold threadB at hk
  refine HCalls_body (fn:=Tryz.f22) 113 [6] (by kernel_rfl) rfl (by kernel_rfl) (HW.run 400 (by kernel_rfl) ?_)
  simp (config:={ decide:=true }) only[go_sem,Int.reduceToNat,Nat.reduceAdd,Nat.reduceSub,Nat.reduceMul,Nat.reduceBEq,reduceIte,reduceCtorEq,h,hk,h2',hn']
  exact endP_p (s:=s) ⟨rfl,rfl⟩
abbrev overF (s:PS) (all:Bool) (c:List AT) (at_:Int):PS:={ s with f:={ s.f with all:=all,cond:=c },fin:=at_,next:=4 }
theorem readBodyOver (b:Bool) (h:s.next=3) (hk:w[0]?=some (if b=true then forallB else existsB)) (hi:s.f.cond.length≤1000000) (hw:∀x∈w,x.length≤1000000) (hl:w.length≤1000000):readC s w at_ (overF s b (s.f.cond++(atomsF (w.drop 1)).1) at_,(atomsF (w.drop 1)).2):=by
 have hn:0<w.length:=by have:=(List.getElem?_eq_some_iff.1 hk).1;omega
 have hn' : ((0:Int)<(w.length:Int))=True:=by simp only[eq_iff_iff,iff_true];omega
 have htk:List.take (w.length-1) (List.drop 1 w)=List.drop 1 w:=List.take_of_length_le (by rw[List.length_drop];omega)
 have hC:=pAtoms (overF s b s.f.cond at_) (w.drop 1) (fun x hx=>hw x (List.mem_of_mem_drop hx)) (by rw[List.length_drop];omega) hi
 cases b with
 | true =>
  have hk' : w[0]?=some [102,111,114,97,108,108]:=hk
  refine HCalls_body (fn:=Tryz.f22) 113 [6] (by kernel_rfl) rfl (by kernel_rfl) (HW.run 400 (by kernel_rfl) ?_)
  simp (config:={ decide:=true }) only[go_sem,Int.reduceToNat,Nat.reduceAdd,Nat.reduceSub,Nat.reduceMul,Nat.reduceBEq,reduceIte,reduceCtorEq,h,hk',hn',htk]
  refine ⟨by omega,_,hC,?_⟩
  rintro r H' ⟨rfl,rfl⟩ -
  simp (config:={ decide:=true }) only[go_sem,Int.reduceToNat,Nat.reduceAdd,Nat.reduceSub,Nat.reduceMul,Nat.reduceBEq,reduceIte,reduceCtorEq]
  exact endP_p (s:=overF s true (s.f.cond++(atomsF (w.drop 1)).1) at_) ⟨rfl,rfl⟩
 | false =>
  have hk' : w[0]?=some [101,120,105,115,116,115]:=hk
  refine HCalls_body (fn:=Tryz.f22) 113 [6] (by kernel_rfl) rfl (by kernel_rfl) (HW.run 400 (by kernel_rfl) ?_)
  simp (config:={ decide:=true }) only[go_sem,Int.reduceToNat,Nat.reduceAdd,Nat.reduceSub,Nat.reduceMul,Nat.reduceBEq,reduceIte,reduceCtorEq,h,hk',hn',htk]
  refine ⟨by omega,_,hC,?_⟩
  rintro r H' ⟨rfl,rfl⟩ -
  simp (config:={ decide:=true }) only[go_sem,Int.reduceToNat,Nat.reduceAdd,Nat.reduceSub,Nat.reduceMul,Nat.reduceBEq,reduceIte,reduceCtorEq]
  exact endP_p (s:=overF s false (s.f.cond++(atomsF (w.drop 1)).1) at_) ⟨rfl,rfl⟩
theorem readBodyInner (h:s.next=3) (hk:w[0]?=some k) (k1:k≠existsB) (k2:k≠forallB) (k3:k≠threadB) (pre:List (List LT)) (lpre:List (List Int)) (l:List LT) (ln:List Int) (h1:s.f.thr=pre++[l]) (h2:s.lines=lpre++[ln]) (h3:lpre.length=pre.length) (hp:pre.length≤100000) (hl:l.length≤100000) (hln:ln.length≤100000) (hw:∀x∈w,x.length≤1000000) (hn0:w.length≤1000000) :
  readC s w at_ (withLast s pre lpre (l++[(getB w).1]) (ln++[at_]),(getB w).2):=by
 have hn:0<w.length:=by have:=(List.getElem?_eq_some_iff.1 hk).1;omega
 have hn' : ((0:Int)<(w.length:Int))=True:=by simp only[eq_iff_iff,iff_true];omega
 have hC:=pInner s pre lpre l ln w at_ h1 h2 h3 hp hl hln hw hn0
 unfold existsB at k1
 unfold forallB at k2
 unfold threadB at k3
 refine HCalls_body (fn:=Tryz.f22) 113 [6] (by kernel_rfl) rfl (by kernel_rfl) (HW.run 400 (by kernel_rfl) ?_)
 simp (config:={ decide:=true }) only[go_sem,Int.reduceToNat,Nat.reduceAdd,Nat.reduceSub,Nat.reduceMul,Nat.reduceBEq,reduceIte,reduceCtorEq,h,hk,hn',k1,k2,k3]
 refine ⟨_,hC,?_⟩
 rintro r H' ⟨rfl,rfl⟩ -
 simp (config:={ decide:=true }) only[go_sem,Int.reduceToNat,Nat.reduceAdd,Nat.reduceSub,Nat.reduceMul,Nat.reduceBEq,reduceIte,reduceCtorEq]
 exact endP_p (s:=withLast s pre lpre (l++[(getB w).1]) (ln++[at_])) ⟨rfl,rfl⟩
end
end Go.Proofs.YtmapdjdnnhlpiaaGreatDoor
namespace Go.Proofs.YtmapdjdnnhlpiaaGreatDoor
open Go.RowKit
set_option maxRecDepth 8000
theorem lastF_snoc {α:Type} (pre:List (List α)) (l:List α) (x:α):lastF (pre++[l]) x=pre++[l++[x]]:=by simp[lastF]
theorem snoc_of {α:Type} {l:List α} (h:l≠[]):∃pre x,l=pre++[x]:=⟨l.dropLast,l.getLast h,(List.dropLast_concat_getLast h).symm⟩
theorem pRead (s:PS) (w:List (List UInt8)) (at_:Int) (ok:ROk s) (hne:w≠[]) (hw:∀x∈w,x.length≤1000000) (hl:w.length≤1000000):readC s w at_ (readF s w at_):=by
 have h1:=ok.init
 have h2:=ok.cond
 have hn:0<w.length:=List.length_pos_iff.2 hne
 have hk:w[0]?=some w[0]:=List.getElem?_eq_getElem hn
 generalize w[0]=k at hk
 unfold readF
 by_cases n0:s.next=0
 ·rw[if_pos n0];exact readHead n0 hk
 rw[if_neg n0]
 by_cases n1:s.next=1
 ·rw[if_pos n1];exact readStart n1 hk (by omega) hw hl
 rw[if_neg n1]
 by_cases n3:s.next=3
 ·rw[if_pos n3]
  unfold bodyF
  rw[hk]
  by_cases k1:k=existsB
  ·have e:(decide (some existsB=some forallB))=false:=by decide
   subst k1
   rw[if_pos (.inl rfl),e]
   exact readBodyOver false n3 hk (by omega) hw hl
  by_cases k2:k=forallB
  ·subst k2
   rw[if_pos (.inr rfl),decide_eq_true rfl]
   exact readBodyOver true n3 hk (by omega) hw hl
  rw[if_neg (by rintro (h | h);exact k1 (Option.some.inj h);exact k2 (Option.some.inj h))]
  by_cases k3:k=threadB
  ·subst k3
   rw[if_pos rfl]
   exact readBodyThread n3 hk ok
  rw[if_neg (fun h=>k3 (Option.some.inj h))]
  obtain ⟨pre,l,e1⟩:=snoc_of (ok.some3 n3)
  obtain ⟨lpre,ln,e2⟩:=snoc_of (l:=s.lines) (fun h=>ok.some3 n3 (by have:=ok.same;rw[h] at this;exact List.length_eq_zero_iff.1 this.symm))
  have hs:=ok.same
  have ht:=ok.thr
  rw[e1,e2] at hs
  rw[e1] at ht
  simp only[List.length_append,List.length_cons,List.length_nil] at hs ht
  have hl1:=ok.len l (by rw[e1];simp)
  have hl2:=ok.lens ln (by rw[e2];simp)
  rw[e1,e2,lastF_snoc,lastF_snoc]
  exact readBodyInner n3 hk k1 k2 k3 pre lpre l ln e1 e2 (by omega) (by omega) hl1 hl2 hw hl
 rw[if_neg n3]
 by_cases n2:s.next=2
 ·rw[if_pos n2];exact readThread n2 hk ok
 rw[if_neg n2]
 exact readOver n0 n1 n2 n3 hk
def totF (s:PS):Nat:=s.f.init.length+(s.f.thr.map List.length).sum+s.f.thr.length+s.f.cond.length
structure Agree (s:PS):Prop where
 same:s.lines.map List.length=s.f.thr.map List.length
 some3:s.next=3→s.f.thr≠[]
theorem sum_mem {l:List Nat} {x:Nat} (h:x∈l):x≤l.sum:=by
 induction l with
 | nil=>cases h
 | cons a r ih =>
  rcases List.mem_cons.1 h with rfl | h
  ·simp
  ·have:=ih h;simp;omega
theorem Agree.ok {s:PS} (h:Agree s) (ht:totF s≤100000):ROk s:=by
 unfold totF at ht
 have hs:=congrArg List.length h.same
 rw[List.length_map,List.length_map] at hs
 refine ⟨by omega,by omega,by omega,hs,fun l hl=>?_,fun l hl=>?_,h.some3⟩
 ·have:=sum_mem (List.mem_map.2 ⟨l,hl,rfl⟩:l.length∈s.f.thr.map List.length)
  omega
 ·have:=sum_mem (List.mem_map.2 ⟨l,hl,rfl⟩:l.length∈s.lines.map List.length)
  rw[h.same] at this
  omega
theorem readF_tot (s:PS) (w:List (List UInt8)) (at_:Int) (hne:w≠[]) (h:Agree s):totF (readF s w at_).1≤totF s+w.length∧((readF s w at_).2=true→Agree (readF s w at_).1):=by
 have hn:0<w.length:=List.length_pos_iff.2 hne
 have hd:(w.drop 1).length=w.length-1:=List.length_drop
 unfold readF
 by_cases n0:s.next=0
 ·rw[if_pos n0]
  unfold headF
  split
  ·exact ⟨by simp only[totF];omega,fun _=>⟨h.same,fun hh=>by simp at hh⟩⟩
  ·exact ⟨by simp,fun hh=>by cases hh⟩
 rw[if_neg n0]
 by_cases n1:s.next=1
 ·rw[if_pos n1]
  unfold startF
  split
  ·have:=cellsF_len (w.drop 1)
   exact ⟨by simp only[totF,withInit,withNext,List.length_append];omega,fun _=>⟨h.same,fun hh=>by simp at hh⟩⟩
  ·exact ⟨by simp only[totF,withNext];omega,fun hh=>by cases hh⟩
 rw[if_neg n1]
 have thr:totF (threadF s w).1≤totF s+w.length∧((threadF s w).2=true→Agree (threadF s w).1):=by
  unfold threadF
  split
  ·refine ⟨by simp only[totF,List.map_append,List.sum_append,List.length_append,List.map_cons,List.map_nil,List.sum_cons,List.sum_nil,List.length_cons,List.length_nil];omega,fun _=>⟨?_,fun _=>by simp⟩⟩
   simp only[List.map_append,h.same];rfl
  ·exact ⟨by simp,fun hh=>by cases hh⟩
 by_cases n3:s.next=3
 ·rw[if_pos n3]
  unfold bodyF
  split
  ·have:=atomsF_len (w.drop 1)
   exact ⟨by simp only[totF,List.length_append];omega,fun _=>⟨h.same,fun hh=>by simp at hh⟩⟩
  ·split
   ·exact thr
   ·obtain ⟨pre,l,e1⟩:=snoc_of (h.some3 n3)
    have hs:=h.same
    obtain ⟨lpre,ln,e2⟩:=snoc_of (l:=s.lines) (fun hh=>h.some3 n3 (by rw[hh] at hs;simpa using hs.symm))
    rw[e1,e2] at hs
    simp only[List.map_append,List.map_cons,List.map_nil] at hs
    obtain ⟨hs1,hs2⟩:=List.append_inj' hs rfl
    refine ⟨?_,fun _=>⟨?_,fun _=>?_⟩⟩
    ·simp only[totF,e1,lastF_snoc,List.map_append,List.sum_append,List.length_append,List.map_cons,List.map_nil,List.sum_cons,List.sum_nil,List.length_cons,List.length_nil];omega
    ·simp only[e1,e2,lastF_snoc,List.map_append,List.map_cons,List.map_nil,hs1,List.length_append,List.length_cons,List.length_nil]
     have:ln.length=l.length:=by simpa using hs2
     rw[this]
    ·show lastF s.f.thr _≠[]
     simp[lastF]
 rw[if_neg n3]
 by_cases n2:s.next=2
 ·rw[if_pos n2];exact thr
 rw[if_neg n2]
 exact ⟨by simp,fun hh=>by cases hh⟩
theorem towR_fzoR {l:List (List LT)}:fzoR (towR l)=tds l:=by
 induction l with
 | nil=>rfl
 | cons x l ih=>show fzoR (towrow x::towR l)=_;simp only[towrow,fzoR,fzoL,fzo,lns_fzoR,ih];rfl
theorem lowR_fzoR {l:List (List Int)}:fzoR (lowR l)=lws l:=by
 induction l with
 | nil=>rfl
 | cons x l ih=>show fzoR (lorow x::lowR l)=_;simp only[lorow,fzoR,fzoL,fzo,ints_fzoR,ih];rfl
abbrev pRow (s:PS):List HV:=[.v (str s.f.name),.sl (cls s.f.init),.sl (tds s.f.thr),.v (.bool s.f.all),.sl (ats s.f.cond),.v (.int .i64 s.next),.sl (lws s.lines),.v (.int .i64 s.head),.v (.int .i64 s.fin)]
theorem pO_fzoR (s:PS):fzoR (pO s).rows=[pRow s]:=by
 simp only[fzoR,fzoL,fzo,cls_fzoR,ats_fzoR,towR_fzoR,lowR_fzoR]
def whereF (s:PS) (t i:Int):Int :=
 if t<0 then s.head else if t=s.f.thr.length then s.fin else ((s.lines[t.toNat]?.getD [])[i.toNat]?).getD 0
theorem pWhere (s:PS) (t i:Int) (h:0≤t→t≠s.f.thr.length→0≤i∧∃ln,s.lines[t.toNat]?=some ln∧i.toNat<ln.length) :
  HFn Tryz.prog 26 [.fp [pRow s] 0 0,.v (.int .i64 t),.v (.int .i64 i)] (.v (.int .i64 (whereF s t i))):=by
 unfold whereF
 refine HCalls_body (fn:=Tryz.f26) 37 [6] (by kernel_rfl) rfl (by kernel_rfl) (HW.run 400 (by kernel_rfl) ?_)
 by_cases h1:t<0
 ·rw[if_pos h1]
  simp (config:={ decide:=true }) only[go_sem,Int.reduceToNat,Nat.reduceAdd,Nat.reduceSub,Nat.reduceMul,Nat.reduceBEq,reduceIte,reduceCtorEq,h1]
 ·rw[if_neg h1]
  by_cases h2:t=s.f.thr.length
  ·rw[if_pos h2]
   have h3:((s.f.thr.length:Int)<0)=False:=by simp only[eq_iff_iff,iff_false];omega
   subst h2
   simp (config:={ decide:=true }) only[go_sem,Int.reduceToNat,Nat.reduceAdd,Nat.reduceSub,Nat.reduceMul,Nat.reduceBEq,reduceIte,reduceCtorEq,h3]
  ·rw[if_neg h2]
   obtain ⟨hi,ln,e1,e2⟩:=h (by omega) h2
   have e3:ln[i.toNat]?=some ln[i.toNat]:=List.getElem?_eq_getElem e2
   have hlt:=(List.getElem?_eq_some_iff.1 e1).1
   rw[e1,Option.getD_some,e3,Option.getD_some]
   simp (config:={ decide:=true }) only[go_sem,Int.reduceToNat,Nat.reduceAdd,Nat.reduceSub,Nat.reduceMul,Nat.reduceBEq,reduceIte,reduceCtorEq,h1,h2,e1,e3]
   (with_reducible and_intros) <;> omega
end Go.Proofs.YtmapdjdnnhlpiaaGreatDoor
namespace Go.Proofs.YtmapdjdnnhlpiaaGreatDoor
open Go.RowKit
set_option maxRecDepth 8000
def ConvL:List HV→List HV→Prop
 | [],[]=>True
 | x::xs,y::ys=>Conv x y∧ConvL xs ys
 | _,_=>False
theorem RL_conv {Z:Nat→Prop} {G:List (Option OG)} {w:World}:∀{xs xs' : List HV},ConvL xs xs'→∀{ys:List Value},RL Z G w xs ys []→RL Z G w xs' ys []
 | [],[],_,ys,h=>h
 | x::xs,x'::xs',hc,ys,h=>by
  simp only[RL] at h⊢
  obtain ⟨y,ys',f1,f2,rfl,e,hv,hl⟩:=h
  obtain ⟨rfl,rfl⟩:=List.append_eq_nil_iff.1 e.symm
  exact ⟨y,ys',[],[],rfl,rfl,hc.1 _ _ _ _ hv,RL_conv hc.2 hl⟩
 | [],_::_,hc,_,_=>hc.elim
 | _::_,[],hc,_,_=>hc.elim
theorem Conv.refl (x:HV):Conv x x:=fun _ _ _ _ h=>h
theorem Conv.ag {xs ys:List HV} (h:ConvL xs ys):Conv (.ag xs) (.ag ys):=fun Z G w y hv=>by
 rw[RV] at hv⊢
 obtain ⟨zs,rfl,hl⟩:=hv
 exact ⟨zs,rfl,RL_conv h hl⟩
theorem Conv.tu {xs ys:List HV} (h:ConvL xs ys):Conv (.tu xs) (.tu ys):=fun Z G w y hv=>by
 rw[RV] at hv⊢
 obtain ⟨zs,rfl,hl⟩:=hv
 exact ⟨zs,rfl,RL_conv h hl⟩
abbrev zH:HV:=.ag [.v (str []),.v (.slice none 0 0),.v (.slice none 0 0),.v (.bool false),.v (.slice none 0 0)]
theorem Conv.noFile (a b:HV):Conv (.tu [zH,a,b]) (.tu [fileH noFl,a,b]) :=
 Conv.tu ⟨Conv.ag ⟨Conv.refl _,Conv.nilSl,Conv.nilSl,Conv.refl _,Conv.nilSl,trivial⟩,Conv.refl _,Conv.refl _,trivial⟩
theorem cut_sum (c:UInt8):∀s:List UInt8,((cutB c s).map List.length).sum≤s.length
 | []=>by simp[cutB]
 | b::s=>by
  have ih:=cut_sum c s
  unfold cutB
  split
  ·simp;omega
  ·cases h:cutB c s with
   | nil=>simp
   | cons w r=>rw[h] at ih;simp at ih⊢;omega
theorem line_len {s x:List UInt8} (h:x∈linesB s):x.length≤s.length:=by
 have hm:x∈cutB 10 s:=by
  unfold linesB at h
  split at h
  ·exact List.dropLast_subset _ h
  ·exact h
 exact Nat.le_trans (sum_mem (List.mem_map.2 ⟨x,hm,rfl⟩)) (cut_sum 10 s)
theorem word_len {s x:List UInt8} (h:x∈wordsB s):x.length≤s.length :=
 Nat.le_trans (sum_mem (List.mem_map.2 ⟨x,(List.mem_filter.1 h).1,rfl⟩)) (cut_sum 32 s)
theorem filter_sum:∀l:List (List UInt8),(l.filter fun w=>!w.isEmpty).length≤(l.map List.length).sum
 | []=>by simp
 | []::r=>by have:=filter_sum r;simp at this⊢;exact this
 | (a::b)::r=>by have:=filter_sum r;simp at this⊢;omega
theorem words_len (s:List UInt8):(wordsB s).length≤s.length:=Nat.le_trans (filter_sum _) (cut_sum 32 s)
def sumW (l:List (List UInt8)):Nat:=(l.map fun x=>(wordsB x).length).sum
theorem sumW_le:∀l:List (List UInt8),sumW l≤(l.map List.length).sum
 | []=>by simp[sumW]
 | x::r=>by
  have h1:=sumW_le r
  have h2:=words_len x
  simp only[sumW,List.map_cons,List.sum_cons] at h1⊢
  omega
theorem dropLast_sum:∀l:List Nat,l.dropLast.sum≤l.sum
 | []=>by simp
 | [a]=>by simp
 | a::b::r=>by
  have:=dropLast_sum (b::r)
  simp only[List.dropLast_cons_cons,List.sum_cons] at this⊢
  omega
theorem sumW_lines (s:List UInt8):sumW (linesB s)≤s.length:=by
 refine Nat.le_trans (sumW_le _) (Nat.le_trans ?_ (cut_sum 10 s))
 unfold linesB
 split
 ·rw[List.map_dropLast];exact dropLast_sum _
 ·exact Nat.le_refl _
def pS0:PS:=⟨noFl,0,[],0,0⟩
def linesF (s:PS) (n:Nat):List (List UInt8)→PS×Option Nat
 | []=>(s,none)
 | l::r=>if wordsB l=[] then linesF s (n+1) r else if (readF s (wordsB l) ((n+1:Nat):Int)).2=true then linesF (readF s (wordsB l) ((n+1:Nat):Int)).1 (n+1) r else (s,some (n+1))
def finF (st:PS) (many:Nat):Fl×Int×Int :=
 if st.next≠4 then (noFl,((many+1:Nat):Int),11)
 else if (checkF st.f).2.2≠0 then (noFl,whereF st (checkF st.f).1 (checkF st.f).2.1,(checkF st.f).2.2)
 else (st.f,0,0)
def parseF (s:List UInt8):Fl×Int×Int :=
 if 4000<s.length then (noFl,0,5)
 else match (linesF pS0 0 (linesB s)).2 with
 | some n=>(noFl,(n:Int),11)
 | none=>finF (linesF pS0 0 (linesB s)).1 (linesB s).length
theorem linesS (s:List UInt8) (hs:s.length≤1000000):HFn Tryz.prog 23 [.v (str s)] (.sl (strs (linesB s))):=HFn.shut (linesPr s hs) (by simp only[fzo_owStrs])
theorem wordsS (s:List UInt8) (hs:s.length≤1000000):HFn Tryz.prog 24 [.v (str s)] (.sl (strs (wordsB s))):=HFn.shut (wordsPr s hs) (by simp only[fzo_owStrs])
theorem pS0_agree:Agree pS0:=⟨rfl,fun h=>by simp[pS0] at h⟩
theorem thrE_at:∀(b a:List LT) {i:Nat} {e:Int},thrE a b=some (i,e)→a.length≤i∧i<a.length+b.length
 | [],_,_,_,h=>by simp[thrE] at h
 | x::b,a,i,e,h=>by
  rw[thrE] at h
  split at h
  ·have:=thrE_at b _ h
   simp only[List.length_append,List.length_cons,List.length_nil] at this⊢
   omega
  ·simp at h;simp only[List.length_cons];omega
theorem thsO_at:∀(r:List (List LT)) (t:Nat) {a b e:Int},thsO t r=some (a,b,e)→∃(k:Nat) (l:List LT),a=((t+k:Nat):Int)∧r[k]?=some l∧0≤b∧b<l.length
 | [],_,_,_,_,h=>by simp[thsO] at h
 | l::r,t,a,b,e,h=>by
  rw[thsO] at h
  cases hl:thrO t l with
  | none =>
   rw[hl] at h
   obtain ⟨k,l',h1,h2,h3,h4⟩:=thsO_at r (t+1) h
   exact ⟨k+1,l',by omega,by simpa using h2,h3,h4⟩
  | some w =>
   rw[hl] at h
   simp only[Option.some.injEq] at h
   subst h
   unfold thrO at hl
   cases h2:thrE [] l with
   | none=>rw[h2] at hl;simp at hl
   | some p =>
    rw[h2] at hl
    simp at hl
    have:=thrE_at l [] h2
    exact ⟨0,l,by omega,rfl,by omega,by simp at this;omega⟩
theorem checkF_at {s:PS} (ag:Agree s) (h0:(checkF s.f).2.2≠0):0≤(checkF s.f).1→(checkF s.f).1≠s.f.thr.length→0≤(checkF s.f).2.1∧∃ln,s.lines[(checkF s.f).1.toNat]?=some ln∧(checkF s.f).2.1.toNat<ln.length:=by
 unfold checkF at h0⊢
 cases ha:allO s.f with
 | none=>rw[ha] at h0;simp at h0
 | some w =>
  obtain ⟨a,b,e⟩:=w
  simp only[Option.getD_some]
  intro g1 g2
  unfold allO at ha
  cases h1:headO s.f with
  | some w =>
   rw[h1] at ha
   simp only[Option.some.injEq] at ha
   subst ha
   unfold headO at h1
   split at h1
   ·cases h1
   ·simp at h1;omega
  | none =>
   rw[h1] at ha
   simp only at ha
   cases h2:thsO 0 s.f.thr with
   | some w =>
    rw[h2] at ha
    simp only[Option.some.injEq] at ha
    subst ha
    obtain ⟨k,l,e1,e2,e3,e4⟩:=thsO_at _ _ h2
    obtain rfl:a=(k:Int):=by omega
    have hm:(s.lines.map List.length)[k]?=some l.length:=by rw[ag.same,List.getElem?_map,e2];rfl
    rw[List.getElem?_map] at hm
    cases h3:s.lines[k]? with
    | none=>rw[h3] at hm;cases hm
    | some ln =>
     rw[h3] at hm
     simp at hm
     exact ⟨e3,ln,by rw[Int.toNat_natCast];exact h3,by omega⟩
   | none =>
    rw[h2] at ha
    simp only at ha
    cases h3:conO s.f with
    | some w =>
     rw[h3] at ha
     simp only[Option.some.injEq] at ha
     subst ha
     unfold conO at h3
     cases h4:conE s.f.thr.length 0 s.f.cond with
     | none=>rw[h4] at h3;simp at h3
     | some p=>rw[h4] at h3;simp at h3;omega
    | none =>
     rw[h3] at ha
     simp only at ha
     unfold locO at ha
     split at ha
     ·simp at ha;omega
     ·cases ha
end Go.Proofs.YtmapdjdnnhlpiaaGreatDoor
