/- Parts of the proof: Of, Ok, Ol, Om, On, Ow, Ox, Oy, Oz, Va, Yp, Vb. -/
import Derived.Test.YtmapdjdnnhlpiaaGreatDoorZs13
import Derived.Test.YtmapdjdnnhlpiaaGreatDoorZs07
import Derived.Test.YtmapdjdnnhlpiaaGreatDoorZs06
import Derived.Test.YtmapdjdnnhlpiaaGreatDoorZs09
import Derived.Test.YtmapdjdnnhlpiaaGreatDoorProg
import Derived.KernelRfl
set_option linter.unusedSectionVars false
set_option linter.unusedVariables false
set_option linter.unusedSimpArgs false
namespace Go.Proofs.YtmapdjdnnhlpiaaGreatDoor
open Go.RowKit
set_option maxRecDepth 8000
theorem insS_len (s:List UInt8):∀l,(insS l s).length≤l.length+1
 | []=>by simp[insS]
 | x::r=>by
  have:=insS_len s r
  unfold insS
  split
  ·split <;> simp
  ·simp;omega
theorem putS_len (l:List (List UInt8)) (s:List UInt8):(putS l s).length≤l.length+1:=by
 unfold putS
 split
 ·omega
 ·exact insS_len s l
theorem putsF_snoc (out l:List (List UInt8)) (x:List UInt8):putsF out (l++[x])=putS (putsF out l) x:=by simp[putsF,List.foldl_append]
theorem putsF_len:∀(l out:List (List UInt8)),(putsF out l).length≤out.length+l.length
 | [],out=>by simp[putsF]
 | x::l,out=>by
  have h1:=putsF_len l (putS out x)
  have h2:=putS_len out x
  show (putsF (putS out x) l).length≤_
  simp only[List.length_cons];omega
theorem refPutSl (l:List (List UInt8)) (s:List UInt8) (hl:l.length≤1000000):HFn Tryz.prog 51 [.sl (strs l),.v (str s)] (.sl (strs (putS l s))):=HFn.shut (refPutS l s hl) (by simp only[fzo_owStrs])
def rawL (f:Fl):List (List UInt8):=f.init.map (·.1)++f.thr.flatMap (fun l=>l.map (·.loc))++condL f.cond
set_option maxHeartbeats 16000000 in
theorem refLocs (f:Fl) (hB:(rawL f).length≤400000) (ht:f.thr.length≤400000) (hc:f.cond.length≤400000):HFn Tryz.prog 34 [fileH f] (.sl (strs (putsF [] (rawL f)))):=by
 unfold rawL at hB⊢
 simp only[List.length_append,List.length_map] at hB
 refine HCalls_body (fn:=Tryz.f34) 76 [2] (by kernel_rfl) rfl (by kernel_rfl) (HW.run 400 (by kernel_rfl) ?_)
 simp (config:={ decide:=true }) only[go_sem,Int.reduceToNat,Nat.reduceAdd,Nat.reduceSub,Nat.reduceMul,Nat.reduceBEq,reduceIte,reduceCtorEq]
 refine HW.loopG (fun k T H=>∃(i:Nat),k=f.init.length-i∧i≤f.init.length∧T 1=.pt 0 1 0 0∧T 3=.sl (strs (putsF [] ((f.init.take i).map (·.1))))∧T 4=.v (.int .i64 i)∧H=[some (fileO f)]) f.init.length ⟨_,_,Ghost.tmp 3 (.sl []) Conv.nilSl,0,rfl,by omega,rfl,rfl,rfl,rfl⟩ ?_
 rintro k T H ⟨i,rfl,hil,h1,h3,h4,rfl⟩
 refine HW.run 200 (by kernel_rfl) ?_
 by_cases hlt:i<f.init.length
 ·have hlt' : ((i:Int)<(f.init.length:Int))=True:=by simp only[eq_iff_iff,iff_true];omega
  have hx:f.init[i]?=some f.init[i]:=List.getElem?_eq_getElem hlt
  have htk:f.init.take (i+1)=f.init.take i++[f.init[i]]:=by rw[List.take_add_one,hx];rfl
  generalize f.init[i]=c at hx htk
  have hle:=putsF_len ((f.init.take i).map (·.1)) []
  rw[List.length_map,List.length_take,List.length_nil] at hle
  simp (config:={ decide:=true }) only[go_sem,Int.reduceToNat,Nat.reduceAdd,Nat.reduceSub,Nat.reduceMul,Nat.reduceBEq,reduceIte,reduceCtorEq,h1,h3,h4,hlt',hx,crow]
  repeat (with_reducible refine And.intro ?_ ?_;·(with_reducible and_intros) <;> omega)
  refine callX_nm (refPutSl (putsF [] ((f.init.take i).map (·.1))) c.1 (by omega)) rfl rfl ?_
  simp (config:={ decide:=true }) only[go_sem,Int.reduceToNat,Nat.reduceAdd,Nat.reduceSub,Nat.reduceMul,Nat.reduceBEq,reduceIte,reduceCtorEq,h1,h3,h4]
  refine ⟨_,_,Ghost.refl,f.init.length-(i+1),by omega,i+1,rfl,by omega,?_,?_,?_,rfl⟩
  all_goals first | (simp (config:={ decide:=true }) only[go_sem,Nat.reduceBEq,reduceIte,h1];done) | (simp (config:={ decide:=true }) only[go_sem,Nat.reduceBEq,reduceIte];rw[w64 (by omega) (by omega)];rfl) | (simp (config:={ decide:=true }) only[go_sem,Nat.reduceBEq,reduceIte];rw[htk,List.map_append,List.map_cons,List.map_nil,putsF_snoc])
 ·have hlt' : ((i:Int)<(f.init.length:Int))=False:=by simp only[eq_iff_iff,iff_false];omega
  obtain rfl:i=f.init.length:=by omega
  rw[List.take_length] at h3
  simp (config:={ decide:=true }) only[go_sem,Int.reduceToNat,Nat.reduceAdd,Nat.reduceSub,Nat.reduceMul,Nat.reduceBEq,reduceIte,reduceCtorEq,h1,h3,h4,hlt']
  have hAl:(f.init.map (·.1)).length=f.init.length:=List.length_map _
  generalize f.init.map (·.1)=A at h3 hAl⊢
  refine HW.loopG (fun k T H=>∃(i:Nat),k=f.thr.length-i∧i≤f.thr.length∧T 1=.pt 0 1 0 0∧T 3=.sl (strs (putsF [] (A++(f.thr.take i).flatMap fun l=>l.map (·.loc))))∧T 5=.v (.int .i64 i)∧H=[some (fileO f)]) f.thr.length ⟨_,_,Ghost.refl,0,rfl,by omega,by simp (config:={ decide:=true }) only[go_sem,Nat.reduceBEq,reduceIte,h1],by simp (config:={ decide:=true }) only[go_sem,Nat.reduceBEq,reduceIte,h3,List.take_zero,List.flatMap_nil,List.append_nil],rfl,rfl⟩ ?_
  clear h1 h3 h4
  rintro k T H ⟨i,rfl,hil,h1,h3,h5,rfl⟩
  refine HW.run 200 (by kernel_rfl) ?_
  by_cases hlt:i<f.thr.length
  ·have hlt' : ((i:Int)<(f.thr.length:Int))=True:=by simp only[eq_iff_iff,iff_true];omega
   have hx:f.thr[i]?=some f.thr[i]:=List.getElem?_eq_getElem hlt
   have htk:f.thr.take (i+1)=f.thr.take i++[f.thr[i]]:=by rw[List.take_add_one,hx];rfl
   have hfl:((f.thr.take (i+1)).flatMap fun l=>l.map (·.loc)).length≤(f.thr.flatMap fun l=>l.map (·.loc)).length:=by
    have:(f.thr.flatMap fun l=>l.map (·.loc))=((f.thr.take (i+1)).flatMap fun l=>l.map (·.loc))++((f.thr.drop (i+1)).flatMap fun l=>l.map (·.loc)):=by rw[←List.flatMap_append,List.take_append_drop]
    rw[this,List.length_append];omega
   generalize f.thr[i]=l at hx htk
   rw[htk,List.flatMap_append,List.length_append] at hfl
   generalize hBB:((f.thr.take i).flatMap fun l=>l.map (·.loc))=B at hfl h3
   have hfl' : B.length+l.length≤(f.thr.flatMap fun l=>l.map (·.loc)).length:=by simpa using hfl
   simp (config:={ decide:=true }) only[go_sem,Int.reduceToNat,Nat.reduceAdd,Nat.reduceSub,Nat.reduceMul,Nat.reduceBEq,reduceIte,reduceCtorEq,h1,h3,h5,hlt',hx,tdrow]
   refine HW.loopG (fun k T H=>∃(j:Nat),k=l.length-j∧j≤l.length∧T 1=.pt 0 1 0 0∧T 3=.sl (strs (putsF [] (A++B++(l.take j).map (·.loc))))∧T 5=.v (.int .i64 i)∧T 6=.v (.int .i64 j)∧H=[some (fileO f)]) l.length ⟨_,_,Ghost.refl,0,rfl,by omega,by simp (config:={ decide:=true }) only[go_sem,Nat.reduceBEq,reduceIte,h1],by simp (config:={ decide:=true }) only[go_sem,Nat.reduceBEq,reduceIte,h3,List.take_zero,List.map_nil,List.append_nil],by simp (config:={ decide:=true }) only[go_sem,Nat.reduceBEq,reduceIte,h5],rfl,rfl⟩ ?_
   clear h1 h3 h5
   rintro k T H ⟨j,rfl,hjl,h1,h3,h5,h6,rfl⟩
   refine HW.run 200 (by kernel_rfl) ?_
   by_cases hlt2:j<l.length
   ·have hlt2' : ((j:Int)<(l.length:Int))=True:=by simp only[eq_iff_iff,iff_true];omega
    have hx2:l[j]?=some l[j]:=List.getElem?_eq_getElem hlt2
    have htk2:l.take (j+1)=l.take j++[l[j]]:=by rw[List.take_add_one,hx2];rfl
    generalize l[j]=x at hx2 htk2
    have hle:=putsF_len (A++B++(l.take j).map (·.loc)) []
    simp only[List.length_append,List.length_map,List.length_take,List.length_nil] at hle
    simp (config:={ decide:=true }) only[go_sem,Int.reduceToNat,Nat.reduceAdd,Nat.reduceSub,Nat.reduceMul,Nat.reduceBEq,reduceIte,reduceCtorEq,h1,h3,h5,h6,hlt',hx,tdrow,hlt2',hx2,lnrow]
    repeat (with_reducible refine And.intro ?_ ?_;·(with_reducible and_intros) <;> omega)
    refine callX_nm (refPutSl (putsF [] (A++B++(l.take j).map (·.loc))) x.loc (by omega)) rfl rfl ?_
    simp (config:={ decide:=true }) only[go_sem,Int.reduceToNat,Nat.reduceAdd,Nat.reduceSub,Nat.reduceMul,Nat.reduceBEq,reduceIte,reduceCtorEq,h1,h3,h5,h6]
    refine ⟨_,_,Ghost.refl,l.length-(j+1),by omega,j+1,rfl,by omega,?_,?_,?_,?_,rfl⟩
    all_goals first | (simp (config:={ decide:=true }) only[go_sem,Nat.reduceBEq,reduceIte,h1,h5];done) | (simp (config:={ decide:=true }) only[go_sem,Nat.reduceBEq,reduceIte];rw[w64 (by omega) (by omega)];rfl) | (simp (config:={ decide:=true }) only[go_sem,Nat.reduceBEq,reduceIte];rw[htk2,List.map_append,List.map_cons,List.map_nil,←List.append_assoc,putsF_snoc])
   ·have hlt2' : ((j:Int)<(l.length:Int))=False:=by simp only[eq_iff_iff,iff_false];omega
    obtain rfl:j=l.length:=by omega
    rw[List.take_length] at h3
    simp (config:={ decide:=true }) only[go_sem,Int.reduceToNat,Nat.reduceAdd,Nat.reduceSub,Nat.reduceMul,Nat.reduceBEq,reduceIte,reduceCtorEq,h1,h3,h5,h6,hlt',hx,tdrow,hlt2']
    repeat (with_reducible refine And.intro ?_ ?_;·(with_reducible and_intros) <;> omega)
    refine ⟨_,_,Ghost.refl,f.thr.length-(i+1),by omega,i+1,rfl,by omega,?_,?_,?_,rfl⟩
    all_goals first | (simp (config:={ decide:=true }) only[go_sem,Nat.reduceBEq,reduceIte,h1];done) | (simp (config:={ decide:=true }) only[go_sem,Nat.reduceBEq,reduceIte];rw[w64 (by omega) (by omega)];rfl) | (simp (config:={ decide:=true }) only[go_sem,Nat.reduceBEq,reduceIte,h3];rw[htk,List.flatMap_append,hBB];simp)
  ·have hlt' : ((i:Int)<(f.thr.length:Int))=False:=by simp only[eq_iff_iff,iff_false];omega
   obtain rfl:i=f.thr.length:=by omega
   rw[List.take_length] at h3
   simp (config:={ decide:=true }) only[go_sem,Int.reduceToNat,Nat.reduceAdd,Nat.reduceSub,Nat.reduceMul,Nat.reduceBEq,reduceIte,reduceCtorEq,h1,h3,h5,hlt']
   generalize hA2:(A++f.thr.flatMap fun l=>l.map (·.loc))=A2 at h3⊢
   have hA2l:A2.length+(condL f.cond).length≤400000:=by rw[←hA2,List.length_append];omega
   refine HW.loopG (fun k T H=>∃(i:Nat),k=f.cond.length-i∧i≤f.cond.length∧T 1=.pt 0 1 0 0∧T 3=.sl (strs (putsF [] (A2++condL (f.cond.take i))))∧T 7=.v (.int .i64 i)∧H=[some (fileO f)]) f.cond.length ⟨_,_,Ghost.refl,0,rfl,by omega,by simp (config:={ decide:=true }) only[go_sem,Nat.reduceBEq,reduceIte,h1],?_,rfl,rfl⟩ ?_
   ·simp (config:={ decide:=true }) only[go_sem,Nat.reduceBEq,reduceIte,h3]
    simp[condL]
   clear h1 h3 h5
   rintro k T H ⟨i,rfl,hil,h1,h3,h7,rfl⟩
   refine HW.run 200 (by kernel_rfl) ?_
   by_cases hlt:i<f.cond.length
   ·have hlt' : ((i:Int)<(f.cond.length:Int))=True:=by simp only[eq_iff_iff,iff_true];omega
    have hx:f.cond[i]?=some f.cond[i]:=List.getElem?_eq_getElem hlt
    have htk:f.cond.take (i+1)=f.cond.take i++[f.cond[i]]:=by rw[List.take_add_one,hx];rfl
    have hjl2:=condL_len (f.cond.take i)
    rw[List.length_take] at hjl2
    generalize f.cond[i]=x at hx htk
    have hs:=condL_snoc (f.cond.take i) x
    rw[←htk] at hs
    have hle:=putsF_len (A2++condL (f.cond.take i)) []
    simp only[List.length_append,List.length_nil] at hle
    by_cases hx0:x.th = -1
    ·rw[if_pos hx0] at hs
     simp (config:={ decide:=true }) only[go_sem,Int.reduceToNat,Nat.reduceAdd,Nat.reduceSub,Nat.reduceMul,Nat.reduceBEq,reduceIte,reduceCtorEq,h1,h3,h7,hlt',hx,arow,hx0]
     repeat (with_reducible refine And.intro ?_ ?_;·(with_reducible and_intros) <;> omega)
     refine callX_nm (refPutSl (putsF [] (A2++condL (f.cond.take i))) x.nm (by omega)) rfl rfl ?_
     simp (config:={ decide:=true }) only[go_sem,Int.reduceToNat,Nat.reduceAdd,Nat.reduceSub,Nat.reduceMul,Nat.reduceBEq,reduceIte,reduceCtorEq,h1,h3,h7]
     refine ⟨_,_,Ghost.refl,f.cond.length-(i+1),by omega,i+1,rfl,by omega,?_,?_,?_,rfl⟩
     all_goals first | (simp (config:={ decide:=true }) only[go_sem,Nat.reduceBEq,reduceIte,h1];done) | (simp (config:={ decide:=true }) only[go_sem,Nat.reduceBEq,reduceIte];rw[w64 (by omega) (by omega)];rfl) | (simp (config:={ decide:=true }) only[go_sem,Nat.reduceBEq,reduceIte];rw[hs,←List.append_assoc,putsF_snoc])
    ·rw[if_neg hx0] at hs
     simp (config:={ decide:=true }) only[go_sem,Int.reduceToNat,Nat.reduceAdd,Nat.reduceSub,Nat.reduceMul,Nat.reduceBEq,reduceIte,reduceCtorEq,h1,h3,h7,hlt',hx,arow,hx0]
     repeat (with_reducible refine And.intro ?_ ?_;·(with_reducible and_intros) <;> omega)
     refine ⟨_,_,Ghost.refl,f.cond.length-(i+1),by omega,i+1,rfl,by omega,?_,?_,?_,rfl⟩
     all_goals first | (simp (config:={ decide:=true }) only[go_sem,Nat.reduceBEq,reduceIte,h1];done) | (simp (config:={ decide:=true }) only[go_sem,Nat.reduceBEq,reduceIte];rw[w64 (by omega) (by omega)];rfl) | (simp (config:={ decide:=true }) only[go_sem,Nat.reduceBEq,reduceIte,h3];rw[hs])
   ·have hlt' : ((i:Int)<(f.cond.length:Int))=False:=by simp only[eq_iff_iff,iff_false];omega
    obtain rfl:i=f.cond.length:=by omega
    rw[List.take_length] at h3
    simp (config:={ decide:=true }) only[go_sem,Int.reduceToNat,Nat.reduceAdd,Nat.reduceSub,Nat.reduceMul,Nat.reduceBEq,reduceIte,reduceCtorEq,h1,h3,h7,hlt']
end Go.Proofs.YtmapdjdnnhlpiaaGreatDoor
namespace Go.Proofs.YtmapdjdnnhlpiaaGreatDoor
open Go.RowKit
set_option maxRecDepth 8000
structure OkR (f:Fl):Prop where
 init:f.init.length≤100000
 thr:f.thr.length≤100000
 cond:f.cond.length≤100000
 len:∀l∈f.thr,l.length≤100000
 raw:(rawL f).length≤400000
 nm:f.name.length≤1000000
 ci:∀c∈f.init,c.1.length≤1000000
 ln:∀l∈f.thr,∀x∈l,x.rg.length≤1000000∧x.loc.length≤1000000∧x.lab.length≤1000000
 ca:∀a∈f.cond,a.nm.length≤1000000
theorem checkF_1 {f:Fl} {w:Int×Int×Int} (h:headO f=some w):checkF f=w:=by unfold checkF allO;rw[h];rfl
theorem checkF_2 {f:Fl} {w:Int×Int×Int} (h:headO f=none) (h2:thsO 0 f.thr=some w):checkF f=w:=by unfold checkF allO;rw[h,h2];rfl
theorem checkF_3 {f:Fl} {w:Int×Int×Int} (h:headO f=none) (h2:thsO 0 f.thr=none) (h3:conO f=some w):checkF f=w:=by unfold checkF allO;rw[h,h2,h3];rfl
theorem checkF_4 {f:Fl} (h:headO f=none) (h2:thsO 0 f.thr=none) (h3:conO f=none):checkF f=if 4<(foldC [] (locL f)).length then (-1,-1,5) else (0,0,0):=by
 unfold checkF allO;rw[h,h2,h3]
 unfold locO
 by_cases h5:4<(foldC [] (locL f)).length <;> simp[h5]
theorem headO_0 {f:Fl} (h:headE f=0):headO f=none:=by unfold headO;rw[if_pos h]
theorem thsO_hit {k:Nat} {l:List LT} {r:List (List LT)} {i:Nat} {e:Int} (h:thrE [] l=some (i,e)):thsO k (l::r)=some ((k:Int),(i:Int),e):=by
 unfold thsO thrO;rw[h];rfl
theorem thsO_miss {k:Nat} {l:List LT} {r:List (List LT)} (h:thrE [] l=none):thsO k (l::r)=thsO (k+1) r:=by
 rw[thsO];unfold thrO;rw[h];rfl
theorem iniE_names:∀(c:List (List UInt8×Int)) (last:List UInt8),iniE last c=0→∀x∈c,nameB x.1=true
 | [],_,_,x,hx=>by cases hx
 | a::c,last,h,x,hx=>by
  rw[iniE] at h
  split at h
  ·cases h
  ·rename_i hn
   split at h
   ·cases h
   ·rcases List.mem_cons.1 hx with rfl | hx
    ·simpa using hn
    ·exact iniE_names c _ h x hx
theorem conE_asked (n:Nat):∀(c:List AT) (i:Nat),conE n i c=none→∀a∈c,askedB a.th a.nm=true∧a.th<(n:Int)
 | [],_,_,a,ha=>by cases ha
 | x::c,i,h,a,ha=>by
  rw[conE] at h
  split at h
  ·cases h
  ·split at h
   ·cases h
   ·rename_i hq
    split at h
    ·cases h
    ·rcases List.mem_cons.1 ha with rfl | ha
     ·exact ⟨by simpa using hq,by omega⟩
     ·exact conE_asked n c _ h a ha
theorem headE_init {f:Fl} (h:headE f=0):iniE [] f.init=0∧nameB f.name=true∧1≤f.thr.length∧f.thr.length≤3:=by
 unfold headE at h
 split at h
 ·cases h
 ·rename_i hn
  split at h
  ·exact absurd h (by assumption)
  ·rename_i hi
   split at h
   ·cases h
   ·exact ⟨by simpa using hi,by simpa using hn,by omega,by omega⟩
theorem locs_len {f:Fl} (h1:headE f=0) (h3:conO f=none):(putsF [] (rawL f)).length=(foldC [] (locL f)).length:=by
 refine putsF_length _ _ fun y=>?_
 have hi:=iniE_names _ _ (headE_init h1).1
 have hc:conE f.thr.length 0 f.cond=none:=by
  unfold conO at h3
  cases h:conE f.thr.length 0 f.cond with
  | none=>rfl
  | some p=>rw[h] at h3;cases h3
 have ha:=conE_asked _ _ _ hc
 rw[locL_eq]
 unfold rawL
 simp only[List.mem_append,List.mem_map,List.mem_flatMap]
 constructor
 ·rintro ((⟨c,hc,rfl⟩ | ⟨l,hl,hy⟩) | hy)
  ·refine ⟨fun e=>?_,.inl (.inl ⟨c,hc,rfl⟩)⟩
   have:=hi c hc
   rw[e,name_nil] at this;cases this
  ·have:=List.mem_filter.1 hy
   refine ⟨by simpa using this.2,.inl (.inr ⟨l,hl,List.mem_map.1 this.1⟩)⟩
  ·refine ⟨fun e=>?_,.inr hy⟩
   obtain ⟨a,hm,rfl⟩:=List.mem_map.1 hy
   exact (asked_nm (ha a (List.mem_filter.1 hm).1).1).1 e
 ·rintro ⟨hne,((h | ⟨l,hl,hy⟩) | hy)⟩
  ·exact .inl (.inl h)
  ·exact .inl (.inr ⟨l,hl,List.mem_filter.2 ⟨List.mem_map.2 hy,by simpa using hne⟩⟩)
  ·exact .inr hy
set_option maxHeartbeats 16000000 in
theorem refCheck4 (f:Fl) (ok:OkR f):HFn Tryz.prog 18 [fileH f] (.tu [.v (.int .i64 (checkF f).1),.v (.int .i64 (checkF f).2.1),.v (.int .i64 (checkF f).2.2)]):=by
 have k1:=ok.init
 have k2:=ok.thr
 have k3:=ok.cond
 have hH:=refHead4 f (by omega) (by omega) ok.nm ok.ci
 by_cases e1:headE f=0
 case neg =>
  rw[checkF_1 (f:=f) (w:=(-1,-1,headE f)) (by unfold headO;rw[if_neg e1])]
  refine HCalls_body (fn:=Tryz.f18) 86 [2,3,4] (by kernel_rfl) rfl (by kernel_rfl) (HW.run 400 (by kernel_rfl) ?_)
  simp (config:={ decide:=true }) only[go_sem,Int.reduceToNat,Nat.reduceAdd,Nat.reduceSub,Nat.reduceMul,Nat.reduceBEq,reduceIte,reduceCtorEq]
  refine callX_nm (hH) rfl rfl ?_
  simp (config:={ decide:=true }) only[go_sem,Int.reduceToNat,Nat.reduceAdd,Nat.reduceSub,Nat.reduceMul,Nat.reduceBEq,reduceIte,reduceCtorEq,e1]
 rw[e1] at hH
 have e1':=headO_0 e1
 have hL:=HFn.shut (refLocs f ok.raw (by omega) (by omega)) (R':=.sl (strs (putsF [] (rawL f)))) (by simp only[fzo,strs_fzoR])
 have hLl:=fun h3=>locs_len (f:=f) e1 h3
 have hR1:=fun w h2=>checkF_2 (f:=f) (w:=w) e1' h2
 have hR2:=fun w h2 h3=>checkF_3 (f:=f) (w:=w) e1' h2 h3
 have hR3:=fun h2 h3=>checkF_4 (f:=f) e1' h2 h3
 generalize checkF f=R at hR1 hR2 hR3⊢
 refine HCalls_body (fn:=Tryz.f18) 86 [2,3,4] (by kernel_rfl) rfl (by kernel_rfl) (HW.run 400 (by kernel_rfl) ?_)
 simp (config:={ decide:=true }) only[go_sem,Int.reduceToNat,Nat.reduceAdd,Nat.reduceSub,Nat.reduceMul,Nat.reduceBEq,reduceIte,reduceCtorEq]
 refine callX_nm (hH) rfl rfl ?_
 simp (config:={ decide:=true }) only[go_sem,Int.reduceToNat,Nat.reduceAdd,Nat.reduceSub,Nat.reduceMul,Nat.reduceBEq,reduceIte,reduceCtorEq]
 refine HW.loopG (fun k T H=>∃(i:Nat),k=f.thr.length-i∧i≤f.thr.length∧thsO 0 f.thr=thsO i (f.thr.drop i)∧T 1=.pt 0 1 0 0∧T 6=.v (.int .i64 i)∧H=[some (fileO f)]) f.thr.length ⟨_,_,Ghost.refl,0,rfl,by omega,rfl,rfl,rfl,rfl⟩ ?_
 rintro k T H ⟨i,rfl,hil,hI,h1,h6,rfl⟩
 refine HW.run 200 (by kernel_rfl) ?_
 by_cases hlt:i<f.thr.length
 ·have hlt' : ((i:Int)<(f.thr.length:Int))=True:=by simp only[eq_iff_iff,iff_true];omega
  have hx:f.thr[i]?=some f.thr[i]:=List.getElem?_eq_getElem hlt
  have hdr:f.thr.drop i=f.thr[i]::f.thr.drop (i+1):=List.drop_eq_getElem_cons hlt
  have hxl:=ok.len _ (List.getElem_mem hlt)
  have hxs:=ok.ln _ (List.getElem_mem hlt)
  rw[hdr] at hI
  generalize f.thr[i]=l at hx hI hxl hxs
  simp (config:={ decide:=true }) only[go_sem,Int.reduceToNat,Nat.reduceAdd,Nat.reduceSub,Nat.reduceMul,Nat.reduceBEq,reduceIte,reduceCtorEq,h1,h6,hlt']
  refine HW.loopG (fun k T H=>∃(j:Nat),k=l.length-j∧j≤l.length∧thrE [] l=thrE (l.take j) (l.drop j)∧T 1=.pt 0 1 0 0∧T 6=.v (.int .i64 i)∧T 7=.v (.int .i64 j)∧H=[some (fileO f)]) l.length ⟨_,_,Ghost.refl,0,rfl,by omega,rfl,by simp (config:={ decide:=true }) only[go_sem,Nat.reduceBEq,reduceIte,h1],by simp (config:={ decide:=true }) only[go_sem,Nat.reduceBEq,reduceIte,h6],rfl,rfl⟩ ?_
  clear h1 h6
  rintro k T H ⟨j,rfl,hjl,hJ,h1,h6,h7,rfl⟩
  refine HW.run 200 (by kernel_rfl) ?_
  by_cases hjt:j<l.length
  ·have hjt' : ((j:Int)<(l.length:Int))=True:=by simp only[eq_iff_iff,iff_true];omega
   have hy:l[j]?=some l[j]:=List.getElem?_eq_getElem hjt
   have hdj:l.drop j=l[j]::l.drop (j+1):=List.drop_eq_getElem_cons hjt
   have htk:l.take (j+1)=l.take j++[l[j]]:=by rw[List.take_add_one,hy];rfl
   obtain ⟨g1,g2,g3⟩:=hxs _ (List.getElem_mem hjt)
   rw[hdj,thrE] at hJ
   generalize l[j]=x at hy hJ htk g1 g2 g3
   have hA:=refLineOne l j x hy (by omega) g1 g2 g3
   have hz:(l.take j).length=j:=by rw[List.length_take];omega
   simp (config:={ decide:=true }) only[go_sem,Int.reduceToNat,Nat.reduceAdd,Nat.reduceSub,Nat.reduceMul,Nat.reduceBEq,reduceIte,reduceCtorEq,h1,h6,h7,hlt',hx,tdrow,hjt']
   repeat (with_reducible refine And.intro ?_ ?_;·(with_reducible and_intros) <;> omega)
   by_cases he:lineE (l.take j) x (l.drop (j+1))=0
   ·rw[if_pos he,←htk] at hJ
    rw[he] at hA
    refine callX_nm (hA) rfl rfl ?_
    simp (config:={ decide:=true }) only[go_sem,Int.reduceToNat,Nat.reduceAdd,Nat.reduceSub,Nat.reduceMul,Nat.reduceBEq,reduceIte,reduceCtorEq,h1,h6,h7]
    refine ⟨_,_,Ghost.refl,l.length-(j+1),by omega,j+1,rfl,by omega,hJ,?_,?_,?_,rfl⟩
    all_goals first | (simp (config:={ decide:=true }) only[go_sem,Nat.reduceBEq,reduceIte,h1,h6];done) | (simp (config:={ decide:=true }) only[go_sem,Nat.reduceBEq,reduceIte];rw[w64 (by omega) (by omega)];rfl)
   ·rw[if_neg he,hz] at hJ
    rw[thsO_hit hJ] at hI
    obtain rfl:=hR1 _ hI
    refine callX_nm (hA) rfl rfl ?_
    simp (config:={ decide:=true }) only[go_sem,Int.reduceToNat,Nat.reduceAdd,Nat.reduceSub,Nat.reduceMul,Nat.reduceBEq,reduceIte,reduceCtorEq,h1,h6,h7,he]
  ·have hjt' : ((j:Int)<(l.length:Int))=False:=by simp only[eq_iff_iff,iff_false];omega
   rw[List.drop_of_length_le (by omega)] at hJ
   have hJ' : thrE [] l=none:=hJ
   rw[thsO_miss hJ'] at hI
   simp (config:={ decide:=true }) only[go_sem,Int.reduceToNat,Nat.reduceAdd,Nat.reduceSub,Nat.reduceMul,Nat.reduceBEq,reduceIte,reduceCtorEq,h1,h6,h7,hlt',hx,tdrow,hjt']
   repeat (with_reducible refine And.intro ?_ ?_;·(with_reducible and_intros) <;> omega)
   refine ⟨_,_,Ghost.refl,f.thr.length-(i+1),by omega,i+1,rfl,by omega,hI,?_,?_,rfl⟩
   all_goals first | (simp (config:={ decide:=true }) only[go_sem,Nat.reduceBEq,reduceIte,h1];done) | (simp (config:={ decide:=true }) only[go_sem,Nat.reduceBEq,reduceIte];rw[w64 (by omega) (by omega)];rfl)
 have hlt' : ((i:Int)<(f.thr.length:Int))=False:=by simp only[eq_iff_iff,iff_false];omega
 rw[List.drop_of_length_le (by omega)] at hI
 have hT:thsO 0 f.thr=none:=hI
 simp (config:={ decide:=true }) only[go_sem,Int.reduceToNat,Nat.reduceAdd,Nat.reduceSub,Nat.reduceMul,Nat.reduceBEq,reduceIte,reduceCtorEq,h1,h6,hlt']
 refine HW.loopG (fun k T H=>∃(i:Nat),k=f.cond.length-i∧i≤f.cond.length∧conE f.thr.length 0 f.cond=conE f.thr.length i (f.cond.drop i)∧T 1=.pt 0 1 0 0∧T 9=.v (.int .i64 i)∧H=[some (fileO f)]) f.cond.length ⟨_,_,Ghost.refl,0,rfl,by omega,rfl,by simp (config:={ decide:=true }) only[go_sem,Nat.reduceBEq,reduceIte,h1],rfl,rfl⟩ ?_
 clear h1 h6 hI hil hlt hlt'
 rintro k T H ⟨i,rfl,hil,hI,h1,h9,rfl⟩
 refine HW.run 200 (by kernel_rfl) ?_
 by_cases hlt:i<f.cond.length
 ·have hlt' : ((i:Int)<(f.cond.length:Int))=True:=by simp only[eq_iff_iff,iff_true];omega
  have hx:f.cond[i]?=some f.cond[i]:=List.getElem?_eq_getElem hlt
  have hdr:f.cond.drop i=f.cond[i]::f.cond.drop (i+1):=List.drop_eq_getElem_cons hlt
  have hnm:=ok.ca _ (List.getElem_mem hlt)
  rw[hdr,conE] at hI
  generalize f.cond[i]=c at hx hI hnm
  have leaf:∀e:Int,conE f.thr.length 0 f.cond=some (i,e)→R=((f.thr.length:Int),(i:Int),e):=fun e h=>hR2 _ hT (by unfold conO;rw[h];rfl)
  by_cases h6:6≤i
  ·have h6' : ((6:Int)≤(i:Int))=True:=by simp only[eq_iff_iff,iff_true];omega
   rw[if_pos h6] at hI
   obtain rfl:=leaf _ hI
   simp (config:={ decide:=true }) only[go_sem,Int.reduceToNat,Nat.reduceAdd,Nat.reduceSub,Nat.reduceMul,Nat.reduceBEq,reduceIte,reduceCtorEq,h1,h9,hlt',hx,arow,h6']
  have h6' : ((6:Int)≤(i:Int))=False:=by simp only[eq_iff_iff,iff_false];omega
  rw[if_neg h6] at hI
  simp (config:={ decide:=true }) only[go_sem,Int.reduceToNat,Nat.reduceAdd,Nat.reduceSub,Nat.reduceMul,Nat.reduceBEq,reduceIte,reduceCtorEq,h1,h9,hlt',hx,arow,h6']
  have hq:=refAsked c.th c.nm c.n hnm
  cases hc:askedB c.th c.nm with
  | false =>
   rw[if_pos hc] at hI
   obtain rfl:=leaf _ hI
   rw[hc] at hq
   refine callX_nm (hq) rfl rfl ?_
   simp (config:={ decide:=true }) only[go_sem,Int.reduceToNat,Nat.reduceAdd,Nat.reduceSub,Nat.reduceMul,Nat.reduceBEq,reduceIte,reduceCtorEq,h1,h9]
  | true =>
   rw[if_neg (by simp[hc])] at hI
   rw[hc] at hq
   refine callX_nm (hq) rfl rfl ?_
   by_cases ht:(f.thr.length:Int)≤c.th
   ·rw[if_pos ht] at hI
    obtain rfl:=leaf _ hI
    simp (config:={ decide:=true }) only[go_sem,Int.reduceToNat,Nat.reduceAdd,Nat.reduceSub,Nat.reduceMul,Nat.reduceBEq,reduceIte,reduceCtorEq,h1,h9,ht]
   ·rw[if_neg ht] at hI
    simp (config:={ decide:=true }) only[go_sem,Int.reduceToNat,Nat.reduceAdd,Nat.reduceSub,Nat.reduceMul,Nat.reduceBEq,reduceIte,reduceCtorEq,h1,h9,ht]
    refine ⟨_,_,Ghost.trunc [1,9] 1 (by omega) ?_ ?_,f.cond.length-(i+1),by omega,i+1,rfl,by omega,hI,?_,?_,?_⟩
    all_goals first | (simp (config:={ decide:=true }) only[go_sem,Nat.reduceBEq,reduceIte,h1];done) | (simp (config:={ decide:=true }) only[go_sem,Nat.reduceBEq,reduceIte];rw[w64 (by omega) (by omega)];rfl) | rfl
 have hlt' : ((i:Int)<(f.cond.length:Int))=False:=by simp only[eq_iff_iff,iff_false];omega
 rw[List.drop_of_length_le (by omega)] at hI
 have hC:conO f=none:=by unfold conO;rw[hI];rfl
 have hl:=hLl hC
 have hR:=hR3 hT hC
 simp (config:={ decide:=true }) only[go_sem,Int.reduceToNat,Nat.reduceAdd,Nat.reduceSub,Nat.reduceMul,Nat.reduceBEq,reduceIte,reduceCtorEq,h1,h9,hlt']
 refine callX_nm (hL) rfl rfl ?_
 by_cases h4:4<(foldC [] (locL f)).length
 ·have h4' : ((4:Int)<((putsF [] (rawL f)).length:Int))=True:=by simp only[eq_iff_iff,iff_true];omega
  rw[if_pos h4] at hR
  subst hR
  simp (config:={ decide:=true }) only[go_sem,Int.reduceToNat,Nat.reduceAdd,Nat.reduceSub,Nat.reduceMul,Nat.reduceBEq,reduceIte,reduceCtorEq,h4']
 ·have h4' : ((4:Int)<((putsF [] (rawL f)).length:Int))=False:=by simp only[eq_iff_iff,iff_false];omega
  rw[if_neg h4] at hR
  subst hR
  simp (config:={ decide:=true }) only[go_sem,Int.reduceToNat,Nat.reduceAdd,Nat.reduceSub,Nat.reduceMul,Nat.reduceBEq,reduceIte,reduceCtorEq,h4']
theorem refRight4 (f:Fl) (ok:OkR f):HFn Tryz.prog 13 [fileH f] (.v (.bool (decide ((checkF f).2.2=0)))):=by
 have h:=refCheck4 f ok
 generalize checkF f=R at h⊢
 refine HCalls_body (fn:=Tryz.f13) 14 [2] (by kernel_rfl) rfl (by kernel_rfl) (HW.run 400 (by kernel_rfl) ?_)
 simp (config:={ decide:=true }) only[go_sem,Int.reduceToNat,Nat.reduceAdd,Nat.reduceSub,Nat.reduceMul,Nat.reduceBEq,reduceIte,reduceCtorEq]
 refine callX_nm (h) rfl rfl ?_
 simp (config:={ decide:=true }) only[go_sem,Int.reduceToNat,Nat.reduceAdd,Nat.reduceSub,Nat.reduceMul,Nat.reduceBEq,reduceIte,reduceCtorEq]
end Go.Proofs.YtmapdjdnnhlpiaaGreatDoor
namespace Go.Proofs.YtmapdjdnnhlpiaaGreatDoor
set_option maxRecDepth 8000
structure AtOk (s:PS) (m:Nat):Prop where
 next:s.next=0∨s.next=1∨s.next=2∨s.next=3∨s.next=4
 lines:∀r∈s.lines,∀x∈r,1≤x∧x≤(m:Int)
 head:s.next≠0→1≤s.head∧s.head≤(m:Int)
 fin:s.next=4→1≤s.fin∧s.fin≤(m:Int)
theorem AtOk.mono {s:PS} {m n:Nat} (h:AtOk s m) (hn:m≤n):AtOk s n :=
 ⟨h.next,fun r hr x hx=>⟨(h.lines r hr x hx).1,by have:=(h.lines r hr x hx).2;omega⟩,fun h0=>⟨(h.head h0).1,by have:=(h.head h0).2;omega⟩,fun h0=>⟨(h.fin h0).1,by have:=(h.fin h0).2;omega⟩⟩
theorem lines_tot:∀(l:List (List UInt8)) (s:PS) (k:Nat),Agree s→totF (linesF s k l).1≤totF s+sumW l∧((linesF s k l).2=none→Agree (linesF s k l).1)
 | [],s,k,h=>⟨Nat.le_add_right _ _,fun _=>h⟩
 | x::l,s,k,h=>by
  have hs:sumW (x::l)=(wordsB x).length+sumW l:=rfl
  rw[linesF]
  split
  ·have:=lines_tot l s (k+1) h
   exact ⟨by omega,this.2⟩
  ·rename_i hw
   have hr:=readF_tot s (wordsB x) ((k+1:Nat):Int) hw h
   split
   ·rename_i hb
    have:=lines_tot l _ (k+1) (hr.2 hb)
    exact ⟨by omega,this.2⟩
   ·exact ⟨by show totF s≤_;omega,fun hh=>by cases hh⟩
inductive Ren (φ:Int→Int):Nat→List (List UInt8)→Nat→List (List UInt8)→Prop where
 | nil (k j:Nat):Ren φ k [] j []
 | blank {k j:Nat} {l:List (List UInt8)} {x:List UInt8} {r:List (List UInt8)}:wordsB x=[]→Ren φ k l (j+1) r→Ren φ k l j (x::r)
 | word {k j:Nat} {l:List (List UInt8)} {x y:List UInt8} {r:List (List UInt8)}:wordsB x=wordsB y→φ ((k+1:Nat):Int)=((j+1:Nat):Int)→Ren φ (k+1) l (j+1) r→Ren φ k (x::l) j (y::r)
end Go.Proofs.YtmapdjdnnhlpiaaGreatDoor
namespace Go.Proofs.YtmapdjdnnhlpiaaGreatDoor
open Go.RowKit
set_option maxRecDepth 8000
theorem regB_len {s:List UInt8} (h:0≤regB s):s.length≤3:=by
 rcases regB_cases s with h1 | ⟨h1,h2,h3⟩
 ·omega
 ·rw[←h3]
  unfold regNm
  repeat' split
  all_goals decide
theorem right_lens {x:LT} (h:x.right=true):x.rg.length≤1000000∧x.loc.length≤1000000∧x.lab.length≤1000000:=by
 have hr:∀s,0≤regB s→s.length≤1000000:=fun s hs=>by have:=regB_len hs;omega
 have hn:∀s,nameB s=true→s.length≤1000000:=fun s hs=>by have:=nameB_len8 hs;omega
 have h0:([]:List UInt8).length≤1000000:=by decide
 cases (right_iff x).1 h <;> refine ⟨?_,?_,?_⟩ <;> first | exact h0 | (apply hr;assumption) | (apply hn;assumption)
theorem flatLoc_len (r:List (List LT)):(r.flatMap fun l=>l.map (·.loc)).length=(r.map List.length).sum:=by
 induction r with
 | nil=>rfl
 | cons a r ih=>simp[List.flatMap_cons,ih]
end Go.Proofs.YtmapdjdnnhlpiaaGreatDoor
namespace Go.Proofs.YtmapdjdnnhlpiaaGreatDoor
open Go.RowKit
set_option maxRecDepth 8000
def sufK (k:Nat):List UInt8:=if k=2 then [32,32] else []
def rowK (k:Nat) (ws:List (List UInt8)):List UInt8:=ws.flatMap fun w=>32::w++sufK k
theorem rowK_cons (k:Nat) (w:List UInt8) (ws:List (List UInt8)):rowK k (w::ws)=32::w++sufK k++rowK k ws:=by simp[rowK]
theorem rowK_snoc (k:Nat) (w:List UInt8) (ws:List (List UInt8)):rowK k (ws++[w])=rowK k ws++[32]++w++sufK k:=by simp[rowK]
theorem word1 {w:List UInt8} (h1:w≠[]) (h2:(32:UInt8)∉w):wordsB w=[w]:=by
 unfold wordsB
 rw[cutB_plain h2]
 cases w with
 | nil=>exact absurd rfl h1
 | cons a w=>rfl
theorem words32 (r:List UInt8):wordsB (32::r)=wordsB r:=by
 have:=wordsB_parts [] r
 simpa [wordsB_nil] using this
theorem words_row (k:Nat):∀ws:List (List UInt8),(∀w∈ws,w≠[]∧(32:UInt8)∉w)→wordsB (rowK k ws)=ws
 | [],_=>wordsB_nil
 | w::ws,h=>by
  have ih:=words_row k ws fun x hx=>h x (by simp[hx])
  obtain ⟨h1,h2⟩:=h w (by simp)
  rw[rowK_cons,List.append_assoc,List.cons_append,words32]
  unfold sufK
  split
  ·have e:w++([32,32]++rowK k ws)=w++[32]++(32::rowK k ws):=by simp
   rw[e,wordsB_parts,words32,word1 h1 h2,ih];rfl
  ·cases ws with
   | nil=>simp[rowK,word1 h1 h2]
   | cons x ws =>
    rw[rowK_cons] at ih⊢
    rw[List.append_assoc,List.cons_append,words32] at ih
    have e:w++([]++(32::x++sufK k++rowK k ws))=w++[32]++(x++(sufK k++rowK k ws)):=by simp
    rw[e,wordsB_parts,ih,word1 h1 h2];rfl
theorem joinN_app (a b:List (List UInt8)):joinN (a++b)=joinN a++joinN b:=by simp[joinN]
end Go.Proofs.YtmapdjdnnhlpiaaGreatDoor
namespace Go.Proofs.YtmapdjdnnhlpiaaGreatDoor
set_option maxRecDepth 8000
def jnW:List (List UInt8)→List UInt8
 | []=>[]
 | w::ws=>w++rowK 0 ws
theorem jnW_snoc (w:List UInt8) (ws:List (List UInt8)):jnW (ws++[w])=if ws=[] then w else jnW ws++[32]++w:=by
 cases ws with
 | nil=>simp[jnW,rowK]
 | cons x ws=>simp[jnW,rowK_snoc,sufK]
def Clean (w:List UInt8):Prop:=w≠[]∧(32:UInt8)∉w∧(10:UInt8)∉w
theorem words_jn {ws:List (List UInt8)} (h:∀w∈ws,Clean w):wordsB (jnW ws)=ws:=by
 cases ws with
 | nil=>exact wordsB_nil
 | cons w ws =>
  have:=words_row 0 (w::ws) fun x hx=>⟨(h x hx).1,(h x hx).2.1⟩
  rw[rowK_cons,List.append_assoc,List.cons_append,words32] at this
  exact this
theorem jn_no10 {ws:List (List UInt8)} (h:∀w∈ws,Clean w):(10:UInt8)∉jnW ws:=by
 cases ws with
 | nil=>simp[jnW]
 | cons w ws =>
  intro hm
  rcases List.mem_append.1 hm with hm | hm
  ·exact (h w (by simp)).2.2 hm
  ·obtain ⟨x,hx,hm⟩:=List.mem_flatMap.1 hm
   simp[sufK] at hm
   exact (h x (by simp[hx])).2.2 hm
theorem clean_ld {s:List UInt8} (h:s.all ldB=true) (hn:s≠[]):Clean s:=by
 refine ⟨hn,fun hm=>?_,fun hm=>?_⟩
 ·have:=List.all_eq_true.1 h _ hm;revert this;decide
 ·have:=List.all_eq_true.1 h _ hm;revert this;decide
theorem clean_name {s:List UInt8} (h:nameB s=true):Clean s:=clean_ld (nameB_ld h) (fun e=>by rw[e,name_nil] at h;cases h)
theorem clean_reg {s:List UInt8} (h:0≤regB s):Clean s:=clean_ld (regB_ld h) (fun e=>by rw[e] at h;revert h;decide)
theorem clean_text (n:Int):Clean (textB n):=by
 have hd:∀c:UInt8,isDig c=false→c∉dB n.natAbs:=fun c hc hm=>by
  have:=List.all_eq_true.1 (dB_digs n.natAbs) _ hm
  rw[hc] at this;cases this
 refine ⟨textB_ne n,?_,?_⟩
 ·unfold textB
  split
  ·simp only[List.mem_cons,not_or];exact ⟨by decide,hd _ (by decide)⟩
  ·exact hd _ (by decide)
 ·unfold textB
  split
  ·simp only[List.mem_cons,not_or];exact ⟨by decide,hd _ (by decide)⟩
  ·exact hd _ (by decide)
theorem clean_at {s:List UInt8} (h:Clean s):Clean (atB s):=by
 refine ⟨by simp[atB],fun hm=>?_,fun hm=>?_⟩
 ·simp[atB] at hm;exact h.2.1 hm
 ·simp[atB] at hm;exact h.2.2 hm
theorem clean_words {x:LT} (h:x.right=true):∀w∈x.words,Clean w:=by
 have e:x.words=wordsO x.op x.rg x.loc x.lab x.n:=by
  unfold LT.words lineW
  have h' : rightB x.op x.rg x.loc x.lab x.n=true:=h
  rw[if_pos h']
 rw[e]
 intro w hw
 cases (right_iff x).1 h with
 | imm rg n h1=>simp[wordsO] at hw;rcases hw with rfl | rfl | rfl;exact ⟨by decide,by decide,by decide⟩;exact clean_reg h1;exact clean_text _
 | load rg loc h1 h2=>simp[wordsO] at hw;rcases hw with rfl | rfl | rfl;exact ⟨by decide,by decide,by decide⟩;exact clean_reg h1;exact clean_at (clean_name h2)
 | store rg loc h1 h2=>simp[wordsO] at hw;rcases hw with rfl | rfl | rfl;exact ⟨by decide,by decide,by decide⟩;exact clean_at (clean_name h2);exact clean_reg h1
 | put loc n h2=>simp[wordsO] at hw;rcases hw with rfl | rfl | rfl;exact ⟨by decide,by decide,by decide⟩;exact clean_at (clean_name h2);exact clean_text _
 | xchg rg loc h1 h2=>simp[wordsO] at hw;rcases hw with rfl | rfl | rfl;exact ⟨by decide,by decide,by decide⟩;exact clean_at (clean_name h2);exact clean_reg h1
 | fence=>simp[wordsO] at hw;subst hw;exact ⟨by decide,by decide,by decide⟩
 | cmp rg n h1=>simp[wordsO] at hw;rcases hw with rfl | rfl | rfl;exact ⟨by decide,by decide,by decide⟩;exact clean_reg h1;exact clean_text _
 | jmp lab h1=>simp[wordsO] at hw;rcases hw with rfl | rfl;exact ⟨by decide,by decide,by decide⟩;exact clean_name h1
 | je lab h1=>simp[wordsO] at hw;rcases hw with rfl | rfl;exact ⟨by decide,by decide,by decide⟩;exact clean_name h1
 | jne lab h1=>simp[wordsO] at hw;rcases hw with rfl | rfl;exact ⟨by decide,by decide,by decide⟩;exact clean_name h1
 | label lab h1 =>
  simp[wordsO] at hw
  subst hw
  have hc:=clean_name h1
  refine ⟨by simp,fun hm=>?_,fun hm=>?_⟩
  ·rcases List.mem_append.1 hm with hm | hm
   ·exact hc.2.1 hm
   ·simp at hm
  ·rcases List.mem_append.1 hm with hm | hm
   ·exact hc.2.2 hm
   ·simp at hm
theorem words_some {x:LT} (h:x.right=true):x.words≠[]:=by
 unfold LT.words lineW
 have h' : rightB x.op x.rg x.loc x.lab x.n=true:=h
 rw[if_pos h']
 exact words_ne x
theorem clean_word {a:AT} (h:a.asked=true):Clean a.word:=by
 have h' : askedB a.th a.nm=true:=h
 have e:a.word=leftA a.th a.nm++61::textB a.n:=wordA_left a.n h'
 obtain ⟨h1,h2,h3⟩:=asked_nm h'
 have hn:=clean_ld h2 h1
 have ht:=clean_text a.n
 have hth:=clean_text a.th
 have hl:∀c:UInt8,c≠58→c∉a.nm→c∉textB a.th→c∉leftA a.th a.nm:=fun c c1 c2 c3 hm=>by
  unfold leftA at hm
  split at hm
  ·rcases List.mem_append.1 hm with hm | hm
   ·rcases List.mem_append.1 hm with hm | hm
    ·exact c3 hm
    ·simp at hm;exact c1 hm
   ·exact c2 hm
  ·exact c2 hm
 rw[e]
 refine ⟨by simp,fun hm=>?_,fun hm=>?_⟩
 ·rcases List.mem_append.1 hm with hm | hm
  ·exact hl 32 (by decide) hn.2.1 hth.2.1 hm
  ·rcases List.mem_cons.1 hm with hm | hm
   ·cases hm
   ·exact ht.2.1 hm
 ·rcases List.mem_append.1 hm with hm | hm
  ·exact hl 10 (by decide) hn.2.2 hth.2.2 hm
  ·rcases List.mem_cons.1 hm with hm | hm
   ·cases hm
   ·exact ht.2.2 hm
theorem words_key {x:LT} (h:x.right=true) (hn:inI x.n):x.words[0]?≠some threadB∧x.words[0]?≠some existsB∧x.words[0]?≠some forallB:=by
 have e:x.words=wordsO x.op x.rg x.loc x.lab x.n:=by
  unfold LT.words lineW
  have h' : rightB x.op x.rg x.loc x.lab x.n=true:=h
  rw[if_pos h']
 rw[e]
 have hlast:∀(s k:List UInt8),k.getLast?≠some 58→[s++[58]][0]?≠some k:=fun s k hk he=>by
  simp only[List.getElem?_cons_zero,Option.some.injEq] at he
  rw[←he] at hk
  simp at hk
 cases (right_iff x).1 h with
 | label lab h1 =>
  exact ⟨hlast _ _ (by decide),hlast _ _ (by decide),hlast _ _ (by decide)⟩
 | _=>refine ⟨?_,?_,?_⟩ <;> simp[wordsO,movB,xchgB,mfenceB,cmpB,jmpB,jeB,jneB,threadB,existsB,forallB]
def headLn (f:Fl):List UInt8:=jnW [x86B,f.name]
def pairsW (l:List (List UInt8×Int)):List (List UInt8):=l.flatMap fun c=>[c.1,textB c.2]
def initLn (f:Fl):List UInt8:=jnW (initB::pairsW f.init)
def thLns (l:List LT):List (List UInt8):=threadB::l.map fun x=>jnW x.words
def condLn (f:Fl):List UInt8:=jnW ((if f.all=true then forallB else existsB)::f.cond.map AT.word)
def plainL (f:Fl):List (List UInt8):=headLn f::initLn f::(f.thr.flatMap thLns++[condLn f])
structure MayF (f:Fl):Prop where
 nm:Clean f.name
 i:∀c∈f.init,Clean c.1∧inI c.2
 t:∀l∈f.thr,∀x∈l,x.right=true∧inI x.n
 c:∀a∈f.cond,a.asked=true∧inI a.n
 some_:f.thr≠[]
theorem pairs_clean {l:List (List UInt8×Int)} (h:∀c∈l,Clean c.1∧inI c.2):∀w∈pairsW l,Clean w:=fun w hw=>by
 obtain ⟨c,hc,hw⟩:=List.mem_flatMap.1 hw
 simp at hw
 rcases hw with rfl | rfl
 ·exact (h c hc).1
 ·exact clean_text _
theorem cells_pairs:∀{l:List (List UInt8×Int)},(∀c∈l,Clean c.1∧inI c.2)→cellsF (pairsW l)=(l,true)
 | [],_=>rfl
 | c::l,h=>by
  have e:pairsW (c::l)=c.1::textB c.2::pairsW l:=rfl
  rw[e,cellsF,numB_text (h c (by simp)).2,cells_pairs fun d hd=>h d (by simp[hd])]
  simp
theorem atoms_words:∀{l:List AT},(∀a∈l,a.asked=true∧inI a.n)→atomsF (l.map AT.word)=(l,true)
 | [],_=>rfl
 | a::l,h=>by
  obtain ⟨h1,h2⟩:=h a (by simp)
  rw[List.map_cons,atomsF,atom_word h1 h2,atoms_words fun d hd=>h d (by simp[hd])]
  simp
theorem clean_x86:Clean x86B:=⟨by decide,by decide,by decide⟩
theorem clean_init:Clean initB:=⟨by decide,by decide,by decide⟩
theorem clean_thread:Clean threadB:=⟨by decide,by decide,by decide⟩
theorem clean_end (b:Bool):Clean (if b=true then forallB else existsB):=by cases b <;> exact ⟨by decide,by decide,by decide⟩
theorem plain_no10 {f:Fl} (h:MayF f):∀x∈plainL f,(10:UInt8)∉x:=by
 intro x hx
 rcases List.mem_cons.1 hx with rfl | hx
 ·exact jn_no10 fun w hw=>by simp at hw;rcases hw with rfl | rfl;exact clean_x86;exact h.nm
 rcases List.mem_cons.1 hx with rfl | hx
 ·exact jn_no10 fun w hw=>by
   rcases List.mem_cons.1 hw with rfl | hw
   ·exact clean_init
   ·exact pairs_clean h.i w hw
 rcases List.mem_append.1 hx with hx | hx
 ·obtain ⟨l,hl,hx⟩:=List.mem_flatMap.1 hx
  rcases List.mem_cons.1 hx with rfl | hx
  ·exact clean_thread.2.2
  ·obtain ⟨y,hy,rfl⟩:=List.mem_map.1 hx
   exact jn_no10 (clean_words (h.t l hl y hy).1)
 ·rw[List.mem_singleton] at hx
  subst hx
  exact jn_no10 fun w hw=>by
   rcases List.mem_cons.1 hw with rfl | hw
   ·exact clean_end _
   ·obtain ⟨a,ha,rfl⟩:=List.mem_map.1 hw
    exact clean_word (h.c a ha).1
def numT (n:Nat) (l:List LT):List Int:=(List.range l.length).map fun j=>((n+2+j:Nat):Int)
def numL (n:Nat):List (List LT)→List (List Int)
 | []=>[]
 | l::r=>numT n l::numL (n+1+l.length) r
def cntL (r:List (List LT)):Nat:=(r.map fun l=>1+l.length).sum
theorem linesF_word {s s' : PS} {k:Nat} {x:List UInt8} {l:List (List UInt8)} (hw:wordsB x≠[]) (h:readF s (wordsB x) ((k+1:Nat):Int)=(s',true)):linesF s k (x::l)=linesF s' (k+1) l:=by
 rw[linesF,if_neg hw,h,if_pos rfl]
theorem read_thread (rest:List (List UInt8)):∀(l:List LT) (s:PS) (k:Nat) (pre:List (List LT)) (cur:List LT) (lpre:List (List Int)) (lcur:List Int),s.next=3→s.f.thr=pre++[cur]→s.lines=lpre++[lcur]→(∀x∈l,x.right=true∧inI x.n)→
  linesF s k ((l.map fun x=>jnW x.words)++rest)=linesF { s with f:={ s.f with thr:=pre++[cur++l] },lines:=lpre++[lcur++(List.range l.length).map fun j=>((k+1+j:Nat):Int)] } (k+l.length) rest
 | [],s,k,pre,cur,lpre,lcur,h3,h1,h2,_=>by
  obtain ⟨⟨a,b,c,d,e⟩,n,ls,hd,fi⟩:=s
  simp only at h1 h2
  subst h1 h2
  simp
 | x::l,s,k,pre,cur,lpre,lcur,h3,h1,h2,hx=>by
  obtain ⟨hr,hn⟩:=hx x (by simp)
  have hw:wordsB (jnW x.words)=x.words:=words_jn (clean_words hr)
  obtain ⟨k1,k2,k3⟩:=words_key hr hn
  have hrd:readF s (wordsB (jnW x.words)) ((k+1:Nat):Int)=({ s with f:={ s.f with thr:=pre++[cur++[x]] },lines:=lpre++[lcur++[((k+1:Nat):Int)]] },true):=by
   rw[hw]
   unfold readF
   rw[if_neg (by omega),if_neg (by omega),if_pos h3]
   unfold bodyF
   rw[if_neg (by rintro (h | h);exact k2 h;exact k3 h),if_neg k1,get_words hr hn,h1,h2,lastF_snoc,lastF_snoc]
  rw[List.map_cons,List.cons_append,linesF_word (by rw[hw];exact words_some hr) hrd]
  rw[read_thread rest l { s with f:={ s.f with thr:=pre++[cur++[x]] },lines:=lpre++[lcur++[((k+1:Nat):Int)]] } (k+1) pre (cur++[x]) lpre (lcur++[((k+1:Nat):Int)]) h3 rfl rfl fun y hy=>hx y (by simp[hy])]
  have e1:k+1+l.length=k+(x::l).length:=by simp only[List.length_cons];omega
  have e2:(List.range (x::l).length).map (fun j=>((k+1+j:Nat):Int))=((k+1:Nat):Int)::(List.range l.length).map fun j=>((k+1+1+j:Nat):Int):=by
   rw[List.length_cons,List.range_succ_eq_map,List.map_cons,List.map_map]
   congr 1
   refine List.map_congr_left fun j _=>?_
   show ((k+1+(j+1):Nat):Int)=((k+1+1+j:Nat):Int)
   omega
  rw[e1,e2]
  simp
theorem read_threads (rest:List (List UInt8)):∀(r:List (List LT)) (s:PS) (k:Nat),(s.next=2∨s.next=3)→(∀l∈r,∀x∈l,x.right=true∧inI x.n)→
  linesF s k (r.flatMap thLns++rest)=linesF { s with f:={ s.f with thr:=s.f.thr++r },lines:=s.lines++numL k r,next:=if r=[] then s.next else 3 } (k+cntL r) rest
 | [],s,k,_,_=>by simp[numL,cntL]
 | l::r,s,k,hn,h=>by
  have hw:wordsB threadB=[threadB]:=by decide
  have hrd:readF s (wordsB threadB) ((k+1:Nat):Int)=({ s with f:={ s.f with thr:=s.f.thr++[[]] },lines:=s.lines++[[]],next:=3 },true):=by
   rw[hw]
   have eT:threadF s [threadB]=({ s with f:={ s.f with thr:=s.f.thr++[[]] },lines:=s.lines++[[]],next:=3 },true):=by unfold threadF;rw[if_pos ⟨rfl,rfl⟩]
   unfold readF
   rcases hn with h2 | h3
   ·rw[if_neg (by omega),if_neg (by omega),if_neg (by omega),if_pos h2,eT]
   ·rw[if_neg (by omega),if_neg (by omega),if_pos h3]
    unfold bodyF
    rw[if_neg (by decide),if_pos (show [threadB][0]?=some threadB from rfl),eT]
  have e:(l::r).flatMap thLns++rest=threadB::((l.map fun x=>jnW x.words)++(r.flatMap thLns++rest)):=by simp[thLns]
  rw[e,linesF_word (by rw[hw];simp) hrd]
  rw[read_thread (r.flatMap thLns++rest) l { s with f:={ s.f with thr:=s.f.thr++[[]] },lines:=s.lines++[[]],next:=3 } (k+1) s.f.thr [] s.lines [] rfl rfl rfl (h l (by simp))]
  rw[read_threads rest r _ (k+1+l.length) (.inr rfl) fun m hm=>h m (by simp[hm])]
  have e1:k+1+l.length+cntL r=k+cntL (l::r):=by unfold cntL;simp;omega
  have e2:numL k (l::r)=((List.range l.length).map fun j=>((k+1+1+j:Nat):Int))::numL (k+1+l.length) r:=rfl
  rw[e1,e2]
  simp
theorem read_plain {f:Fl} (h:MayF f):linesF pS0 0 (plainL f)=(⟨f,4,numL 2 f.thr,1,((3+cntL f.thr:Nat):Int)⟩,none):=by
 have w1:wordsB (headLn f)=[x86B,f.name]:=words_jn fun w hw=>by simp at hw;rcases hw with rfl | rfl;exact clean_x86;exact h.nm
 have w2:wordsB (initLn f)=initB::pairsW f.init:=words_jn fun w hw=>by
  rcases List.mem_cons.1 hw with rfl | hw
  ·exact clean_init
  ·exact pairs_clean h.i w hw
 have w3:wordsB (condLn f)=(if f.all=true then forallB else existsB)::f.cond.map AT.word:=words_jn fun w hw=>by
  rcases List.mem_cons.1 hw with rfl | hw
  ·exact clean_end _
  ·obtain ⟨a,ha,rfl⟩:=List.mem_map.1 hw
   exact clean_word (h.c a ha).1
 obtain ⟨nm,ini,thr,al,con⟩:=f
 have r1:readF pS0 (wordsB (headLn ⟨nm,ini,thr,al,con⟩)) ((0+1:Nat):Int)=(⟨⟨nm,[],[],false,[]⟩,1,[],1,0⟩,true):=by
  rw[w1];unfold readF;rw[if_pos (show pS0.next=0 from rfl)];unfold headF;rw[if_pos ⟨rfl,rfl⟩];rfl
 have r2:readF ⟨⟨nm,[],[],false,[]⟩,1,[],1,0⟩ (wordsB (initLn ⟨nm,ini,thr,al,con⟩)) ((0+1+1:Nat):Int)=(⟨⟨nm,ini,[],false,[]⟩,2,[],1,0⟩,true):=by
  rw[w2];unfold readF;rw[if_neg (show ¬(1:Int)=0 by decide),if_pos (show (1:Int)=1 from rfl)];unfold startF;rw[if_pos (show (initB::pairsW ini)[0]?=some initB from rfl)]
  simp only[List.drop_one,List.tail_cons]
  rw[cells_pairs h.i];rfl
 unfold plainL
 rw[linesF_word (by rw[w1];simp) r1,linesF_word (by rw[w2];simp) r2]
 rw[read_threads _ thr _ _ (.inl rfl) h.t]
 have hne:thr≠[]:=h.some_
 simp only[if_neg hne,List.nil_append]
 have r3:readF ⟨⟨nm,ini,thr,false,[]⟩,3,numL (0+1+1) thr,1,0⟩ (wordsB (condLn ⟨nm,ini,thr,al,con⟩)) ((0+1+1+cntL thr+1:Nat):Int)=(⟨⟨nm,ini,thr,al,con⟩,4,numL 2 thr,1,((3+cntL thr:Nat):Int)⟩,true):=by
  have e3:((0+1+1+cntL thr+1:Nat):Int)=((3+cntL thr:Nat):Int):=by omega
  rw[w3,e3];unfold readF;rw[if_neg (show ¬(3:Int)=0 by decide),if_neg (show ¬(3:Int)=1 by decide),if_pos (show (3:Int)=3 from rfl)];unfold bodyF
  have hd:((if al=true then forallB else existsB)::con.map AT.word).drop 1=con.map AT.word:=rfl
  cases al
  ·rw[if_pos (.inl rfl),hd,atoms_words h.c];rfl
  ·rw[if_pos (.inr rfl),hd,atoms_words h.c];rfl
 rw[linesF_word (by rw[w3];simp) r3]
 rfl
end Go.Proofs.YtmapdjdnnhlpiaaGreatDoor
namespace Go.Proofs.YtmapdjdnnhlpiaaGreatDoor
open Go.RowKit
set_option maxRecDepth 8000
structure FewF (f:Fl):Prop where
 thr:f.thr.length≤9
 init:f.init.length≤60
 cond:f.cond.length≤60
 nm:f.name.length≤1000
 i:∀c∈f.init,c.1.length≤100
 c:∀a∈f.cond,a.nm.length≤100
 l:∀l∈f.thr,l.length≤100
 x:∀l∈f.thr,∀x∈l,bigL x.rg x.loc x.lab=false
open Classical in
noncomputable def bigF (f:Fl):Bool:=if FewF f then false else true
theorem bigF_true {f:Fl} (h:¬FewF f):bigF f=true:=if_neg h
theorem bigF_false {f:Fl} (h:FewF f):bigF f=false:=if_pos h
theorem takeX {α:Type} {l:List α} {i:Nat} {x:α} (h:l[i]?=some x):l.take (i+1)=l.take i++[x]:=by rw[List.take_add_one,h];rfl
theorem bigF_few {f:Fl} (h:bigF f=false):FewF f:=by
 by_cases hf:FewF f
 ·exact hf
 ·rw[bigF_true hf] at h;cases h
set_option maxHeartbeats 16000000 in
theorem lawGreat4 (f:Fl):HFn Tryz.prog 16 [fileH f] (.v (.bool (bigF f))):=by
 have hB:=fun h=>bigF_true (f:=f) h
 have hS:=fun h=>bigF_false (f:=f) h
 generalize bigF f=R at hB hS⊢
 refine HCalls_body (fn:=Tryz.f16) 95 [2] (by kernel_rfl) rfl (by kernel_rfl) (HW.run 400 (by kernel_rfl) ?_)
 rcases tfP ((9:Int)<(f.thr.length:Int)) with ⟨d1,c1⟩ | ⟨d1,c1⟩
 ·obtain rfl:=hB fun h=>by have:=h.thr;omega
  simp (config:={ decide:=true }) only[go_sem,Int.reduceToNat,Nat.reduceAdd,Nat.reduceSub,Nat.reduceMul,Nat.reduceBEq,reduceIte,reduceCtorEq,c1]
 rcases tfP ((60:Int)<(f.init.length:Int)) with ⟨d2,c2⟩ | ⟨d2,c2⟩
 ·obtain rfl:=hB fun h=>by have:=h.init;omega
  simp (config:={ decide:=true }) only[go_sem,Int.reduceToNat,Nat.reduceAdd,Nat.reduceSub,Nat.reduceMul,Nat.reduceBEq,reduceIte,reduceCtorEq,c1,c2]
 rcases tfP ((60:Int)<(f.cond.length:Int)) with ⟨d3,c3⟩ | ⟨d3,c3⟩
 ·obtain rfl:=hB fun h=>by have:=h.cond;omega
  simp (config:={ decide:=true }) only[go_sem,Int.reduceToNat,Nat.reduceAdd,Nat.reduceSub,Nat.reduceMul,Nat.reduceBEq,reduceIte,reduceCtorEq,c1,c2,c3]
 rcases tfP ((1000:Int)<(f.name.length:Int)) with ⟨d4,c4⟩ | ⟨d4,c4⟩
 ·obtain rfl:=hB fun h=>by have:=h.nm;omega
  simp (config:={ decide:=true }) only[go_sem,Int.reduceToNat,Nat.reduceAdd,Nat.reduceSub,Nat.reduceMul,Nat.reduceBEq,reduceIte,reduceCtorEq,c1,c2,c3,c4]
 simp (config:={ decide:=true }) only[go_sem,Int.reduceToNat,Nat.reduceAdd,Nat.reduceSub,Nat.reduceMul,Nat.reduceBEq,reduceIte,reduceCtorEq,c1,c2,c3,c4]
 refine HW.loopG (fun k T H=>∃(i:Nat),k=f.init.length-i∧i≤f.init.length∧(∀c∈f.init.take i,c.1.length≤100)∧T 1=.pt 0 1 0 0∧T 3=.v (.int .i64 i)∧H=[some (fileO f)]) f.init.length ⟨_,_,Ghost.refl,0,rfl,by omega,by simp,rfl,rfl,rfl⟩ ?_
 rintro k T H ⟨i,rfl,hil,hA,h1,h3,rfl⟩
 refine HW.run 200 (by kernel_rfl) ?_
 by_cases hlt:i<f.init.length
 ·have hlt' : ((i:Int)<(f.init.length:Int))=True:=eq_true (by omega)
  have hx:f.init[i]?=some f.init[i]:=List.getElem?_eq_getElem hlt
  have hm:=List.getElem_mem hlt
  generalize f.init[i]=x at hx hm
  rcases tfP ((100:Int)<(x.1.length:Int)) with ⟨d5,c5⟩ | ⟨d5,c5⟩
  ·obtain rfl:=hB fun h=>by have:=h.i x hm;omega
   simp (config:={ decide:=true }) only[go_sem,Int.reduceToNat,Nat.reduceAdd,Nat.reduceSub,Nat.reduceMul,Nat.reduceBEq,reduceIte,reduceCtorEq,h1,h3,hlt',hx,crow,c5]
   repeat (with_reducible refine And.intro ?_ ?_;·(with_reducible and_intros) <;> omega)
  ·simp (config:={ decide:=true }) only[go_sem,Int.reduceToNat,Nat.reduceAdd,Nat.reduceSub,Nat.reduceMul,Nat.reduceBEq,reduceIte,reduceCtorEq,h1,h3,hlt',hx,crow,c5]
   repeat (with_reducible refine And.intro ?_ ?_;·(with_reducible and_intros) <;> omega)
   refine ⟨_,_,Ghost.refl,f.init.length-(i+1),by omega,i+1,rfl,by omega,fun c hc=>?_,?_,?_,rfl⟩
   ·rw[takeX hx] at hc
    rcases List.mem_append.1 hc with hc | hc
    ·exact hA c hc
    ·rw[List.mem_singleton.1 hc];omega
   all_goals first | (simp (config:={ decide:=true }) only[go_sem,Nat.reduceBEq,reduceIte,h1];done) | (simp (config:={ decide:=true }) only[go_sem,Nat.reduceBEq,reduceIte];rw[w64 (by omega) (by omega)];rfl)
 obtain rfl:i=f.init.length:=by omega
 have hlt' : ((f.init.length:Int)<(f.init.length:Int))=False:=eq_false (by omega)
 rw[List.take_length] at hA
 simp (config:={ decide:=true }) only[go_sem,Int.reduceToNat,Nat.reduceAdd,Nat.reduceSub,Nat.reduceMul,Nat.reduceBEq,reduceIte,reduceCtorEq,h1,h3,hlt']
 refine HW.loopG (fun k T H=>∃(i:Nat),k=f.cond.length-i∧i≤f.cond.length∧(∀c∈f.cond.take i,c.nm.length≤100)∧T 1=.pt 0 1 0 0∧T 4=.v (.int .i64 i)∧H=[some (fileO f)]) f.cond.length ⟨_,_,Ghost.refl,0,rfl,by omega,by simp,by simp (config:={ decide:=true }) only[go_sem,Nat.reduceBEq,reduceIte,h1],rfl,rfl⟩ ?_
 clear h1 h3 hil
 rintro k T H ⟨i,rfl,hil,hC,h1,h4,rfl⟩
 refine HW.run 200 (by kernel_rfl) ?_
 by_cases hlt:i<f.cond.length
 ·have hlt' : ((i:Int)<(f.cond.length:Int))=True:=eq_true (by omega)
  have hx:f.cond[i]?=some f.cond[i]:=List.getElem?_eq_getElem hlt
  have hm:=List.getElem_mem hlt
  generalize f.cond[i]=x at hx hm
  rcases tfP ((100:Int)<(x.nm.length:Int)) with ⟨d5,c5⟩ | ⟨d5,c5⟩
  ·obtain rfl:=hB fun h=>by have:=h.c x hm;omega
   simp (config:={ decide:=true }) only[go_sem,Int.reduceToNat,Nat.reduceAdd,Nat.reduceSub,Nat.reduceMul,Nat.reduceBEq,reduceIte,reduceCtorEq,h1,h4,hlt',hx,arow,c5]
   repeat (with_reducible refine And.intro ?_ ?_;·(with_reducible and_intros) <;> omega)
  ·simp (config:={ decide:=true }) only[go_sem,Int.reduceToNat,Nat.reduceAdd,Nat.reduceSub,Nat.reduceMul,Nat.reduceBEq,reduceIte,reduceCtorEq,h1,h4,hlt',hx,arow,c5]
   repeat (with_reducible refine And.intro ?_ ?_;·(with_reducible and_intros) <;> omega)
   refine ⟨_,_,Ghost.refl,f.cond.length-(i+1),by omega,i+1,rfl,by omega,fun c hc=>?_,?_,?_,rfl⟩
   ·rw[takeX hx] at hc
    rcases List.mem_append.1 hc with hc | hc
    ·exact hC c hc
    ·rw[List.mem_singleton.1 hc];omega
   all_goals first | (simp (config:={ decide:=true }) only[go_sem,Nat.reduceBEq,reduceIte,h1];done) | (simp (config:={ decide:=true }) only[go_sem,Nat.reduceBEq,reduceIte];rw[w64 (by omega) (by omega)];rfl)
 obtain rfl:i=f.cond.length:=by omega
 have hlt' : ((f.cond.length:Int)<(f.cond.length:Int))=False:=eq_false (by omega)
 rw[List.take_length] at hC
 simp (config:={ decide:=true }) only[go_sem,Int.reduceToNat,Nat.reduceAdd,Nat.reduceSub,Nat.reduceMul,Nat.reduceBEq,reduceIte,reduceCtorEq,h1,h4,hlt']
 refine HW.loopG (fun k T H=>∃(i:Nat),k=f.thr.length-i∧i≤f.thr.length∧(∀l∈f.thr.take i,l.length≤100∧∀x∈l,bigL x.rg x.loc x.lab=false)∧T 1=.pt 0 1 0 0∧T 5=.v (.int .i64 i)∧H=[some (fileO f)]) f.thr.length ⟨_,_,Ghost.refl,0,rfl,by omega,by simp,by simp (config:={ decide:=true }) only[go_sem,Nat.reduceBEq,reduceIte,h1],rfl,rfl⟩ ?_
 clear h1 h4 hil
 rintro k T H ⟨i,rfl,hil,hT,h1,h5,rfl⟩
 refine HW.run 200 (by kernel_rfl) ?_
 by_cases hlt:i<f.thr.length
 ·have hlt' : ((i:Int)<(f.thr.length:Int))=True:=eq_true (by omega)
  have hx:f.thr[i]?=some f.thr[i]:=List.getElem?_eq_getElem hlt
  have hm:=List.getElem_mem hlt
  generalize f.thr[i]=l at hx hm
  rcases tfP ((100:Int)<(l.length:Int)) with ⟨d5,c5⟩ | ⟨d5,c5⟩
  ·obtain rfl:=hB fun h=>by have:=h.l l hm;omega
   simp (config:={ decide:=true }) only[go_sem,Int.reduceToNat,Nat.reduceAdd,Nat.reduceSub,Nat.reduceMul,Nat.reduceBEq,reduceIte,reduceCtorEq,h1,h5,hlt',hx,tdrow,c5]
   repeat (with_reducible refine And.intro ?_ ?_;·(with_reducible and_intros) <;> omega)
  simp (config:={ decide:=true }) only[go_sem,Int.reduceToNat,Nat.reduceAdd,Nat.reduceSub,Nat.reduceMul,Nat.reduceBEq,reduceIte,reduceCtorEq,h1,h5,hlt',hx,tdrow,c5]
  repeat (with_reducible refine And.intro ?_ ?_;·(with_reducible and_intros) <;> omega)
  refine HW.loopG (fun k T H=>∃(j:Nat),k=l.length-j∧j≤l.length∧(∀x∈l.take j,bigL x.rg x.loc x.lab=false)∧T 1=.pt 0 1 0 0∧T 5=.v (.int .i64 i)∧T 6=.v (.int .i64 j)∧H=[some (fileO f)]) l.length ⟨_,_,Ghost.refl,0,rfl,by omega,by simp,by simp (config:={ decide:=true }) only[go_sem,Nat.reduceBEq,reduceIte,h1],by simp (config:={ decide:=true }) only[go_sem,Nat.reduceBEq,reduceIte,h5],rfl,rfl⟩ ?_
  clear h1 h5
  rintro k T H ⟨j,rfl,hjl,hJ,h1,h5,h6,rfl⟩
  refine HW.run 200 (by kernel_rfl) ?_
  by_cases hjt:j<l.length
  ·have hjt' : ((j:Int)<(l.length:Int))=True:=eq_true (by omega)
   have hy:l[j]?=some l[j]:=List.getElem?_eq_getElem hjt
   have hym:=List.getElem_mem hjt
   generalize l[j]=x at hy hym
   have hG:=greatLine x.op x.rg x.loc x.lab x.n
   have hbl:bigL x.rg x.loc x.lab=true→¬FewF f:=fun h hf=>by have:=hf.x l hm x hym;rw[h] at this;cases this
   have htk:=takeX hy
   cases hb:bigL x.rg x.loc x.lab with
   | true =>
    obtain rfl:=hB (hbl hb)
    rw[hb] at hG
    simp (config:={ decide:=true }) only[go_sem,Int.reduceToNat,Nat.reduceAdd,Nat.reduceSub,Nat.reduceMul,Nat.reduceBEq,reduceIte,reduceCtorEq,h1,h5,h6,hlt',hx,tdrow,hjt',hy,lnrow]
    repeat (with_reducible refine And.intro ?_ ?_;·(with_reducible and_intros) <;> omega)
    refine callX_nm (hG) rfl rfl ?_
    simp (config:={ decide:=true }) only[go_sem,Int.reduceToNat,Nat.reduceAdd,Nat.reduceSub,Nat.reduceMul,Nat.reduceBEq,reduceIte,reduceCtorEq,h1,h5,h6]
   | false =>
    rw[hb] at hG
    simp (config:={ decide:=true }) only[go_sem,Int.reduceToNat,Nat.reduceAdd,Nat.reduceSub,Nat.reduceMul,Nat.reduceBEq,reduceIte,reduceCtorEq,h1,h5,h6,hlt',hx,tdrow,hjt',hy,lnrow]
    repeat (with_reducible refine And.intro ?_ ?_;·(with_reducible and_intros) <;> omega)
    refine callX_nm (hG) rfl rfl ?_
    simp (config:={ decide:=true }) only[go_sem,Int.reduceToNat,Nat.reduceAdd,Nat.reduceSub,Nat.reduceMul,Nat.reduceBEq,reduceIte,reduceCtorEq,h1,h5,h6]
    refine ⟨_,_,Ghost.refl,l.length-(j+1),by omega,j+1,rfl,by omega,fun c hc=>?_,?_,?_,?_,rfl⟩
    ·rw[htk] at hc
     rcases List.mem_append.1 hc with hc | hc
     ·exact hJ c hc
     ·rw[List.mem_singleton.1 hc];exact hb
    all_goals first | (simp (config:={ decide:=true }) only[go_sem,Nat.reduceBEq,reduceIte,h1,h5];done) | (simp (config:={ decide:=true }) only[go_sem,Nat.reduceBEq,reduceIte];rw[w64 (by omega) (by omega)];rfl)
  ·have hjt' : ((j:Int)<(l.length:Int))=False:=eq_false (by omega)
   rw[List.take_of_length_le (by omega)] at hJ
   simp (config:={ decide:=true }) only[go_sem,Int.reduceToNat,Nat.reduceAdd,Nat.reduceSub,Nat.reduceMul,Nat.reduceBEq,reduceIte,reduceCtorEq,h1,h5,h6,hlt',hx,tdrow,hjt']
   repeat (with_reducible refine And.intro ?_ ?_;·(with_reducible and_intros) <;> omega)
   refine ⟨_,_,Ghost.refl,f.thr.length-(i+1),by omega,i+1,rfl,by omega,fun c hc=>?_,?_,?_,rfl⟩
   ·rw[takeX hx] at hc
    rcases List.mem_append.1 hc with hc | hc
    ·exact hT c hc
    ·rw[List.mem_singleton.1 hc];exact ⟨by omega,hJ⟩
   all_goals first | (simp (config:={ decide:=true }) only[go_sem,Nat.reduceBEq,reduceIte,h1];done) | (simp (config:={ decide:=true }) only[go_sem,Nat.reduceBEq,reduceIte];rw[w64 (by omega) (by omega)];rfl)
 obtain rfl:i=f.thr.length:=by omega
 have hlt' : ((f.thr.length:Int)<(f.thr.length:Int))=False:=eq_false (by omega)
 rw[List.take_length] at hT
 obtain rfl:=hS ⟨by omega,by omega,by omega,by omega,hA,hC,fun l hl=>(hT l hl).1,fun l hl=>(hT l hl).2⟩
 simp (config:={ decide:=true }) only[go_sem,Int.reduceToNat,Nat.reduceAdd,Nat.reduceSub,Nat.reduceMul,Nat.reduceBEq,reduceIte,reduceCtorEq,h1,h5,hlt']
end Go.Proofs.YtmapdjdnnhlpiaaGreatDoor
namespace Go.Proofs.YtmapdjdnnhlpiaaGreatDoor
open Go.RowKit
set_option maxRecDepth 8000
theorem wordsLen20 {x:LT} (h:x.right=true) (hn:inI x.n):x.words.length≤3∧∀w∈x.words,w.length≤20:=by
 have e:x.words=wordsO x.op x.rg x.loc x.lab x.n:=by
  unfold LT.words lineW
  have h' : rightB x.op x.rg x.loc x.lab x.n=true:=h
  rw[if_pos h']
 rw[e]
 have hr:∀s,0≤regB s→s.length≤20:=fun s hs=>by have:=regB_len hs;omega
 have ha:∀s,nameB s=true→(atB s).length≤20:=fun s hs=>by have:=nameB_len8 hs;simp[atB];omega
 have hN:∀s,nameB s=true→s.length≤20:=fun s hs=>by have:=nameB_len8 hs;omega
 have ht:∀n,inI n→(textB n).length≤20:=fun n hn=>textB_length hn
 cases (right_iff x).1 h with
 | imm rg n h1=>exact ⟨by simp[wordsO],fun w hw=>by simp[wordsO] at hw;rcases hw with rfl | rfl | rfl;decide;exact hr _ h1;exact ht _ hn⟩
 | load rg loc h1 h2=>exact ⟨by simp[wordsO],fun w hw=>by simp[wordsO] at hw;rcases hw with rfl | rfl | rfl;decide;exact hr _ h1;exact ha _ h2⟩
 | store rg loc h1 h2=>exact ⟨by simp[wordsO],fun w hw=>by simp[wordsO] at hw;rcases hw with rfl | rfl | rfl;decide;exact ha _ h2;exact hr _ h1⟩
 | put loc n h2=>exact ⟨by simp[wordsO],fun w hw=>by simp[wordsO] at hw;rcases hw with rfl | rfl | rfl;decide;exact ha _ h2;exact ht _ hn⟩
 | xchg rg loc h1 h2=>exact ⟨by simp[wordsO],fun w hw=>by simp[wordsO] at hw;rcases hw with rfl | rfl | rfl;decide;exact ha _ h2;exact hr _ h1⟩
 | fence=>exact ⟨by simp[wordsO],fun w hw=>by simp[wordsO] at hw;subst hw;decide⟩
 | cmp rg n h1=>exact ⟨by simp[wordsO],fun w hw=>by simp[wordsO] at hw;rcases hw with rfl | rfl | rfl;decide;exact hr _ h1;exact ht _ hn⟩
 | jmp lab h1=>exact ⟨by simp[wordsO],fun w hw=>by simp[wordsO] at hw;rcases hw with rfl | rfl;decide;exact hN _ h1⟩
 | je lab h1=>exact ⟨by simp[wordsO],fun w hw=>by simp[wordsO] at hw;rcases hw with rfl | rfl;decide;exact hN _ h1⟩
 | jne lab h1=>exact ⟨by simp[wordsO],fun w hw=>by simp[wordsO] at hw;rcases hw with rfl | rfl;decide;exact hN _ h1⟩
 | label lab h1=>exact ⟨by simp[wordsO],fun w hw=>by simp[wordsO] at hw;subst hw;have:=nameB_len8 h1;simp;omega⟩
theorem rowK_len {M:Nat}:∀{ws:List (List UInt8)},(∀w∈ws,w.length≤M)→(rowK 0 ws).length≤(M+1)*ws.length
 | [],_=>by simp[rowK]
 | w::ws,h=>by
  have h1:=h w (by simp)
  have ih:=rowK_len (ws:=ws) fun x hx=>h x (by simp[hx])
  rw[rowK_cons]
  simp only[sufK,List.length_append,List.length_cons,Nat.mul_succ]
  simp
  omega
theorem jnW_len {M:Nat} {ws:List (List UInt8)} (h:∀w∈ws,w.length≤M):(jnW ws).length≤(M+1)*ws.length:=by
 cases ws with
 | nil=>simp[jnW]
 | cons w ws =>
  have h1:=h w (by simp)
  have ih:=rowK_len (ws:=ws) fun x hx=>h x (by simp[hx])
  simp only[jnW,List.length_append,List.length_cons,Nat.mul_succ]
  omega
structure PlainF (f:Fl):Prop where
 few:FewF f
 i:∀c∈f.init,inI c.2
 t:∀l∈f.thr,∀x∈l,x.right=true∧inI x.n
 c:∀a∈f.cond,a.asked=true∧inI a.n
theorem pairs_len (l:List (List UInt8×Int)):(pairsW l).length=2*l.length:=by
 induction l with
 | nil=>rfl
 | cons c l ih=>show (c.1::textB c.2::pairsW l).length=_;simp only[List.length_cons,ih];omega
theorem pairs_snoc (l:List (List UInt8×Int)) (c:List UInt8×Int):rowK 0 (pairsW (l++[c]))=rowK 0 (pairsW l)++[32]++c.1++[32]++textB c.2:=by
 simp[pairsW,rowK,sufK]
theorem thJoin_len {l:List LT} (h:∀x∈l,x.right=true∧inI x.n):(joinN (l.map fun x=>jnW x.words)).length≤64*l.length:=by
 induction l with
 | nil=>simp[joinN]
 | cons x l ih =>
  obtain ⟨h1,h2⟩:=h x (by simp)
  obtain ⟨h3,h4⟩:=wordsLen20 h1 h2
  have:=jnW_len h4
  have:=ih fun y hy=>h y (by simp[hy])
  have:(20+1)*x.words.length≤63:=by omega
  rw[List.map_cons,joinN_cons]
  simp only[List.length_append,List.length_cons,List.length_nil]
  omega
theorem thsJoin_len:∀{r:List (List LT)},(∀l∈r,l.length≤100)→(∀l∈r,∀x∈l,x.right=true∧inI x.n)→(joinN (r.flatMap thLns)).length≤10000*r.length
 | [],_,_=>by simp[joinN]
 | l::r,h1,h2=>by
  have ih:=thsJoin_len (r:=r) (fun m hm=>h1 m (by simp[hm])) fun m hm=>h2 m (by simp[hm])
  have h3:=thJoin_len (h2 l (by simp))
  have h4:=h1 l (by simp)
  rw[List.flatMap_cons,joinN_app]
  have e:joinN (thLns l)=threadB++[10]++joinN (l.map fun x=>jnW x.words):=joinN_cons _ _
  rw[e]
  simp only[List.length_append,List.length_cons,List.length_nil]
  have:threadB.length=6:=rfl
  omega
theorem word_len2 {a:AT} (h:a.asked=true) (hn:inI a.n):a.word.length≤40:=by
 have h' : askedB a.th a.nm=true:=h
 have:=asked_len h
 have:a.word.length≤a.nm.length+23:=wordA_len (th:=a.th) (nm:=a.nm) hn
 omega
theorem plain_len {f:Fl} (h:PlainF f):(joinN (plainL f)).length≤200000:=by
 have hf:=h.few
 have f1:=hf.thr
 have f2:=hf.init
 have f3:=hf.cond
 have f4:=hf.nm
 have e1:(headLn f).length≤1010:=by
  unfold headLn jnW
  simp[rowK,sufK,x86B];omega
 have e2:(initLn f).length≤15000:=by
  have:=rowK_len (M:=100) (ws:=pairsW f.init) fun w hw=>by
   obtain ⟨c,hc,hw⟩:=List.mem_flatMap.1 hw
   simp at hw
   rcases hw with rfl | rfl
   ·exact hf.i c hc
   ·have:=textB_length (h.i c hc);omega
  rw[pairs_len] at this
  unfold initLn jnW
  simp only[List.length_append]
  have:initB.length=4:=rfl
  omega
 have e3:=thsJoin_len hf.l h.t
 have e4:(condLn f).length≤3000:=by
  have:=rowK_len (M:=40) (ws:=f.cond.map AT.word) fun w hw=>by
   obtain ⟨a,ha,rfl⟩:=List.mem_map.1 hw
   exact word_len2 (h.c a ha).1 (h.c a ha).2
  rw[List.length_map] at this
  unfold condLn jnW
  simp only[List.length_append]
  have:(if f.all=true then forallB else existsB).length=6:=by cases f.all <;> rfl
  omega
 have e5:(joinN [condLn f]).length=(condLn f).length+1:=by simp[joinN]
 unfold plainL
 rw[joinN_cons,joinN_cons,joinN_app]
 simp only[List.length_append,List.length_cons,List.length_nil]
 omega
theorem linWs (x:LT) (h:x.right=true) (hn:inI x.n):HFn Tryz.prog 30 [lineT x] (.sl (strs x.words)):=by
 obtain ⟨k1,k2,k3⟩:=right_lens h
 exact HFn.shut (refLineWords x.op x.rg x.loc x.lab x.n k1 k2 k3 hn) (by simp only[fzo_owStrs];rfl)
theorem immWs (n:Int) (hn:inI n):HFn Tryz.prog 30 [lineT ⟨1,[101,97,120],[],[],n⟩] (.sl (strs [movB,[101,97,120],textB n])):=by
 have hr:(⟨1,[101,97,120],[],[],n⟩:LT).right=true:=(right_iff _).2 (.imm _ _ (by decide))
 have e:(⟨1,[101,97,120],[],[],n⟩:LT).words=[movB,[101,97,120],textB n]:=by
  unfold LT.words lineW
  have h' : rightB 1 [101,97,120] [] [] n=true:=hr
  simp only[h',if_true]
  rfl
 exact e▸linWs _ hr hn
end Go.Proofs.YtmapdjdnnhlpiaaGreatDoor
namespace Go.Proofs.YtmapdjdnnhlpiaaGreatDoor
open Go.RowKit
set_option maxRecDepth 8000
theorem ths_take {r:List (List LT)} {i:Nat} {l:List LT} (h:r[i]?=some l):(r.take (i+1)).flatMap thLns=(r.take i).flatMap thLns++threadB::l.map fun x=>jnW x.words:=by
 rw[takeX h];simp[thLns]
theorem joinN_two (a b:List UInt8):joinN [a,b]=a++[10]++b++[10]:=by simp[joinN]
set_option maxHeartbeats 32000000 in
theorem lawPlain (f:Fl) (h:PlainF f):HFn Tryz.prog 17 [fileH f] (.v (str (joinN (plainL f)))):=by
 have hf:=h.few
 have f1:=hf.thr
 have f2:=hf.init
 have f3:=hf.cond
 have f4:=hf.nm
 have e0:[120,56,54,32]++f.name++[10,105,110,105,116]=headLn f++[10]++initB:=by
  unfold headLn jnW
  simp[rowK,sufK,x86B,initB]
 refine HCalls_body (fn:=Tryz.f17) 118 [2] (by kernel_rfl) rfl (by kernel_rfl) (HW.run 400 (by kernel_rfl) ?_)
 simp (config:={ decide:=true }) only[go_sem,Int.reduceToNat,Nat.reduceAdd,Nat.reduceSub,Nat.reduceMul,Nat.reduceBEq,reduceIte,reduceCtorEq]
 repeat (with_reducible refine And.intro ?_ ?_;·(with_reducible and_intros) <;> omega)
 refine HW.loopG (fun k T H=>∃(i:Nat) (u:List UInt8),k=f.init.length-i∧i≤f.init.length∧u=headLn f++[10]++initB++rowK 0 (pairsW (f.init.take i))∧u.length≤1100+i*130∧T 1=.pt 0 1 0 0∧T 3=.v (str u)∧T 4=.v (.int .i64 i)∧H=[some (fileO f)]) f.init.length ⟨_,_,Ghost.refl,0,_,rfl,by omega,rfl,?_,rfl,?_,rfl,rfl⟩ ?_
 ·rw[←e0];simp[rowK,pairsW];omega
 ·simp (config:={ decide:=true }) only[go_sem,Nat.reduceBEq,reduceIte];rw[←e0];simp[rowK,pairsW]
 rintro k T H ⟨i,u,rfl,hil,hu,hul,h1,h3,h4,rfl⟩
 refine HW.run 200 (by kernel_rfl) ?_
 by_cases hlt:i<f.init.length
 ·have hlt' : ((i:Int)<(f.init.length:Int))=True:=eq_true (by omega)
  have hx:f.init[i]?=some f.init[i]:=List.getElem?_eq_getElem hlt
  have hn:=h.i _ (List.getElem_mem hlt)
  have hc:=hf.i _ (List.getElem_mem hlt)
  have hs:=pairs_snoc (f.init.take i) f.init[i]
  rw[←takeX hx] at hs
  generalize f.init[i]=x at hx hn hc hs
  have ht:=textB_length hn
  simp (config:={ decide:=true }) only[go_sem,Int.reduceToNat,Nat.reduceAdd,Nat.reduceSub,Nat.reduceMul,Nat.reduceBEq,reduceIte,reduceCtorEq,h1,h3,h4,hlt',hx,crow]
  repeat (with_reducible refine And.intro ?_ ?_;·(with_reducible and_intros) <;> omega)
  refine callX_nm (immWs x.2 hn) rfl rfl ?_
  simp (config:={ decide:=true }) only[go_sem,Int.reduceToNat,Nat.reduceAdd,Nat.reduceSub,Nat.reduceMul,Nat.reduceBEq,reduceIte,reduceCtorEq,h1,h3,h4]
  refine HW.tree 1 (.light 0 (.light 1 (.light 2 (.light 3 (.light 4 (.light 5 (.light 6 (.light 7 (.light 8 (.light 9 (.light 10 (.light 11 (.light 12 (.light 13 (.light 14 .leaf))))))))))))))) follows (by kernel_rfl) (by kernel_rfl) ?_
  simp (config:={ decide:=true }) only[go_sem,Int.reduceToNat,Nat.reduceAdd,Nat.reduceSub,Nat.reduceMul,Nat.reduceBEq,reduceIte,reduceCtorEq,h1,h3,h4,hlt',hx,crow]
  all_goals repeat (with_reducible refine And.intro ?_ ?_;·(with_reducible and_intros) <;> omega)
  refine ⟨_,_,Ghost.refl,f.init.length-(i+1),by omega,i+1,u++[32]++x.1++[32]++textB x.2,rfl,by omega,?_,?_,?_,?_,?_,rfl⟩
  ·rw[hs,hu];simp
  ·simp only[List.length_append,List.length_cons,List.length_nil];omega
  all_goals first | (simp (config:={ decide:=true }) only[go_sem,Nat.reduceBEq,reduceIte,h1];done) | (simp (config:={ decide:=true }) only[go_sem,Nat.reduceBEq,reduceIte];rw[w64 (by omega) (by omega)];rfl) | (simp (config:={ decide:=true }) only[go_sem,Nat.reduceBEq,reduceIte,h3];done)
 obtain rfl:i=f.init.length:=by omega
 have hlt' : ((f.init.length:Int)<(f.init.length:Int))=False:=eq_false (by omega)
 rw[List.take_length] at hu
 have hu2:u++[10]=joinN [headLn f,initLn f]:=by
  rw[hu,joinN_two];unfold initLn jnW;simp
 have hul2:(u++[10]).length≤9000:=by simp only[List.length_append,List.length_cons,List.length_nil];omega
 simp (config:={ decide:=true }) only[go_sem,Int.reduceToNat,Nat.reduceAdd,Nat.reduceSub,Nat.reduceMul,Nat.reduceBEq,reduceIte,reduceCtorEq,h1,h3,h4,hlt']
 repeat (with_reducible refine And.intro ?_ ?_;·(with_reducible and_intros) <;> omega)
 refine HW.loopG (fun k T H=>∃(i:Nat) (v:List UInt8),k=f.thr.length-i∧i≤f.thr.length∧v=joinN (headLn f::initLn f::(f.thr.take i).flatMap thLns)∧v.length≤9000+i*10000∧T 1=.pt 0 1 0 0∧T 3=.v (str v)∧T 6=.v (.int .i64 i)∧H=[some (fileO f)]) f.thr.length ⟨_,_,Ghost.refl,0,u++[10],rfl,by omega,hu2,hul2,by simp (config:={ decide:=true }) only[go_sem,Nat.reduceBEq,reduceIte,h1],by simp (config:={ decide:=true }) only[go_sem,Nat.reduceBEq,reduceIte,h3],rfl,rfl⟩ ?_
 clear h1 h3 h4 hil hul hul2
 rintro k T H ⟨i,v,rfl,hil,hv,hvl,h1,h3,h6,rfl⟩
 refine HW.run 200 (by kernel_rfl) ?_
 by_cases hlt:i<f.thr.length
 ·have hlt' : ((i:Int)<(f.thr.length:Int))=True:=eq_true (by omega)
  have hx:f.thr[i]?=some f.thr[i]:=List.getElem?_eq_getElem hlt
  have hxl:=hf.l _ (List.getElem_mem hlt)
  have hxr:=h.t _ (List.getElem_mem hlt)
  have hs:=ths_take hx
  generalize f.thr[i]=l at hx hxl hxr hs
  simp (config:={ decide:=true }) only[go_sem,Int.reduceToNat,Nat.reduceAdd,Nat.reduceSub,Nat.reduceMul,Nat.reduceBEq,reduceIte,reduceCtorEq,h1,h3,h6,hlt']
  repeat (with_reducible refine And.intro ?_ ?_;·(with_reducible and_intros) <;> omega)
  refine HW.loopG (fun k T H=>∃(j:Nat) (y:List UInt8),k=l.length-j∧j≤l.length∧y=v++threadB++[10]++joinN ((l.take j).map fun x=>jnW x.words)∧y.length≤9000+i*10000+7+j*70∧T 1=.pt 0 1 0 0∧T 3=.v (str y)∧T 6=.v (.int .i64 i)∧T 7=.v (.int .i64 j)∧H=[some (fileO f)]) l.length ⟨_,_,Ghost.refl,0,v++[116,104,114,101,97,100,10],rfl,by omega,by simp[threadB,joinN],by simp only[List.length_append,List.length_cons,List.length_nil];omega,by simp (config:={ decide:=true }) only[go_sem,Nat.reduceBEq,reduceIte,h1],by simp (config:={ decide:=true }) only[go_sem,Nat.reduceBEq,reduceIte,h3],by simp (config:={ decide:=true }) only[go_sem,Nat.reduceBEq,reduceIte,h6],rfl,rfl⟩ ?_
  clear h1 h3 h6
  rintro k T H ⟨j,y,rfl,hjl,hy,hyl,h1,h3,h6,h7,rfl⟩
  refine HW.run 200 (by kernel_rfl) ?_
  by_cases hjt:j<l.length
  ·have hjt' : ((j:Int)<(l.length:Int))=True:=eq_true (by omega)
   have hz:l[j]?=some l[j]:=List.getElem?_eq_getElem hjt
   obtain ⟨r1,r2⟩:=hxr _ (List.getElem_mem hjt)
   have htk:=takeX hz
   generalize l[j]=x at hz r1 r2 htk
   obtain ⟨g1,g2⟩:=wordsLen20 r1 r2
   have hW:=linWs x r1 r2
   have hjl2:joinN ((l.take (j+1)).map fun x=>jnW x.words)=joinN ((l.take j).map fun x=>jnW x.words)++jnW x.words++[10]:=by rw[htk];simp[joinN]
   generalize x.words=ws at g1 g2 hW hjl2
   simp (config:={ decide:=true }) only[go_sem,Int.reduceToNat,Nat.reduceAdd,Nat.reduceSub,Nat.reduceMul,Nat.reduceBEq,reduceIte,reduceCtorEq,h1,h3,h6,h7,hlt',hx,tdrow,hjt',hz,lnrow]
   repeat (with_reducible refine And.intro ?_ ?_;·(with_reducible and_intros) <;> omega)
   refine callX_nm (hW) rfl rfl ?_
   simp (config:={ decide:=true }) only[go_sem,Int.reduceToNat,Nat.reduceAdd,Nat.reduceSub,Nat.reduceMul,Nat.reduceBEq,reduceIte,reduceCtorEq,h1,h3,h6,h7]
   refine HW.loopG (fun k T H=>∃(m:Nat) (z:List UInt8),k=ws.length-m∧m≤ws.length∧z=y++jnW (ws.take m)∧z.length≤9000+i*10000+7+j*70+m*22∧T 1=.pt 0 1 0 0∧T 3=.v (str z)∧T 6=.v (.int .i64 i)∧T 7=.v (.int .i64 j)∧T 8=.sl (strs ws)∧T 9=.v (.int .i64 m)∧H=[some (fileO f)]) ws.length ⟨_,_,Ghost.refl,0,y,rfl,by omega,by simp[jnW],by omega,by simp (config:={ decide:=true }) only[go_sem,Nat.reduceBEq,reduceIte,h1],by simp (config:={ decide:=true }) only[go_sem,Nat.reduceBEq,reduceIte,h3],by simp (config:={ decide:=true }) only[go_sem,Nat.reduceBEq,reduceIte,h6],by simp (config:={ decide:=true }) only[go_sem,Nat.reduceBEq,reduceIte,h7],rfl,rfl,rfl⟩ ?_
   clear h1 h3 h6 h7
   rintro k T H ⟨m,z,rfl,hml,hzz,hzl,h1,h3,h6,h7,h8,h9,rfl⟩
   refine HW.run 200 (by kernel_rfl) ?_
   by_cases hmt:m<ws.length
   ·have hmt' : ((m:Int)<(ws.length:Int))=True:=eq_true (by omega)
    have hw:ws[m]?=some ws[m]:=List.getElem?_eq_getElem hmt
    have hwl:=g2 _ (List.getElem_mem hmt)
    have hj:=jnW_snoc ws[m] (ws.take m)
    rw[←takeX hw] at hj
    generalize ws[m]=w at hw hwl hj
    rcases Nat.eq_zero_or_pos m with hm0 | hmp
    ·have hp:((0:Int)<(m:Int))=False:=eq_false (by omega)
     rw[if_pos (by rw[hm0];rfl)] at hj
     have hz0:z=y:=by rw[hzz,hm0];simp[jnW]
     simp (config:={ decide:=true }) only[go_sem,Int.reduceToNat,Nat.reduceAdd,Nat.reduceSub,Nat.reduceMul,Nat.reduceBEq,reduceIte,reduceCtorEq,h1,h3,h6,h7,h8,h9,hmt',hw,hp]
     repeat (with_reducible refine And.intro ?_ ?_;·(with_reducible and_intros) <;> omega)
     refine ⟨_,_,Ghost.refl,ws.length-(m+1),by omega,m+1,z++w,rfl,by omega,by rw[hj,hz0],by rw[List.length_append];omega,?_,?_,?_,?_,?_,?_,rfl⟩
     all_goals first | (simp (config:={ decide:=true }) only[go_sem,Nat.reduceBEq,reduceIte,h1,h6,h7,h8];done) | (simp (config:={ decide:=true }) only[go_sem,Nat.reduceBEq,reduceIte];rw[w64 (by omega) (by omega)];rfl) | (simp (config:={ decide:=true }) only[go_sem,Nat.reduceBEq,reduceIte,h3];done)
    ·have hp:((0:Int)<(m:Int))=True:=eq_true (by omega)
     rw[if_neg (fun e=>by have:=congrArg List.length e;rw[List.length_take,List.length_nil] at this;omega)] at hj
     simp (config:={ decide:=true }) only[go_sem,Int.reduceToNat,Nat.reduceAdd,Nat.reduceSub,Nat.reduceMul,Nat.reduceBEq,reduceIte,reduceCtorEq,h1,h3,h6,h7,h8,h9,hmt',hw,hp]
     repeat (with_reducible refine And.intro ?_ ?_;·(with_reducible and_intros) <;> omega)
     refine ⟨_,_,Ghost.refl,ws.length-(m+1),by omega,m+1,z++[32]++w,rfl,by omega,by rw[hj,hzz];simp,by simp only[List.length_append,List.length_cons,List.length_nil];omega,?_,?_,?_,?_,?_,?_,rfl⟩
     all_goals first | (simp (config:={ decide:=true }) only[go_sem,Nat.reduceBEq,reduceIte,h1,h6,h7,h8];done) | (simp (config:={ decide:=true }) only[go_sem,Nat.reduceBEq,reduceIte];rw[w64 (by omega) (by omega)];rfl) | (simp (config:={ decide:=true }) only[go_sem,Nat.reduceBEq,reduceIte,h3];done)
   ·have hmt' : ((m:Int)<(ws.length:Int))=False:=eq_false (by omega)
    rw[List.take_of_length_le (by omega)] at hzz
    simp (config:={ decide:=true }) only[go_sem,Int.reduceToNat,Nat.reduceAdd,Nat.reduceSub,Nat.reduceMul,Nat.reduceBEq,reduceIte,reduceCtorEq,h1,h3,h6,h7,h8,h9,hmt']
    repeat (with_reducible refine And.intro ?_ ?_;·(with_reducible and_intros) <;> omega)
    refine ⟨_,_,Ghost.refl,l.length-(j+1),by omega,j+1,z++[10],rfl,by omega,?_,?_,?_,?_,?_,?_,rfl⟩
    ·rw[hjl2,hzz,hy];simp
    ·simp only[List.length_append,List.length_cons,List.length_nil];omega
    all_goals first | (simp (config:={ decide:=true }) only[go_sem,Nat.reduceBEq,reduceIte,h1,h6];done) | (simp (config:={ decide:=true }) only[go_sem,Nat.reduceBEq,reduceIte];rw[w64 (by omega) (by omega)];rfl) | (simp (config:={ decide:=true }) only[go_sem,Nat.reduceBEq,reduceIte,h3];done)
  ·have hjt' : ((j:Int)<(l.length:Int))=False:=eq_false (by omega)
   rw[List.take_of_length_le (by omega)] at hy
   simp (config:={ decide:=true }) only[go_sem,Int.reduceToNat,Nat.reduceAdd,Nat.reduceSub,Nat.reduceMul,Nat.reduceBEq,reduceIte,reduceCtorEq,h1,h3,h6,h7,hlt',hx,tdrow,hjt']
   repeat (with_reducible refine And.intro ?_ ?_;·(with_reducible and_intros) <;> omega)
   refine ⟨_,_,Ghost.refl,f.thr.length-(i+1),by omega,i+1,y,rfl,by omega,?_,by omega,?_,?_,?_,rfl⟩
   ·rw[hs,hy,hv];simp[joinN]
   all_goals first | (simp (config:={ decide:=true }) only[go_sem,Nat.reduceBEq,reduceIte,h1];done) | (simp (config:={ decide:=true }) only[go_sem,Nat.reduceBEq,reduceIte];rw[w64 (by omega) (by omega)];rfl) | (simp (config:={ decide:=true }) only[go_sem,Nat.reduceBEq,reduceIte,h3];done)
 obtain rfl:i=f.thr.length:=by omega
 have hlt' : ((f.thr.length:Int)<(f.thr.length:Int))=False:=eq_false (by omega)
 rw[List.take_length] at hv
 cases hall:f.all with
 | true =>
  simp (config:={ decide:=true }) only[go_sem,Int.reduceToNat,Nat.reduceAdd,Nat.reduceSub,Nat.reduceMul,Nat.reduceBEq,reduceIte,reduceCtorEq,h1,h3,h6,hlt',hall]
  repeat (with_reducible refine And.intro ?_ ?_;·(with_reducible and_intros) <;> omega)
  have hk0:(if f.all=true then forallB else existsB)=[102,111,114,97,108,108]:=by rw[hall];rfl
  refine HW.loopG (fun k T H=>∃(i:Nat) (z:List UInt8),k=f.cond.length-i∧i≤f.cond.length∧z=v++[102,111,114,97,108,108]++rowK 0 ((f.cond.take i).map AT.word)∧z.length≤99010+i*150∧T 1=.pt 0 1 0 0∧T 3=.v (str z)∧T 10=.v (.int .i64 i)∧H=[some (fileO f)]) f.cond.length ⟨_,_,Ghost.refl,0,v++[102,111,114,97,108,108],rfl,by omega,by simp[rowK],by simp only[List.length_append,List.length_cons,List.length_nil];omega,by simp (config:={ decide:=true }) only[go_sem,Nat.reduceBEq,reduceIte,h1],by simp (config:={ decide:=true }) only[go_sem,Nat.reduceBEq,reduceIte,h3],rfl,rfl⟩ ?_
  clear h1 h3 h6 hil
  rintro k T H ⟨i,z,rfl,hil,hz,hzl,h1,h3,h10,rfl⟩
  refine HW.run 200 (by kernel_rfl) ?_
  by_cases hlt:i<f.cond.length
  ·have hlt' : ((i:Int)<(f.cond.length:Int))=True:=eq_true (by omega)
   have hx:f.cond[i]?=some f.cond[i]:=List.getElem?_eq_getElem hlt
   obtain ⟨r1,r2⟩:=h.c _ (List.getElem_mem hlt)
   have hnm:=hf.c _ (List.getElem_mem hlt)
   have htk:=takeX hx
   generalize f.cond[i]=a at hx r1 r2 hnm htk
   have hwl:=word_len2 r1 r2
   have hW:=refWord a.th a.nm a.n (asked_inI r1) r2 (by omega)
   have ew:wordA a.th a.nm a.n=a.word:=rfl
   rw[ew] at hW
   have hs:rowK 0 ((f.cond.take (i+1)).map AT.word)=rowK 0 ((f.cond.take i).map AT.word)++[32]++a.word:=by rw[htk,List.map_append];simp[rowK,sufK]
   generalize a.word=w at hwl hW hs
   simp (config:={ decide:=true }) only[go_sem,Int.reduceToNat,Nat.reduceAdd,Nat.reduceSub,Nat.reduceMul,Nat.reduceBEq,reduceIte,reduceCtorEq,h1,h3,h10,hlt',hx,arow]
   repeat (with_reducible refine And.intro ?_ ?_;·(with_reducible and_intros) <;> omega)
   refine callX_nm (hW) rfl rfl ?_
   simp (config:={ decide:=true }) only[go_sem,Int.reduceToNat,Nat.reduceAdd,Nat.reduceSub,Nat.reduceMul,Nat.reduceBEq,reduceIte,reduceCtorEq,h1,h3,h10]
   repeat (with_reducible refine And.intro ?_ ?_;·(with_reducible and_intros) <;> omega)
   refine ⟨_,_,Ghost.refl,f.cond.length-(i+1),by omega,i+1,z++[32]++w,rfl,by omega,by rw[hs,hz];simp,by simp only[List.length_append,List.length_cons,List.length_nil];omega,?_,?_,?_,rfl⟩
   all_goals first | (simp (config:={ decide:=true }) only[go_sem,Nat.reduceBEq,reduceIte,h1];done) | (simp (config:={ decide:=true }) only[go_sem,Nat.reduceBEq,reduceIte];rw[w64 (by omega) (by omega)];rfl) | (simp (config:={ decide:=true }) only[go_sem,Nat.reduceBEq,reduceIte,h3];done)
  ·have hlt' : ((i:Int)<(f.cond.length:Int))=False:=eq_false (by omega)
   rw[List.take_of_length_le (by omega)] at hz
   have he:joinN (plainL f)=z++[10]:=by
    have e:plainL f=(headLn f::initLn f::f.thr.flatMap thLns)++[condLn f]:=rfl
    rw[e,joinN_app,←hv,hz]
    unfold condLn jnW
    rw[hk0]
    simp[joinN]
   rw[he]
   simp (config:={ decide:=true }) only[go_sem,Int.reduceToNat,Nat.reduceAdd,Nat.reduceSub,Nat.reduceMul,Nat.reduceBEq,reduceIte,reduceCtorEq,h1,h3,h10,hlt']
   omega
 | false =>
  simp (config:={ decide:=true }) only[go_sem,Int.reduceToNat,Nat.reduceAdd,Nat.reduceSub,Nat.reduceMul,Nat.reduceBEq,reduceIte,reduceCtorEq,h1,h3,h6,hlt',hall]
  repeat (with_reducible refine And.intro ?_ ?_;·(with_reducible and_intros) <;> omega)
  have hk0:(if f.all=true then forallB else existsB)=[101,120,105,115,116,115]:=by rw[hall];rfl
  refine HW.loopG (fun k T H=>∃(i:Nat) (z:List UInt8),k=f.cond.length-i∧i≤f.cond.length∧z=v++[101,120,105,115,116,115]++rowK 0 ((f.cond.take i).map AT.word)∧z.length≤99010+i*150∧T 1=.pt 0 1 0 0∧T 3=.v (str z)∧T 10=.v (.int .i64 i)∧H=[some (fileO f)]) f.cond.length ⟨_,_,Ghost.refl,0,v++[101,120,105,115,116,115],rfl,by omega,by simp[rowK],by simp only[List.length_append,List.length_cons,List.length_nil];omega,by simp (config:={ decide:=true }) only[go_sem,Nat.reduceBEq,reduceIte,h1],by simp (config:={ decide:=true }) only[go_sem,Nat.reduceBEq,reduceIte,h3],rfl,rfl⟩ ?_
  clear h1 h3 h6 hil
  rintro k T H ⟨i,z,rfl,hil,hz,hzl,h1,h3,h10,rfl⟩
  refine HW.run 200 (by kernel_rfl) ?_
  by_cases hlt:i<f.cond.length
  ·have hlt' : ((i:Int)<(f.cond.length:Int))=True:=eq_true (by omega)
   have hx:f.cond[i]?=some f.cond[i]:=List.getElem?_eq_getElem hlt
   obtain ⟨r1,r2⟩:=h.c _ (List.getElem_mem hlt)
   have hnm:=hf.c _ (List.getElem_mem hlt)
   have htk:=takeX hx
   generalize f.cond[i]=a at hx r1 r2 hnm htk
   have hwl:=word_len2 r1 r2
   have hW:=refWord a.th a.nm a.n (asked_inI r1) r2 (by omega)
   have ew:wordA a.th a.nm a.n=a.word:=rfl
   rw[ew] at hW
   have hs:rowK 0 ((f.cond.take (i+1)).map AT.word)=rowK 0 ((f.cond.take i).map AT.word)++[32]++a.word:=by rw[htk,List.map_append];simp[rowK,sufK]
   generalize a.word=w at hwl hW hs
   simp (config:={ decide:=true }) only[go_sem,Int.reduceToNat,Nat.reduceAdd,Nat.reduceSub,Nat.reduceMul,Nat.reduceBEq,reduceIte,reduceCtorEq,h1,h3,h10,hlt',hx,arow]
   repeat (with_reducible refine And.intro ?_ ?_;·(with_reducible and_intros) <;> omega)
   refine callX_nm (hW) rfl rfl ?_
   simp (config:={ decide:=true }) only[go_sem,Int.reduceToNat,Nat.reduceAdd,Nat.reduceSub,Nat.reduceMul,Nat.reduceBEq,reduceIte,reduceCtorEq,h1,h3,h10]
   repeat (with_reducible refine And.intro ?_ ?_;·(with_reducible and_intros) <;> omega)
   refine ⟨_,_,Ghost.refl,f.cond.length-(i+1),by omega,i+1,z++[32]++w,rfl,by omega,by rw[hs,hz];simp,by simp only[List.length_append,List.length_cons,List.length_nil];omega,?_,?_,?_,rfl⟩
   all_goals first | (simp (config:={ decide:=true }) only[go_sem,Nat.reduceBEq,reduceIte,h1];done) | (simp (config:={ decide:=true }) only[go_sem,Nat.reduceBEq,reduceIte];rw[w64 (by omega) (by omega)];rfl) | (simp (config:={ decide:=true }) only[go_sem,Nat.reduceBEq,reduceIte,h3];done)
  ·have hlt' : ((i:Int)<(f.cond.length:Int))=False:=eq_false (by omega)
   rw[List.take_of_length_le (by omega)] at hz
   have he:joinN (plainL f)=z++[10]:=by
    have e:plainL f=(headLn f::initLn f::f.thr.flatMap thLns)++[condLn f]:=rfl
    rw[e,joinN_app,←hv,hz]
    unfold condLn jnW
    rw[hk0]
    simp[joinN]
   rw[he]
   simp (config:={ decide:=true }) only[go_sem,Int.reduceToNat,Nat.reduceAdd,Nat.reduceSub,Nat.reduceMul,Nat.reduceBEq,reduceIte,reduceCtorEq,h1,h3,h10,hlt']
   omega
end Go.Proofs.YtmapdjdnnhlpiaaGreatDoor
namespace Go.Proofs.YtmapdjdnnhlpiaaGreatDoor
open Go.RowKit
set_option maxRecDepth 8000
theorem okR_few {f:Fl} (h:FewF f):OkR f:=by
 have h1:=h.thr
 have h2:=h.init
 have h3:=h.cond
 have h4:=h.nm
 have hs:(f.thr.map List.length).sum≤900:=by
  have:∀r:List (List LT),(∀l∈r,l.length≤100)→(r.map List.length).sum≤100*r.length:=fun r=>by
   induction r with
   | nil=>simp
   | cons l r ih =>
    intro hr
    have:=ih fun m hm=>hr m (by simp[hm])
    have:=hr l (by simp)
    simp only[List.map_cons,List.sum_cons,List.length_cons];omega
  have:=this f.thr h.l
  omega
 refine ⟨by omega,by omega,by omega,fun l hl=>by have:=h.l l hl;omega,?_,by omega,fun c hc=>by have:=h.i c hc;omega,fun l hl x hx=>?_,fun a ha=>by have:=h.c a ha;omega⟩
 ·have:=condL_len f.cond
  unfold rawL
  rw[List.length_append,List.length_append,List.length_map,flatLoc_len]
  omega
 ·obtain ⟨g1,g2,g3⟩:=small_l (h.x l hl x hx)
  exact ⟨by omega,by omega,by omega⟩
theorem thrE_right:∀(b a:List LT),thrE a b=none→∀x∈b,x.right=true
 | [],_,_,x,hx=>by cases hx
 | y::b,a,h,x,hx=>by
  rw[thrE] at h
  split at h
  ·rename_i h0
   rcases List.mem_cons.1 hx with rfl | hx
   ·cases hr:x.right with
    | true=>rfl
    | false=>unfold lineE at h0;rw[if_pos hr] at h0;cases h0
   ·exact thrE_right b _ h x hx
  ·cases h
theorem thsO_right:∀(r:List (List LT)) (k:Nat),thsO k r=none→∀l∈r,∀x∈l,x.right=true
 | [],_,_,l,hl=>by cases hl
 | m::r,k,h,l,hl=>by
  rw[thsO] at h
  cases hm:thrO (k:Int) m with
  | some w=>rw[hm] at h;cases h
  | none =>
   rw[hm] at h
   rcases List.mem_cons.1 hl with rfl | hl
   ·refine thrE_right l [] ?_
    unfold thrO at hm
    cases h2:thrE [] l with
    | none=>rfl
    | some p=>rw[h2] at hm;cases hm
   ·exact thsO_right r _ h l hl
theorem check_right {f:Fl} (h:(checkF f).2.2=0):nameB f.name=true∧(∀c∈f.init,nameB c.1=true)∧f.thr≠[]∧(∀l∈f.thr,∀x∈l,x.right=true)∧∀a∈f.cond,a.asked=true:=by
 have h1:headO f=none:=by
  cases hh:headO f with
  | none=>rfl
  | some w =>
   rw[checkF_1 hh] at h
   unfold headO at hh
   split at hh
   ·cases hh
   ·simp at hh;subst hh;exact absurd h (by assumption)
 have h1' : headE f=0:=by
  unfold headO at h1
  split at h1
  ·assumption
  ·cases h1
 obtain ⟨g1,g2,g3,g4⟩:=headE_init h1'
 have h2:thsO 0 f.thr=none:=by
  cases hh:thsO 0 f.thr with
  | none=>rfl
  | some w =>
   rw[checkF_2 h1 hh] at h
   obtain ⟨a,b,e⟩:=w
   exact absurd h (thsO_ne _ _ hh)
 have h3:conO f=none:=by
  cases hh:conO f with
  | none=>rfl
  | some w =>
   rw[checkF_3 h1 h2 hh] at h
   unfold conO at hh
   cases h4:conE f.thr.length 0 f.cond with
   | none=>rw[h4] at hh;cases hh
   | some p=>rw[h4] at hh;simp at hh;subst hh;exact absurd h (conE_ne _ _ _ h4)
 have hc:conE f.thr.length 0 f.cond=none:=by
  unfold conO at h3
  cases h4:conE f.thr.length 0 f.cond with
  | none=>rfl
  | some p=>rw[h4] at h3;cases h3
 exact ⟨g2,iniE_names _ _ g1,fun e=>by rw[e] at g3;simp at g3,thsO_right _ _ h2,fun a ha=>(conE_asked _ _ _ hc a ha).1⟩
abbrev endS (f:Fl):PS:=⟨f,4,numL 2 f.thr,1,((3+cntL f.thr:Nat):Int)⟩
theorem lines_plain {f:Fl} (h:MayF f):linesB (joinN (plainL f))=plainL f:=by
 have:=lines_joinN [] (plainL f) (plain_no10 h)
 rwa [List.append_nil,linesB_nilN,List.append_nil] at this
theorem parse_plain {f:Fl} (h:MayF f) (hl:(joinN (plainL f)).length≤4000):parseF (joinN (plainL f))=if (checkF f).2.2=0 then (f,0,0) else (noFl,whereF (endS f) (checkF f).1 (checkF f).2.1,(checkF f).2.2):=by
 unfold parseF
 rw[if_neg (by omega),lines_plain h,read_plain h]
 simp only
 unfold finF
 rw[if_neg (by simp)]
 by_cases h0:(checkF f).2.2=0
 ·rw[if_pos h0,if_neg (by simp[h0])]
 ·rw[if_neg h0,if_pos (by simpa using h0)]
theorem parse_long {s:List UInt8} (h:4000<s.length):parseF s=(noFl,0,5):=by unfold parseF;rw[if_pos h]
set_option maxHeartbeats 8000000 in
theorem parsePlainH (f:Fl) (hi:∀c∈f.init,inI c.2) (ht:∀l∈f.thr,∀x∈l,inI x.n) (hc:∀a∈f.cond,inI a.n):HFn Tryz.prog 7 [fileH f] (.v (.bool true)):=by
 refine HCalls_body (fn:=Tryz.f7) 47 [2] (by kernel_rfl) rfl (by kernel_rfl) (HW.run 400 (by kernel_rfl) ?_)
 simp (config:={ decide:=true }) only[go_sem,Int.reduceToNat,Nat.reduceAdd,Nat.reduceSub,Nat.reduceMul,Nat.reduceBEq,reduceIte,reduceCtorEq]
 refine callX_fn 3 (parHead) (by simp only[go_sem]) rfl ?_
 simp (config:={ decide:=true }) only[go_sem,Int.reduceToNat,Nat.reduceAdd,Nat.reduceSub,Nat.reduceMul,Nat.reduceBEq,reduceIte,reduceCtorEq]
 refine callX_nm (lawGreat4 f) rfl rfl ?_
 cases hb:bigF f with
 | true=>simp (config:={ decide:=true }) only[go_sem,Int.reduceToNat,Nat.reduceAdd,Nat.reduceSub,Nat.reduceMul,Nat.reduceBEq,reduceIte,reduceCtorEq]
 | false =>
  have hf:=bigF_few hb
  simp (config:={ decide:=true }) only[go_sem,Int.reduceToNat,Nat.reduceAdd,Nat.reduceSub,Nat.reduceMul,Nat.reduceBEq,reduceIte,reduceCtorEq]
  refine callX_nm (refRight4 f (okR_few hf)) rfl rfl ?_
  by_cases h0:(checkF f).2.2=0
  case neg =>
   rw[decide_eq_false h0]
   simp (config:={ decide:=true }) only[go_sem,Int.reduceToNat,Nat.reduceAdd,Nat.reduceSub,Nat.reduceMul,Nat.reduceBEq,reduceIte,reduceCtorEq]
  rw[decide_eq_true h0]
  obtain ⟨g1,g2,g3,g4,g5⟩:=check_right h0
  have hp:PlainF f:=⟨hf,hi,fun l hl x hx=>⟨g4 l hl x hx,ht l hl x hx⟩,fun a ha=>⟨g5 a ha,hc a ha⟩⟩
  have hm:MayF f:=⟨clean_name g1,fun c hc=>⟨clean_name (g2 c hc),hi c hc⟩,fun l hl x hx=>⟨g4 l hl x hx,ht l hl x hx⟩,fun a ha=>⟨g5 a ha,hc a ha⟩,g3⟩
  have hl:=plain_len hp
  have hP:=lawPlain f hp
  have hpp:=parse_plain hm
  rw[if_pos h0] at hpp
  generalize joinN (plainL f)=u at hl hP hpp
  simp (config:={ decide:=true }) only[go_sem,Int.reduceToNat,Nat.reduceAdd,Nat.reduceSub,Nat.reduceMul,Nat.reduceBEq,reduceIte,reduceCtorEq]
  refine callX_nm (hP) rfl rfl ?_
  simp (config:={ decide:=true }) only[go_sem,Int.reduceToNat,Nat.reduceAdd,Nat.reduceSub,Nat.reduceMul,Nat.reduceBEq,reduceIte,reduceCtorEq]
  rcases tfP ((4000:Int)<(u.length:Int)) with ⟨d1,c1⟩ | ⟨d1,c1⟩
  ·refine callX_nm (parse_at u _ (parse_long (by omega)) (by omega)) rfl rfl ?_
   simp (config:={ decide:=true }) only[go_sem,Int.reduceToNat,Nat.reduceAdd,Nat.reduceSub,Nat.reduceMul,Nat.reduceBEq,reduceIte,reduceCtorEq,c1]
  ·have hS:=refSameFl f f (by have:=hf.init;omega) (by have:=hf.thr;omega) (by have:=hf.cond;omega) (fun l hl=>by have:=hf.l l hl;omega)
   rw[decide_eq_true rfl] at hS
   refine callX_nm (parse_at u _ (hpp (by omega)) (by omega)) rfl rfl ?_
   simp (config:={ decide:=true }) only[go_sem,Int.reduceToNat,Nat.reduceAdd,Nat.reduceSub,Nat.reduceMul,Nat.reduceBEq,reduceIte,reduceCtorEq,c1]
   refine callX_nm (hS) rfl rfl ?_
   simp (config:={ decide:=true }) only[go_sem,Int.reduceToNat,Nat.reduceAdd,Nat.reduceSub,Nat.reduceMul,Nat.reduceBEq,reduceIte,reduceCtorEq]
end Go.Proofs.YtmapdjdnnhlpiaaGreatDoor
namespace Go.Proofs.YtmapdjdnnhlpiaaGreatDoor
open Go.ChangeShapes Go.WideShapes Go.RowKit
set_option maxRecDepth 8000
structure WfF (f:Fl):Prop where
 nl:f.name.length≤maxLen
 i:∀c∈f.init,inI c.2
 t:∀l∈f.thr,∀x∈l,inI x.op∧inI x.n
 c:∀a∈f.cond,inI a.th∧inI a.n
 il:f.init.length≤maxLen
 tl:f.thr.length≤maxLen
 ll:∀l∈f.thr,l.length≤maxLen
 cl:f.cond.length≤maxLen
section
variable {H:Type} {enc:TypeId×Value→H} {w:World} {base:Nat} {sp:Nat→Bool} {held:Bool} {Z:Nat→Prop}
theorem open_fl (hZ:∀b,b<w.heap.size→Z b) {r:Reach} {b0:Nat} {v:Value} {d:DataW H} {ps:List MemPlace} (hval:Value.okWide Tryz.prog w r b0 27 v) (hd:DataW.Trod enc Tryz.prog w base sp held 27 v d ps) :
  ∃f:Fl,RV Z [] w (fileH f) v []∧WfF f:=by
 obtain ⟨hs,h1,a1,_,rfl,g1,a2,_,rfl,g2,a3,_,rfl,g3,a4,_,rfl,g4,a5,_,rfl,g5,rfl⟩:=open_ag (Z:=Z) (n:=6) hZ Tryz.underlying27 (by kernel_rfl) hval hd
 obtain ⟨nm,nl,rfl⟩:=shp_str Tryz.underlying9 g1
 obtain ⟨rows,il,rfl,hr⟩:=shp_sl Tryz.underlying23 g2
 obtain ⟨ini,rfl,hi⟩:=rows_mapP (p:=crow) (q:=fun c=>inI c.2) rows fun r h=>by
  obtain ⟨b1,_,rfl,h1,b2,_,rfl,h2,rfl⟩:=shp_ag Tryz.underlying44 (hr r h)
  obtain ⟨y1,_,rfl⟩:=shp_str Tryz.underlying9 h1
  obtain ⟨y2,k2,rfl⟩:=shp_int Tryz.underlying3 h2
  exact ⟨(y1,y2),rfl,wf_inI k2⟩
 obtain ⟨rows,tl,rfl,hr⟩:=shp_sl Tryz.underlying24 g3
 obtain ⟨thr,rfl,ht⟩:=rows_mapP (p:=tdrow) (q:=fun l=>(∀x∈l,inI x.op∧inI x.n)∧l.length≤maxLen) rows fun r h=>by
  obtain ⟨b1,_,rfl,h1,rfl⟩:=shp_ag Tryz.underlying47 (hr r h)
  obtain ⟨rs,ll,rfl,hs⟩:=shp_sl Tryz.underlying45 h1
  obtain ⟨m,rfl,hm⟩:=rows_mapP (p:=lnrow) (q:=fun x=>inI x.op∧inI x.n) rs fun r h=>by
   obtain ⟨c1,_,rfl,h1,c2,_,rfl,h2,c3,_,rfl,h3,c4,_,rfl,h4,c5,_,rfl,h5,rfl⟩:=shp_ag Tryz.underlying50 (hs r h)
   obtain ⟨x1,k1,rfl⟩:=shp_int Tryz.underlying3 h1
   obtain ⟨x2,_,rfl⟩:=shp_str Tryz.underlying9 h2
   obtain ⟨x3,_,rfl⟩:=shp_str Tryz.underlying9 h3
   obtain ⟨x4,_,rfl⟩:=shp_str Tryz.underlying9 h4
   obtain ⟨x5,k5,rfl⟩:=shp_int Tryz.underlying3 h5
   exact ⟨⟨x1,x2,x3,x4,x5⟩,rfl,wf_inI k1,wf_inI k5⟩
  exact ⟨m,rfl,hm,by simpa using ll⟩
 obtain ⟨all,rfl⟩:=shp_bool Tryz.underlying4 g4
 obtain ⟨rows,cl,rfl,hr⟩:=shp_sl Tryz.underlying25 g5
 obtain ⟨con,rfl,hc⟩:=rows_mapP (p:=arow) (q:=fun a=>inI a.th∧inI a.n) rows fun r h=>by
  obtain ⟨b1,_,rfl,h1,b2,_,rfl,h2,b3,_,rfl,h3,rfl⟩:=shp_ag Tryz.underlying53 (hr r h)
  obtain ⟨y1,k1,rfl⟩:=shp_int Tryz.underlying3 h1
  obtain ⟨y2,_,rfl⟩:=shp_str Tryz.underlying9 h2
  obtain ⟨y3,k3,rfl⟩:=shp_int Tryz.underlying3 h3
  exact ⟨⟨y1,y2,y3⟩,rfl,wf_inI k1,wf_inI k3⟩
 exact ⟨⟨nm,ini,thr,all,con⟩,h1,nl,hi,fun l hl=>(ht l hl).1,hc,by simpa using il,by simpa using tl,fun l hl=>(ht l hl).2,by simpa using cl⟩
end
end Go.Proofs.YtmapdjdnnhlpiaaGreatDoor
namespace Go.Proofs.YtmapdjdnnhlpiaaGreatDoor
open Go.RowKit
set_option maxRecDepth 8000
theorem cut_whole {c:UInt8} {s w:List UInt8} (hw:w∈cutB c s) (hl:w.length=s.length):c∉s:=fun hc=>by
 obtain ⟨p,r,e,hp⟩:∃p r,s=p++c::r∧c∉p:=by
  have:=List.append_of_mem hc
  clear hw hl
  induction s with
  | nil=>cases hc
  | cons b s ih =>
   by_cases hb:b=c
   ·exact ⟨[],s,by rw[hb];rfl,by simp⟩
   ·have hcs:c∈s:=by
     rcases List.mem_cons.1 hc with h | h
     ·exact absurd h.symm hb
     ·exact h
    obtain ⟨p,r,e,hp⟩:=ih hcs (List.append_of_mem hcs)
    exact ⟨b::p,r,by rw[e];rfl,by simp only[List.mem_cons,not_or];exact ⟨fun h=>hb h.symm,hp⟩⟩
 have ht:=cut_tot c s
 have hs:cutB c s=p::cutB c r:=by rw[e];exact cutB_sep hp
 have hr:=cut_tot c r
 rw[hs] at hw
 have le:s.length=p.length+1+r.length:=by rw[e];simp;omega
 rcases List.mem_cons.1 hw with rfl | hw
 ·omega
 ·have:=sum_mem (List.mem_map.2 ⟨w,hw,rfl⟩:w.length+1∈(cutB c r).map fun x=>x.length+1)
  omega
theorem clean_of {s w:List UInt8} (h1:wordsB s=[w]) (h2:w.length=s.length) (h3:(linesB s)[0]?=some s):Clean s:=by
 have hw:w∈wordsB s:=by rw[h1];simp
 have hc:=(List.mem_filter.1 hw).1
 have h32:=cut_whole hc h2
 refine ⟨fun e=>?_,h32,lines_no10 (List.mem_of_getElem? h3)⟩
 subst e
 rw[wordsB_nil] at h1;cases h1
theorem cntL_snoc (r:List (List LT)) (l:List LT):cntL (r++[l])=cntL r+1+l.length:=by simp[cntL];omega
theorem numL_get:∀(r:List (List LT)) (n i:Nat) {l:List LT},r[i]?=some l→(numL n r)[i]?=some (numT (n+cntL (r.take i)) l)
 | [],n,i,l,h=>by simp at h
 | m::r,n,0,l,h=>by simp at h;subst h;simp[numL,cntL]
 | m::r,n,i+1,l,h=>by
  have:=numL_get r (n+1+m.length) i (by simpa using h)
  rw[numL,List.getElem?_cons_succ,this]
  congr 2
  simp[cntL];omega
theorem numT_get {n:Nat} {l:List LT} {j:Nat} (h:j<l.length):(numT n l)[j]?=some ((n+2+j:Nat):Int):=by
 unfold numT
 rw[List.getElem?_map,List.getElem?_range h];rfl
theorem endS_agree {f:Fl} (h:MayF f):Agree (endS f):=by
 have:=(lines_tot (plainL f) pS0 0 pS0_agree).2 (by rw[read_plain h])
 rw[read_plain h] at this
 exact this
def posT (f:Fl) (t i:Int):Int:=((4+cntL (f.thr.take t.toNat)+i.toNat:Nat):Int)
theorem whereF_end {f:Fl} (h:MayF f) (h0:(checkF f).2.2≠0):whereF (endS f) (checkF f).1 (checkF f).2.1=if (checkF f).1<0 then 1 else if (checkF f).1=f.thr.length then ((3+cntL f.thr:Nat):Int) else posT f (checkF f).1 (checkF f).2.1:=by
 have hat:=checkF_at (s:=endS f) (endS_agree h) h0
 have hat:0≤(checkF f).1→(checkF f).1≠f.thr.length→0≤(checkF f).2.1∧∃ln,(numL 2 f.thr)[(checkF f).1.toNat]?=some ln∧(checkF f).2.1.toNat<ln.length:=hat
 unfold whereF
 show (if (checkF f).1<0 then (1:Int) else if (checkF f).1=f.thr.length then ((3+cntL f.thr:Nat):Int) else (((numL 2 f.thr)[(checkF f).1.toNat]?.getD [])[(checkF f).2.1.toNat]?).getD 0)=_
 split
 ·rfl
 split
 ·rfl
 rename_i n1 n2
 obtain ⟨g1,ln,e1,e2⟩:=hat (by omega) n2
 have hlen:∀(r:List (List LT)) (n:Nat),(numL n r).length=r.length:=fun r=>by
  induction r with
  | nil=>intro n;rfl
  | cons a r ih=>intro n;simp[numL,ih]
 have hlt:=(List.getElem?_eq_some_iff.1 e1).1
 rw[hlen] at hlt
 have hx:f.thr[(checkF f).1.toNat]?=some f.thr[(checkF f).1.toNat]:=List.getElem?_eq_getElem hlt
 have hnum:=numL_get f.thr 2 _ hx
 rw[e1,Option.some.injEq] at hnum
 subst hnum
 have hl2:(checkF f).2.1.toNat<f.thr[(checkF f).1.toNat].length:=by simpa [numT] using e2
 rw[e1,Option.getD_some,numT_get hl2,Option.getD_some]
 unfold posT
 congr 1
 omega
end Go.Proofs.YtmapdjdnnhlpiaaGreatDoor
