/- Parts of the proof: Wi, Wj, Wk, HiCr, Ma, LyAtoi, Mb, HiCs. -/
import Derived.Test.YtmapdjdnnhlpiaaGreatDoorZs07
import Derived.Test.YtmapdjdnnhlpiaaGreatDoorZs06
import Derived.Shelf.GgClosure.StringsIndexFuncTop
import Derived.Lib.TrimUEq
import Derived.Test.YtmapdjdnnhlpiaaGreatDoorZs05
import Derived.Lib.AtoiAll
import Derived.Laws.BitsLemmas
import Derived.Shelf.LaysC
import Derived.Test.YtmapdjdnnhlpiaaGreatDoorProg
import Derived.KernelRfl
import Derived.Shelf.Strconv.AtoiAll
import Derived.Lib.AtoiErrMem
set_option linter.unusedSectionVars false
set_option linter.unusedVariables false
set_option linter.unusedSimpArgs false
namespace Go.Proofs.YtmapdjdnnhlpiaaGreatDoor
open Go.RowKit
set_option maxRecDepth 8000
theorem wordsB_nil:wordsB []=[]:=by decide
theorem wordsB_step {s:List UInt8} (hs:s≠[]):wordsB s=(if (Lib.cut s [32]).1=[] then [] else [(Lib.cut s [32]).1])++wordsB (Lib.cut s [32]).2.1∧(Lib.cut s [32]).2.1.length<s.length:=by
 rcases cut1 32 s with ⟨p,r,rfl,h1,h2⟩ | ⟨h1,h2⟩
 ·rw[h2]
  refine ⟨?_,by simp;omega⟩
  unfold wordsB
  rw[cutB_sep h1]
  by_cases hp:p=[]
  ·simp[hp]
  ·simp[hp]
 ·rw[h2]
  refine ⟨?_,by simpa using List.length_pos_iff.2 hs⟩
  unfold wordsB
  rw[cutB_plain h1]
  simp[cutB,hs]
def WordsI (s:List UInt8) (m id:Nat) (J:Nat→Heap→Prop) (k:Nat) (T:Nat→HV) (H:Heap):Prop:=∃i cur Hq,k=cur.length∧J i Hq∧Hq.length=m∧(wordsB s).drop i=wordsB cur∧i≤(wordsB s).length∧cur.length≤1000000∧
 T 0=.yl id∧T 1=.pt m 1 0 0∧H=Hq++[some ⟨9,1,[[.v (str cur)]]⟩]
theorem words1 (s:List UInt8) (hs:s.length≤1000000) (Hc:Heap) (n:Nat) (hn:Hc[n]?=some (some ⟨9,1,[[.v (str s)]]⟩)) :
  HSeq Tryz.prog 58 Hc [.pt n 1 0 0] (Hc.set n none) ((wordsB s).map srow):=by
 intro id J K hid hJ hK hY h0
 refine HCalls_body (fn:=Tryz.f58) 23 [] rfl rfl (by kernel_rfl) (HW.ghost (Ghost.move 1 n 1 0 0 _ rfl hn) (HW.run 60 (by kernel_rfl) ?_))
 simp (config:={ decide:=true }) only[go_sem,Nat.reduceAdd,Nat.reduceSub,Nat.reduceMul,Nat.reduceBEq,reduceIte,reduceCtorEq]
 refine HW.loopG (WordsI s Hc.length id J) s.length ⟨_,_,Ghost.refl,0,s,_,rfl,h0,by simp,rfl,by omega,hs,rfl,rfl,rfl⟩ ?_
 rintro k T H ⟨i,cur,Hq,rfl,hJi,hlen,hw,hi,hb,h0,h1,rfl⟩
 have g0:∀B:Heap,getO (Hq++B) Hc.length=getO B 0:=fun B=>getO_behind0 hlen
 have g1:∀(B:Heap) x,(Hq++B).set Hc.length x=Hq++B.set 0 x:=fun B x=>set_behind0 hlen
 refine HW.run 200 (by kernel_rfl) ?_
 by_cases hc:cur=[]
 ·subst hc
  simp (config:={ decide:=true }) only[go_sem,Nat.reduceAdd,Nat.reduceSub,Nat.reduceMul,Nat.reduceBEq,reduceIte,reduceCtorEq,h0,h1,g0,g1]
  refine endP_behind hlen (hJ _ _ hJi).2 (.inl ?_)
  have:(wordsB s).length≤i:=by
   have h:=congrArg List.length hw
   rw[wordsB_nil,List.length_drop,List.length_nil] at h
   omega
  have e:((wordsB s).map srow).length=i:=by simp;omega
  rw[e];exact hJi
 ·simp (config:={ decide:=true }) only[go_sem,Nat.reduceAdd,Nat.reduceSub,Nat.reduceMul,Nat.reduceBEq,reduceIte,reduceCtorEq,h0,h1,g0,g1,hc]
  obtain ⟨hst,hlt⟩:=wordsB_step hc
  refine callX_fn 3 (stringsCut cur [32] (by omega)) (by simp only[go_sem]) rfl ?_
  generalize Lib.cut cur [32]=ct at hst hlt⊢
  obtain ⟨ln,rs,fd⟩:=ct
  simp only at hst hlt
  have next:∀(T' : Nat→HV) (i' : Nat) (Hq' : Heap),Hq'.length=Hc.length→J i' Hq'→i'≤(wordsB s).length→(wordsB s).drop i'=wordsB rs→T' 0=.yl id→T' 1=.pt Hc.length 1 0 0→
    GQ 23 Hc.length (fun T' H'=>∃k',k' < cur.length∧WordsI s Hc.length id J k' T' H') T' (Hq'++[some ⟨9,1,[[.v (str rs)]]⟩]) :=
   fun T' i' Hq' hl' hj' hi' hd' t0 t1=>⟨_,_,Ghost.refl,rs.length,hlt,i',rs,Hq',rfl,hj',hl',hd',hi',by omega,t0,t1,rfl⟩
  by_cases he:ln=[]
  ·rw[if_pos he,List.nil_append] at hst
   simp (config:={ decide:=true }) only[go_sem,Nat.reduceAdd,Nat.reduceSub,Nat.reduceMul,Nat.reduceBEq,reduceIte,reduceCtorEq,h0,h1,g0,g1,he]
   refine next _ i Hq hlen hJi hi (hw.trans hst) ?_ ?_ <;> simp (config:={ decide:=true }) only[go_sem,Nat.reduceBEq,reduceIte,h0,h1]
  ·rw[if_neg he] at hst
   simp (config:={ decide:=true }) only[go_sem,Nat.reduceAdd,Nat.reduceSub,Nat.reduceMul,Nat.reduceBEq,reduceIte,reduceCtorEq,h0,h1,g0,g1,he]
   have hget:(wordsB s)[i]?=some ln:=by
    have h:=congrArg (fun l=>l[0]?) (hw.trans hst)
    simpa using h
   have hdrop:(wordsB s).drop (i+1)=wordsB rs:=by
    have h:=congrArg (fun l=>l.drop 1) (hw.trans hst)
    simpa [List.drop_drop] using h
   have hlt2:i<(wordsB s).length:=(List.getElem?_eq_some_iff.1 hget).1
   refine yieldX_at hlen hid (hJ _ _ hJi).2 rfl (hY i _ Hq (by rw[List.getElem?_map,hget];rfl) hJi) ?_
   intro b Hq' hb' hlen'
   have g0:∀B:Heap,getO (Hq'++B) Hc.length=getO B 0:=fun B=>getO_behind0 hlen'
   cases b with
   | true =>
    simp only[if_true] at hb'
    simp (config:={ decide:=true }) only[go_sem,Nat.reduceAdd,Nat.reduceSub,Nat.reduceMul,Nat.reduceBEq,reduceIte,reduceCtorEq,h0,h1,g0,he]
    refine next _ (i+1) Hq' hlen' hb' hlt2 hdrop ?_ ?_ <;> simp (config:={ decide:=true }) only[go_sem,Nat.reduceBEq,reduceIte,h0,h1]
   | false =>
    simp only[Bool.false_eq_true,if_false] at hb'
    simp (config:={ decide:=true }) only[go_sem,Nat.reduceAdd,Nat.reduceSub,Nat.reduceMul,Nat.reduceBEq,reduceIte,reduceCtorEq,h0,h1,g0,he]
    exact endP_behind hlen' (hK _ _ hb') (.inr ⟨_,hb'⟩)
theorem wordsIt (s:List UInt8):HFn Tryz.prog 42 [.v (str s)] (.fn 58 [.bx 9 1 [.v (str s)]]):=by
 refine HCalls_body (fn:=Tryz.f42) 4 [2] (by kernel_rfl) rfl (by kernel_rfl) (HW.run 200 (by kernel_rfl) ?_)
 simp (config:={ decide:=true }) only[go_sem,Nat.reduceAdd,Nat.reduceSub,Nat.reduceMul,Nat.reduceBEq,reduceIte,reduceCtorEq]
theorem wordsPr (s:List UInt8) (hs:s.length≤1000000):HFn Tryz.prog 24 [.v (str s)] (owStrs (wordsB s)):=by
 refine HCalls_body (fn:=Tryz.f24) 13 [2] (by kernel_rfl) rfl (by kernel_rfl) (HW.run 200 (by kernel_rfl) ?_)
 simp (config:={ decide:=true }) only[go_sem,Nat.reduceAdd,Nat.reduceSub,Nat.reduceMul,Nat.reduceBEq,reduceIte,reduceCtorEq]
 refine callX_fn 3 (wordsIt s) (by simp only[go_sem]) rfl ?_
 simp (config:={ decide:=true }) only[go_sem,Nat.reduceAdd,Nat.reduceSub,Nat.reduceMul,Nat.reduceBEq,reduceIte,reduceCtorEq]
 refine HW.ghost (Ghost.cell 0 0 0 (.ow 9 1 []) rfl rfl rfl rfl (Conv.nilOw _ _) (by simp)) ?_
 refine HW.rangeFunc rfl (by decide) rfl ((wordsB s).map srow) [some ⟨34,1,[[.ow 9 1 (strs [])]]⟩,none] (fun i Hi=>Hi=[some ⟨34,1,[[.ow 9 1 (strs ((wordsB s).take i))]]⟩,none]) (fun _ _=>False)
  (SubH.spec (And.intro rfl trivial)) ?_ (fun o=>words1 s hs _ 1 rfl) rfl ?_ ?_ (fun _ _ _ h=>h.elim)
 ·intro x hx
  obtain ⟨y,_,rfl⟩:=List.mem_map.1 hx
  exact ⟨rfl,rfl⟩
 ·rintro i x Hi hx-rfl
  have hlen:(wordsB s).length≤s.length+1:=Nat.le_trans (List.length_filter_le _ _) (cutB_length 32 s)
  have hil:((wordsB s).take i).length≤s.length+1:=Nat.le_trans (List.length_take_le' _ _) hlen
  rw[List.getElem?_map] at hx
  obtain ⟨y,hy,rfl⟩:=Option.map_eq_some_iff.1 hx
  refine HW.run 60 (by kernel_rfl) ?_
  simp (config:={ decide:=true }) only[go_sem,Nat.reduceAdd,Nat.reduceSub,Nat.reduceMul,Nat.reduceBEq,reduceIte,reduceCtorEq]
  refine HW.run 60 (by kernel_rfl) ?_
  simp (config:={ decide:=true }) only[go_sem,Nat.reduceAdd,Nat.reduceSub,Nat.reduceMul,Nat.reduceBEq,reduceIte,reduceCtorEq]
  refine ⟨by omega,_,_,(Ghost.absorb 0 0 0).trans (Ghost.trunc [] 2 (by omega) rfl ?_),?_⟩
  ·simp (config:={ decide:=true }) only[go_sem,Nat.reduceAdd,Nat.reduceSub,Nat.reduceMul,Nat.reduceBEq,reduceIte,reduceCtorEq]
  ·simp (config:={ decide:=true }) only[go_sem,Nat.reduceAdd,Nat.reduceSub,Nat.reduceMul,Nat.reduceBEq,reduceIte,reduceCtorEq]
   rw[List.take_add_one,hy]
   rfl
 ·rintro Hf-rfl
  simp (config:={ decide:=true }) only[go_sem,Nat.reduceAdd,Nat.reduceSub,Nat.reduceMul,Nat.reduceBEq,reduceIte,reduceCtorEq]
  rw[List.take_of_length_le (by simp)]
  rfl
end Go.Proofs.YtmapdjdnnhlpiaaGreatDoor
namespace Go.Proofs.YtmapdjdnnhlpiaaGreatDoor
open Go.RowKit Go.Shelf
set_option maxRecDepth 8000
def ndR (r:Nat):Bool:=(decide (r<97) || decide (122<r)) && (decide (r<48) || decide (57<r))
theorem rune_hi (n b0 b1 b2 b3:Nat) (h:128≤b0):128≤(Lib.decodeN n b0 b1 b2 b3).1:=by
 unfold Lib.decodeN
 rw[if_neg (by omega)]
 repeat' split
 all_goals simp only;omega
theorem idx_ld (s:List UInt8):∀(f pos:Nat),s.length-pos≤f→(Lib.idxFuncFrom ndR true ⟨s.toArray⟩ f pos = -1↔(s.drop pos).all ldB=true)
 | 0,pos,h=>by
  have:s.drop pos=[]:=List.drop_of_length_le (by omega)
  simp[Lib.idxFuncFrom,this]
 | f+1,pos,h=>by
  unfold Lib.idxFuncFrom
  have hsz:(⟨s.toArray⟩:ByteArray).size=s.length:=by simp[ByteArray.size]
  rw[hsz]
  by_cases hp:pos<s.length
  ·rw[if_pos hp,List.drop_eq_getElem_cons hp,List.all_cons]
   have hd:=Lib.decode_N ⟨s.toArray⟩ pos
   simp only[List.toList_toArray] at hd
   have hg:s.getD pos 0=s[pos]:=by simp[hp]
   rw[hg] at hd
   by_cases hb:s[pos].toNat<128
   ·rw[Lib.decodeN_ascii _ _ _ _ _ hb] at hd
    rw[hd]
    have ih:=idx_ld s f (pos+1) (by omega)
    by_cases hn:ndR s[pos].toNat=true
    ·rw[if_pos hn]
     have hl:ldB s[pos]=false:=by
      simp only[ndR,Bool.and_eq_true,Bool.or_eq_true,decide_eq_true_eq] at hn
      simp only[ldB,letB,Bool.or_eq_false_iff,Bool.and_eq_false_iff,decide_eq_false_iff_not]
      omega
     rw[hl]
     simp
    ·rw[if_neg hn,ih]
     have hl:ldB s[pos]=true:=by
      simp only[ndR,Bool.and_eq_true,Bool.or_eq_true,decide_eq_true_eq] at hn
      simp only[ldB,letB,Bool.or_eq_true,Bool.and_eq_true,decide_eq_true_eq]
      omega
     rw[hl]
     simp
   ·have h2:=rune_hi (s.length-pos) s[pos].toNat (s.getD (pos+1) 0).toNat (s.getD (pos+2) 0).toNat (s.getD (pos+3) 0).toNat (by omega)
    rw[←hd] at h2
    have hn:ndR (Utf8.decode ⟨s.toArray⟩ pos).1=true:=by
     simp only[ndR,Bool.and_eq_true,Bool.or_eq_true,decide_eq_true_eq]
     omega
    rw[if_pos hn]
    have hl:ldB s[pos]=false:=by
     simp only[ldB,letB,Bool.or_eq_false_iff,Bool.and_eq_false_iff,decide_eq_false_iff_not]
     omega
    rw[hl]
    simp
  ·have:s.drop pos=[]:=List.drop_of_length_le (by omega)
   rw[if_neg hp,this]
   simp
theorem idx_all (s:List UInt8):decide (0≤Lib.idxFunc ndR true ⟨s.toArray⟩) = !s.all ldB:=by
 have h:=idx_ld s s.length 0 (by omega)
 have hsz:(⟨s.toArray⟩:ByteArray).size=s.length:=by simp[ByteArray.size]
 have hr:=Lib.idxFunc_range ndR true ⟨s.toArray⟩
 unfold Lib.idxFunc at hr⊢
 rw[hsz] at hr⊢
 rw[List.drop_zero] at h
 cases ha:s.all ldB with
 | true=>rw[h.2 ha];simp
 | false =>
  have:Lib.idxFuncFrom ndR true ⟨s.toArray⟩ s.length 0≠-1:=fun e=>by rw[h.1 e] at ha;cases ha
  rcases hr with hr | hr
  ·exact absurd hr this
  ·simp[hr.1]
def renContains:Ren where
 f:=fun n=>if n=17 then 99 else if n=15 then 114 else if n=20 then 124 else 0
 t:=fun n=>if n=0 then 0 else if n=3 then 3 else if n=4 then 4 else if n=9 then 9 else if n=21 then 21 else if n=23 then 151 else 0
 g:=fun n=>0
theorem laysContains:LaysGw.n17 Tryz.prog renContains where
 mixed:=by kernel_rfl
 f15:=by kernel_rfl
 f17:=by kernel_rfl
 f20:=by kernel_rfl
 t0:=by kernel_rfl
 a0:=agg_no (P:=Tryz.prog) (t:=renContains.t 0) (d:=.tuple #[]) (by kernel_rfl) rfl
 z0:=fun w=>by kernel_rfl
 v0:=fun w=>by kernel_rfl
 i0:=by kernel_rfl
 t3:=by kernel_rfl
 a3:=agg_no (P:=Tryz.prog) (t:=renContains.t 3) (d:=.int .i64) (by kernel_rfl) rfl
 z3:=fun w=>by kernel_rfl
 v3:=fun w=>by kernel_rfl
 i3:=by kernel_rfl
 t4:=by kernel_rfl
 a4:=agg_no (P:=Tryz.prog) (t:=renContains.t 4) (d:=.bool) (by kernel_rfl) rfl
 z4:=fun w=>by kernel_rfl
 v4:=fun w=>by kernel_rfl
 i4:=by kernel_rfl
 t9:=by kernel_rfl
 a9:=agg_no (P:=Tryz.prog) (t:=renContains.t 9) (d:=.string) (by kernel_rfl) rfl
 z9:=fun w=>by kernel_rfl
 v9:=fun w=>by kernel_rfl
 i9:=by kernel_rfl
 t21:=by kernel_rfl
 a21:=agg_no (P:=Tryz.prog) (t:=renContains.t 21) (d:=.int .i32) (by kernel_rfl) rfl
 z21:=fun w=>by kernel_rfl
 v21:=fun w=>by kernel_rfl
 i21:=by kernel_rfl
 t23:=by kernel_rfl
 a23:=agg_no (P:=Tryz.prog) (t:=renContains.t 23) (d:=.func #[renContains.t 21] #[renContains.t 4] false) (by kernel_rfl) rfl
 z23:=fun w=>by kernel_rfl
 v23:=fun w=>by kernel_rfl
 i23:=by kernel_rfl
theorem nameFn:Tryz.prog.funcs[100]?=some Tryz.f100:=rfl
theorem nameNt:Tryz.f100.ntmps=17:=rfl
theorem namePred (w:World):PredAt Tryz.prog 100 #[] encR ndR w:=fun W r _=>by
 unfold FnGives ndR
 have z1:(r:Int)<97↔r<97:=by omega
 have z2:(122:Int)<r↔122<r:=by omega
 have z3:(r:Int)<48↔r<48:=by omega
 have z4:(57:Int)<r↔57<r:=by omega
 by_cases h1:r<97 <;> by_cases h2:122<r <;> by_cases h3:r<48 <;> by_cases h4:57<r
 all_goals
  go_enter nameFn,nameNt
  go_wp2
  all_goals first | (exfalso;omega) | (go_ret;exact ⟨by simp[h1,h2,h3,h4],0,rfl⟩)
theorem Post_below {Z:Nat→Prop} {G:List (Option OG)} {FP:Nat→List Nat} {H:Heap} {w w' : World} {v:Value} {r:HV} {Q:HV→Heap→Prop} (hi:HInv Z G FP H w) (hb:Below w.heap.size w w') (hq:Q r H) (hr:∀w,RV Z G w r v []):Post Z G FP H w Q (.returned v) w' :=
 ⟨v,r,H,Z,G,FP,[],rfl,hq,rfl,hi.keep hb.size (fun b hb'=>hb.block b (by
  rcases hb' with h | ⟨id,h⟩
  ·exact hi.zlt b h
  ·exact hi.flt id b h)),hr w',by simp,by simp,by simp,GLe.refl _,⟨hb.os,hb.tape,hb.output,hb.size,fun b hb' _=>hb.block b hb',fun _ h=>h,fun _ h=>.inl h,fun id b hb=>.inr ⟨id,hb⟩⟩⟩
theorem stringsContains (s:List UInt8):HFn Tryz.prog 99 [.v (str s),.fn 100 []] (.v (.bool (!s.all ldB))):=by
 refine ⟨enters (fn:=Tryz.f99) rfl rfl rfl,fun Z G FP w vals hi ha=>?_⟩
 simp only[RL,RV] at ha
 obtain ⟨y1,ys1,f1,f2,rfl,hf,⟨_,rfl⟩,y2,ys2,f3,f4,rfl,hf2,⟨cs,rfl,hcs,_⟩,rfl,_⟩:=ha
 have:cs = #[]:=by apply Array.ext';simpa using hcs
 subst this
 have hc:=Any.strings_ContainsFunc laysContains 100 #[] (enters (fn:=Tryz.f100) rfl rfl rfl) ndR ⟨s.toArray⟩ w (namePred w)
 refine Calls.mono hc ?_
 rintro e w' ⟨rfl,hb⟩
 rw[idx_all]
 exact Post_below hi hb rfl (fun w=>by simp[RV])
end Go.Proofs.YtmapdjdnnhlpiaaGreatDoor
namespace Go.Proofs.YtmapdjdnnhlpiaaGreatDoor
open Go.RowKit
set_option maxRecDepth 8000
theorem nameB_cons (b:UInt8) (r:List UInt8) (h:97≤b.toNat):nameB (b::r)=((b::r).all ldB && decide ((b::r).length≤8) && !keyB (b::r) && decide (regB (b::r)<0)):=by
 have:headB (b::r)=(b::r).all ldB:=by
  simp only[headB,List.all_cons]
  congr 1
  rw[Bool.eq_iff_iff]
  simp only[ldB,letB,Bool.or_eq_true,Bool.and_eq_true,decide_eq_true_eq]
  omega
 unfold nameB
 rw[this]
theorem nameB_low (b:UInt8) (r:List UInt8) (h:b.toNat<97):nameB (b::r)=false:=by
 have:letB b=false:=by
  simp only[letB,Bool.and_eq_false_iff,decide_eq_false_iff_not];omega
 simp[nameB,headB,this]
theorem namePr (s:List UInt8):HFn Tryz.prog 80 [.v (str s)] (.v (.bool (nameB s))):=by
 refine HCalls_body (fn:=Tryz.f80) 27 [2] (by kernel_rfl) rfl (by kernel_rfl) (HW.run 200 (by kernel_rfl) ?_)
 by_cases h0:s=[]
 ·subst h0
  simp (config:={ decide:=true }) only[go_sem,Nat.reduceAdd,Nat.reduceSub,Nat.reduceMul,Nat.reduceBEq,reduceIte,reduceCtorEq]
  rfl
 ·by_cases h8:(8:Int)<s.length
  ·simp (config:={ decide:=true }) only[go_sem,Nat.reduceAdd,Nat.reduceSub,Nat.reduceMul,Nat.reduceBEq,reduceIte,reduceCtorEq,h0,h8]
   have:decide (s.length≤8)=false:=by rw[decide_eq_false_iff_not];omega
   simp[nameB,this]
  ·have h8' : decide (s.length≤8)=true:=by rw[decide_eq_true_eq];omega
   simp (config:={ decide:=true }) only[go_sem,Nat.reduceAdd,Nat.reduceSub,Nat.reduceMul,Nat.reduceBEq,reduceIte,reduceCtorEq,h0,h8]
   refine callX_fn 3 (keyPr s) (by simp only[go_sem]) rfl ?_
   cases hk:keyB s with
   | true =>
    simp (config:={ decide:=true }) only[go_sem,Nat.reduceAdd,Nat.reduceSub,Nat.reduceMul,Nat.reduceBEq,reduceIte,reduceCtorEq,h0,h8]
    simp[nameB,hk]
   | false =>
    simp (config:={ decide:=true }) only[go_sem,Nat.reduceAdd,Nat.reduceSub,Nat.reduceMul,Nat.reduceBEq,reduceIte,reduceCtorEq,h0,h8]
    refine callX_fn 3 (regPr s) (by simp only[go_sem]) rfl ?_
    by_cases hr:0≤regB s
    ·simp (config:={ decide:=true }) only[go_sem,Nat.reduceAdd,Nat.reduceSub,Nat.reduceMul,Nat.reduceBEq,reduceIte,reduceCtorEq,h0,h8,hr]
     have:decide (regB s<0)=false:=by rw[decide_eq_false_iff_not];omega
     simp[nameB,this]
    ·have hr' : decide (regB s<0)=true:=by rw[decide_eq_true_eq];omega
     obtain ⟨b,r,rfl⟩:∃b r,s=b::r:=by cases s with | nil=>exact absurd rfl h0 | cons b r=>exact ⟨b,r,rfl⟩
     by_cases hb:(b.toNat:Int)<97
     ·simp (config:={ decide:=true }) only[go_sem,Nat.reduceAdd,Nat.reduceSub,Nat.reduceMul,Nat.reduceBEq,reduceIte,reduceCtorEq,h0,h8,hr,hb,Int.toNat_zero]
      rw[nameB_low b r (by omega)]
     ·simp (config:={ decide:=true }) only[go_sem,Nat.reduceAdd,Nat.reduceSub,Nat.reduceMul,Nat.reduceBEq,reduceIte,reduceCtorEq,h0,h8,hr,hb,Int.toNat_zero]
      refine callX_fn 3 (stringsContains (b::r)) (by simp only[go_sem]) rfl ?_
      simp (config:={ decide:=true }) only[go_sem,Nat.reduceAdd,Nat.reduceSub,Nat.reduceMul,Nat.reduceBEq,reduceIte,reduceCtorEq,h0,h8,hr,hb]
      rw[nameB_cons b r (by omega),h8',hk,hr']
      simp
end Go.Proofs.YtmapdjdnnhlpiaaGreatDoor
namespace Go.Proofs.YtmapdjdnnhlpiaaGreatDoor
open Go.RowKit
section
variable {P:Program} {H:Heap} {K:KT}
theorem rload_hload {t:TypeId} {a:HV} (h:onR (rload P H t a) K):hload P H t a K:=by
 unfold rload at h
 obtain ⟨x,hx,h⟩:=bindO_spec h
 unfold hload;rw[hx]
 unfold rload1 at h
 split at h
 ·rename_i id n r o _
  obtain ⟨ob,ho,h⟩:=bindO_spec h
  obtain ⟨row,hr,h⟩:=bindO_spec h
  have hcl:closedAt x H (.pt id n r o)=tvs ((row.drop o).take x.size):=by simp only[closedAt,getO_spec ho,hr]
  unfold rload2 at h
  split at h
  ·rename_i ht
   refine ⟨h.1.1,?_⟩
   rw[hcl,ht,if_pos rfl]
   unfold hloadP
   simp only[getO_spec ho,hr]
   exact ⟨h.1.2.1,h.1.2.2,ht,h.2⟩
  ·rename_i ht
   obtain ⟨_,hk,h⟩:=bindO_spec h
   have hk' : okTI x=true:=by split at hk;assumption;cases hk
   refine ⟨hk',?_⟩
   rw[hcl,ht,if_neg (by simp)]
   simp only[openAt]
   unfold rloadP at h
   unfold hloadP
   obtain ⟨ob',ho',h⟩:=bindO_spec h
   obtain ⟨row',hr',h⟩:=bindO_spec h
   simp only[getO_spec ho',hr']
   exact ⟨h.1.1,h.1.2.1,h.1.2.2,h.2⟩
 ·rename_i rows i o _
  obtain ⟨row,hr,h⟩:=bindO_spec h
  refine ⟨h.1.1,?_⟩
  unfold closedAt
  rw[if_pos rfl]
  unfold hloadP
  simp only[hr]
  exact ⟨h.1.2.1,h.1.2.2,h.2⟩
 ·exact h.elim
theorem hload_run {t:TypeId} {a:HV} {y:Value} {Z:Nat→Prop} {G:List (Option OG)} {FP:Nat→List Nat} {w:World} (hi:HInv Z G FP H w) (ha:RV Z G w a y []) (h:hload P H t a K) :
  ∃v x H' G' FP',(do loadVar t (←asAddr y)).run P w=.ok v w∧K x H'∧RV Z G' w x v []∧HInv Z G' FP' H' w∧GLe G G'∧Evo Z FP w Z FP' w:=by
 have swap:∀{v:Value},(Instr.loadAt t y).run P w=.ok v w→(do loadVar t (←asAddr y)).run P w=.ok v w:=by
  intro v hv
  unfold Instr.loadAt at hv
  cases y with
  | pointer p=>cases p with
   | some ad=>simpa [Instr.sureAddr,asAddr] using hv
   | none=>simp[Instr.sureAddr] at hv
  | _=>simp[Instr.sureAddr] at hv
 unfold hload at h
 split at h
 ·rename_i x hx
  obtain ⟨hk,h⟩:=h
  split at h
  ·obtain ⟨v,h',h1,h2,h3⟩:=hloadP_run hx hk hi ha h
   exact ⟨v,h',H,G,FP,swap h1,h2,h3,hi,GLe.refl _,Evo.refl _ _ _⟩
  ·have:∃G' FP',HInv Z G' FP' (openAt x H a) w∧GLe G G'∧Evo Z FP w Z FP' w:=by
    unfold openAt
    split
    ·exact gopens_inv _ _ _ _ _ hi
    ·exact ⟨G,FP,hi,GLe.refl _,Evo.refl _ _ _⟩
   obtain ⟨G',FP',hi',hG,hE⟩:=this
   have ha':=RV.nil_keep (w':=w) (fun _ _=>rfl) (fun _ h=>h) hG ha
   obtain ⟨v,h',h1,h2,h3⟩:=hloadP_run hx hk hi' ha' h
   exact ⟨v,h',_,G',FP',swap h1,h2,h3,hi',hG,hE⟩
 ·exact h.elim
end
def retK (P:Program):List ResultVar→(Nat→HV)→Heap→(List HV→Heap→Prop)→Prop
 | [],_,H,K=>K [] H
 | .tmp i::r,T,H,K=>retK P r T H fun vs H'=>K (T i::vs) H'
 | .cell a t::r,T,H,K=>onR (rload P H t (T a)) fun x H1=>retK P r T H1 fun vs H'=>K (x::vs) H'
def retVs:List HV→HV
 | [x]=>x
 | l=>.tu l
def endC (P:Program) (rs:List ResultVar) (L:Nat) (Q:HV→Heap→Prop) (e:Exit) (T:Nat→HV) (H:Heap):Prop :=
 match e with
 | .normal=>retK P rs T H fun vs H'=>endP L Q (packV L (retVs vs) H')
 | .ret=>retK P rs T H fun vs H'=>endP L Q (packV L (retVs vs) H')
 | _=>False
def resTmp:ResultVar→Nat
 | .tmp i=>i
 | .cell a _=>a
section
variable {P:Program}
theorem run_retK {N:Nat} {tmps:Array Value} {Z:Nat→Prop} {w:World} {T:Nat→HV}:∀(rs:List ResultVar) (H:Heap) (K:List HV→Heap→Prop) (G:List (Option OG)) (FP:Nat→List Nat),retK P rs T H K→(∀r∈rs,resTmp r<N)→HInv Z G FP H w→(∀i,i<N→RV Z G w (T i) (tmps.getD i undef) [])→
  ∃vs ys H' G' FP',(rs.mapM (m:=Sem) fun r=>match r with
   | .tmp t=>pure (tmps.getD t undef)
   | .cell a t=>do loadVar t (←asAddr (tmps.getD a undef))).run P w=.ok ys w∧K vs H'∧RL Z G' w vs ys []∧vs.length=rs.length∧HInv Z G' FP' H' w∧GLe G G'∧Evo Z FP w Z FP' w
 | [],H,K,G,FP,h,_,hi,_=>⟨[],[],H,G,FP,by simp,h,by simp[RL],rfl,hi,GLe.refl _,Evo.refl _ _ _⟩
 | .tmp i::r,H,K,G,FP,h,hok,hi,hs=>by
  obtain ⟨vs,ys,H',G',FP',h1,h2,h3,h4,h5,h6,h7⟩:=run_retK r H _ G FP h (fun x hx=>hok x (by simp[hx])) hi hs
  refine ⟨T i::vs,tmps.getD i undef::ys,H',G',FP',?_,h2,?_,by simp[h4],h5,h6,h7⟩
  ·rw[List.mapM_cons]
   simp only[Sem.run_bind,Sem.run_pure,Result.andThen_ok,h1]
  ·simp only[RL]
   exact ⟨_,_,[],[],rfl,rfl,RV.nil_keep (fun _ _=>rfl) (fun _ h=>h) h6 (hs i (hok (.tmp i) (by simp))),h3⟩
 | .cell a t::r,H,K,G,FP,h,hok,hi,hs=>by
  obtain ⟨v,x,H1,G1,FP1,e1,e2,e3,e4,e5,e6⟩:=hload_run hi (hs a (hok (.cell a t) (by simp))) (rload_hload h)
  obtain ⟨vs,ys,H',G',FP',h1,h2,h3,h4,h5,h6,h7⟩:=run_retK r H1 _ G1 FP1 e2 (fun x hx=>hok x (by simp[hx])) e4 (fun i hi'=>RV.nil_keep (fun _ _=>rfl) (fun _ h=>h) e5 (hs i hi'))
  refine ⟨x::vs,v::ys,H',G',FP',?_,h2,?_,by simp[h4],h5,e5.trans h6,e6.trans h7⟩
  ·rw[List.mapM_cons]
   simp only[Sem.run_bind] at e1
   simp only[Sem.run_bind,e1,Sem.run_pure,Result.andThen_ok,h1]
  ·simp only[RL]
   exact ⟨_,_,[],[],rfl,rfl,RV.nil_keep (fun _ _=>rfl) (fun _ h=>h) h6 e3,h3⟩
theorem run_results {fn:Func} {rs:List ResultVar} {tmps:Array Value} {w:World} {ys:List Value} {vs:List HV} {Z:Nat→Prop} {G:List (Option OG)} (hres:fn.results.toList=rs) (h:(rs.mapM (m:=Sem) fun r=>match r with
   | .tmp t=>pure (tmps.getD t undef)
   | .cell a t=>do loadVar t (←asAddr (tmps.getD a undef))).run P w=.ok ys w) (hl:RL Z G w vs ys []):∃v,(results fn tmps).run P w=.ok v w∧RV Z G w (retVs vs) v []:=by
 have hrun:(fn.results.mapM (m:=Sem) fun r=>match r with
   | .tmp t=>pure (tmps.getD t undef)
   | .cell a t=>do loadVar t (←asAddr (tmps.getD a undef))).run P w=.ok ys.toArray w:=by
  rw[Array.mapM_eq_mapM_toList,hres]
  simp only[map_eq_pure_bind,Sem.run_bind,h,Result.andThen_ok,Sem.run_pure]
 unfold results
 simp only[Sem.run_bind]
 erw [hrun]
 simp only[Result.andThen_ok,Sem.run_pure]
 refine ⟨_,rfl,?_⟩
 have hlen:=RL_length _ _ _ hl
 unfold retVs
 split
 ·rename_i x
  simp only[RL] at hl
  obtain ⟨y,ys',f1,f2,rfl,hf,h1,h2,_⟩:=hl
  obtain ⟨rfl,rfl⟩:=List.append_eq_nil_iff.1 hf.symm
  subst h2
  simpa using h1
 ·rename_i hne
  split
  ·rename_i h1'
   exfalso
   have hl1:vs.length=1:=by rw[←hlen];simpa using h1'
   match vs,hl1,hne with
   | [i],_,hne=>exact hne i rfl
  ·simp only[RV]
   exact ⟨_,rfl,hl⟩
def fnOkC (fn:Func) (N:Nat) (rs:List ResultVar) (k:Nat):Bool:=!(fn.name == "runtime.NumGoroutine") && fn.ntmps == N && rs.all (fun r=>decide (resTmp r<N)) && Nat.ble k N
theorem HCalls_bodyC {f:FuncId} {fn:Func} {c:Code} {H:Heap} {args:List HV} {Q:HV→Heap→Prop} (N:Nat) (rs:List ResultVar) (hf:P.funcs[f]?=some fn) (hb:fn.body=some c) (hres:fn.results.toList=rs) (hok:fnOkC fn N rs args.length=true)
  (h:HW P N H.length c (endC P rs H.length Q) (T0 args) H):HCalls P f H args Q:=by
 simp only[fnOkC,Bool.and_eq_true,beq_iff_eq,Bool.not_eq_true'] at hok
 obtain ⟨⟨⟨hname,hNN⟩,hrlt⟩,hN0⟩:=hok
 subst hNN
 have hN:args.length≤fn.ntmps:=Nat.le_of_ble_eq_true hN0
 have hrlt:∀r∈rs,resTmp r<fn.ntmps:=fun i hi=>by simpa using List.all_eq_true.1 hrlt i hi
 have hne:¬fn.name = "runtime.NumGoroutine" :=by simpa using hname
 refine ⟨fun vals w=>by simp[callFunc,hf,hne,hb],fun Z G FP w vals hi ha=>?_⟩
 refine callsIn_wide.1 (callsIn_of_wp_marks (F:=Fence.wide) (n:=0) hf hb trivial ?_)
 have hlen:=RL_length _ _ _ ha
 have hsz:(vals.toArray++Array.replicate (fn.ntmps-vals.toArray.size) undef).size=fn.ntmps:=by simp;omega
 have hst:St fn.ntmps w.heap.size Z G FP [] (T0 args) H { tmps:=vals.toArray++Array.replicate (fn.ntmps-vals.toArray.size) undef,defers:=[] } w :=
  ⟨hi,hsz,T0_spec fn.ntmps ha,rfl,by simp,by simp⟩
 have hlenG:H.length=G.length:=hi.len.symm
 refine wpIn_mono (h none 0 w.heap.size Z G FP [] _ w ⟨Nat.le_refl _,by simp⟩ (by omega) hst) ?_
 rintro e a' w' ⟨T',H',Z',G',FP',ds',hend,hs',hG',hE'⟩
 have he:e=.normal∨e=.ret:=by cases e <;> simp[endC] at hend <;> simp
 have hend' : retK P rs T' H' fun vs H''=>endP H.length Q (packV H.length (retVs vs) H''):=by rcases he with rfl | rfl <;> exact hend
 have goal:LeavesInM Fence.wide 0 P fn a'.tmps (Post Z G FP H w Q) a'.defers .returning w':=by
  rw[hs'.defers]
  refine leaves_marks (ro:=none) ds' w' hs'.dsn (fun d hd=>(hs'.dsat d hd).2.1) ?_
  intro w2 ho ht hout hsz2 hk
  have hkeep:∀b,(Z' b∨∃id,b∈FP' id)→w2.heap[b]?=w'.heap[b]?:=by
   intro b hb
   refine hk b fun hc=>?_
   obtain ⟨_,_,h3,h4⟩:=hs'.dsat b hc
   rcases hb with hb | ⟨id,hb⟩
   ·exact h3 hb
   ·exact h4 id hb
  have hi2:HInv Z' G' FP' H' w2:=hs'.inv.keep (by omega) hkeep
  obtain ⟨vs,ys,H2,G2,FP2,r1,r2,r3,r4,hi3,hG2,hE3⟩:=run_retK rs H' _ G' FP' hend' hrlt hi2 (fun i hi'=>RV.nil_keep (fun b hb=>hkeep b (.inl hb)) (fun _ h=>h) (GLe.refl _) (hs'.tmps i hi'))
  obtain ⟨hnm,hQ⟩:=r2
  obtain ⟨v,hrun,hv⟩:=run_results (fn:=fn) hres r1 r3
  refine ⟨v,hrun,?_⟩
  obtain ⟨G3,FP3,fr,hp,hrv⟩:=packV_spec (L:=H.length) (retVs vs) G2 FP2 H2 v hi3 hv
  have hL3:H.length≤G3.length:=by have:=hp.le.len;have:=hG'.len;have:=hG2.len;omega
  have i4:=hp.inv.trunc H.length hnm
  have hE2:Evo Z FP w Z' FP2 w2:=by
   have:Evo Z FP w Z' FP' w2:=by
    refine ⟨ho.trans hE'.os,ht.trans hE'.tape,hout.trans hE'.output,by rw[hsz2];exact hE'.size,fun b hb hf=>?_,hE'.zle,hE'.znew,hE'.fnew⟩
    rw[hk b (fun hc=>by have:=(hs'.dsat b hc).1;omega)]
    exact hE'.keep b hb hf
   exact this.trans hE3
  refine ⟨v,_,_,Z',G3.take H.length,_,fr,rfl,hQ,?_,i4,hrv,hp.nodup,fun b hb=>?_,fun b hb=>?_,?_,?_⟩
  ·rw[List.length_take,←hp.inv.len];omega
  ·obtain ⟨⟨id,h1⟩,h2⟩:=hp.fr b hb
   refine ⟨hi3.zfp id b h1,hi3.flt id b h1,fun j hj=>?_⟩
   split at hj
   ·exact h2 j hj
   ·simp at hj
  ·obtain ⟨⟨id,h1⟩,h2⟩:=hp.fr b hb
   exact hE2.fnew id b h1
  ·refine ⟨by simp;omega,fun id hid=>?_⟩
   have hid' : id<H.length:=by omega
   rw[take_get hid']
   have hG3:GLt H.length G' G3:=GLt.of hG'.len (hG2.trans hp.le)
   exact (hG'.trans hG3).at_ id hid'
  ·refine ⟨hE2.os,hE2.tape,hE2.output,hE2.size,hE2.keep,hE2.zle,hE2.znew,fun id b hb=>?_⟩
   split at hb
   ·exact hE2.fnew id b (hp.fp id b hb)
   ·simp at hb
 rcases he with rfl | rfl <;> exact goal
end
section
variable {P:Program} {L:Nat} {T:Nat→HV} {H:Heap} {Q:HV→Heap→Prop} {K:List HV→Heap→Prop}
theorem endC_ret {rs:List ResultVar}:endC P rs L Q .ret T H=retK P rs T H fun vs H'=>endP L Q (packV L (retVs vs) H'):=rfl
theorem endC_normal {rs:List ResultVar}:endC P rs L Q .normal T H=retK P rs T H fun vs H'=>endP L Q (packV L (retVs vs) H'):=rfl
theorem retK_nil:retK P [] T H K=K [] H:=rfl
theorem retK_tmp {i:Nat} {r:List ResultVar}:retK P (.tmp i::r) T H K=retK P r T H fun vs H'=>K (T i::vs) H':=rfl
def retL (P:Program) (res:Res) (r:List ResultVar) (T:Nat→HV) (K:List HV→Heap→Prop):Prop:=onR res fun x H1=>retK P r T H1 fun vs H'=>K (x::vs) H'
theorem retK_cell {a:Nat} {t:TypeId} {r:List ResultVar}:retK P (.cell a t::r) T H K=retL P (rload P H t (T a)) r T K:=rfl
theorem retL_rv {p:Prop} {x:HV} {r:List ResultVar}:retL P (rv H p x) r T K=(p∧retK P r T H fun vs H'=>K (x::vs) H'):=rfl
theorem retL_some {p:Prop} {x:HV} {r:List ResultVar}:retL P (some (p,x,H)) r T K=(p∧retK P r T H fun vs H'=>K (x::vs) H'):=rfl
theorem retL_congr {res res' : Res} {r:List ResultVar} (h:res=res'):retL P res r T K=retL P res' r T K:=by rw[h]
theorem retVs_one {x:HV}:retVs [x]=x:=rfl
theorem retVs_more {x y:HV} {l:List HV}:retVs (x::y::l)=.tu (x::y::l):=rfl
end
attribute [congr] retL_congr
attribute [go_sem] retK_nil retK_tmp retK_cell retL_rv retL_some retVs_one retVs_more
attribute [go_sem] Int.toNat_zero Int.toNat_one
attribute [go_sem ↓] endC_ret endC_normal
end Go.Proofs.YtmapdjdnnhlpiaaGreatDoor
namespace Go.Proofs.YtmapdjdnnhlpiaaGreatDoor
open Go
def dig (d:Nat):UInt8:=UInt8.ofNat (48+d % 10)
theorem dig_toNat (d:Nat):(dig d).toNat=48+d % 10:=by
 unfold dig
 rw[UInt8.toNat_ofNat']
 omega
def dB (m:Nat):List UInt8:=if h:m<10 then [dig m] else dB (m / 10)++[dig m]
termination_by m
decreasing_by omega
theorem dB_lt {m:Nat} (h:m<10):dB m=[dig m]:=by rw[dB,dif_pos h]
theorem dB_ge {m:Nat} (h:10≤m):dB m=dB (m / 10)++[dig m]:=by rw[dB,dif_neg (by omega)]
def textB (n:Int):List UInt8:=if n<0 then 45::dB n.natAbs else dB n.natAbs
def isDig (c:UInt8):Bool:=decide (48≤c.toNat) && decide (c.toNat≤57)
theorem isDig_dig (d:Nat):isDig (dig d)=true:=by
 simp only[isDig,dig_toNat,Bool.and_eq_true,decide_eq_true_eq];omega
def dstep (acc:Nat) (c:UInt8):Nat:=acc*10+(c.toNat-48)
def dval (acc:Nat) (l:List UInt8):Nat:=l.foldl dstep acc
theorem dval_nil (a:Nat):dval a []=a:=rfl
theorem dval_cons (a:Nat) (c:UInt8) (r:List UInt8):dval a (c::r)=dval (a*10+(c.toNat-48)) r:=by
 unfold dval;rw[List.foldl_cons];rfl
theorem dval_snoc (c:UInt8):∀(l:List UInt8) (acc:Nat),dval acc (l++[c])=dval acc l*10+(c.toNat-48)
 | [],acc=>by rw[List.nil_append,dval_cons,dval_nil,dval_nil]
 | x::l,acc=>by rw[List.cons_append,dval_cons,dval_cons,dval_snoc c l]
theorem dval_ge:∀(l:List UInt8) (a:Nat),a≤dval a l
 | [],a=>Nat.le_refl _
 | x::l,a=>by rw[dval_cons];exact Nat.le_trans (by omega) (dval_ge l (a*10+(x.toNat-48)))
def canonB (l:List UInt8):Bool:=!l.isEmpty && l.all isDig && (decide (l=[48]) || decide (l.head?≠some 48))
theorem dval_dB (m:Nat):dval 0 (dB m)=m:=by
 induction m using Nat.strongRecOn with
 | _ m ih =>
  by_cases h:m<10
  ·rw[dB_lt h,dval_cons,dval_nil,dig_toNat];omega
  ·rw[dB_ge (by omega),dval_snoc,ih (m / 10) (by omega),dig_toNat];omega
theorem dB_ne (m:Nat):dB m≠[]:=by
 by_cases h:m<10
 ·rw[dB_lt h];simp
 ·rw[dB_ge (by omega)];simp
theorem dB_digs (m:Nat):(dB m).all isDig=true:=by
 induction m using Nat.strongRecOn with
 | _ m ih =>
  by_cases h:m<10
  ·rw[dB_lt h];simp[isDig_dig]
  ·rw[dB_ge (by omega)];simp[ih (m / 10) (by omega),isDig_dig]
theorem dB_head (m:Nat) (hm:m≠0):(dB m).head?≠some 48:=by
 induction m using Nat.strongRecOn with
 | _ m ih =>
  by_cases h:m<10
  ·rw[dB_lt h]
   simp only[List.head?_cons,ne_eq,Option.some.injEq]
   intro hc
   have:=congrArg UInt8.toNat hc
   rw[dig_toNat] at this
   have e:(48:UInt8).toNat=48:=rfl
   omega
  ·rw[dB_ge (by omega)]
   have:=ih (m / 10) (by omega) (by omega)
   cases hd:dB (m / 10) with
   | nil=>exact absurd hd (dB_ne _)
   | cons x l=>rw[hd] at this;simpa using this
theorem dB_canon (m:Nat):canonB (dB m)=true:=by
 unfold canonB
 have h1:=dB_digs m
 have h2:=dB_ne m
 by_cases hm:m=0
 ·subst hm;rw[dB_lt (by omega)] at *;decide
 ·have h3:=dB_head m hm
  simp only[Bool.and_eq_true,Bool.not_eq_true',List.isEmpty_eq_false_iff,Bool.or_eq_true,decide_eq_true_eq]
  exact ⟨⟨h2,h1⟩,.inr h3⟩
def inI (n:Int):Prop:= -9223372036854775808≤n∧n<9223372036854775808
instance (n:Int):Decidable (inI n):=by unfold inI;infer_instance
def numB (s:List UInt8):Int×Bool :=
 match s with
 | 45::r=>if canonB r=true∧r≠[48]∧dval 0 r≤9223372036854775808 then (-(dval 0 r:Int),true) else (0,false)
 | s=>if canonB s=true∧dval 0 s<9223372036854775808 then ((dval 0 s:Int),true) else (0,false)
theorem numB_neg (r:List UInt8):numB (45::r)=if canonB r=true∧r≠[48]∧dval 0 r≤9223372036854775808 then (-(dval 0 r:Int),true) else (0,false):=rfl
theorem numB_pos {s:List UInt8} (h:s.head?≠some 45):numB s=if canonB s=true∧dval 0 s<9223372036854775808 then ((dval 0 s:Int),true) else (0,false):=by
 unfold numB
 split
 ·simp at h
 ·rfl
theorem dB_head45 (m:Nat):(dB m).head?≠some 45:=by
 intro h
 have h1:=dB_digs m
 cases hd:dB m with
 | nil=>exact dB_ne m hd
 | cons x l =>
  rw[hd] at h h1
  simp only[List.head?_cons,Option.some.injEq] at h
  subst h
  simp[isDig] at h1
theorem numB_text {n:Int} (h:inI n):numB (textB n)=(n,true):=by
 unfold inI at h
 unfold textB
 split
 ·rw[numB_neg,dval_dB,dB_canon,if_pos]
  ·congr 1;omega
  ·refine ⟨rfl,fun hc=>?_,by omega⟩
   have:=congrArg (dval 0) hc
   rw[dval_dB] at this
   have e:dval 0 [48]=0:=rfl
   omega
 ·rw[numB_pos (dB_head45 _),dval_dB,dB_canon,if_pos ⟨rfl,by omega⟩]
  congr 1;omega
theorem textB_ne (n:Int):textB n≠[]:=by
 unfold textB;split
 ·simp
 ·exact dB_ne _
theorem dB_length (m:Nat):∀k,m<10 ^ k→1≤k→(dB m).length≤k:=by
 induction m using Nat.strongRecOn with
 | _ m ih =>
  intro k hk h1
  by_cases h:m<10
  ·rw[dB_lt h];simpa using h1
  ·rw[dB_ge (by omega)]
   obtain ⟨k',rfl⟩:∃k',k=k'+1:=⟨k-1,by omega⟩
   have h2:1≤k':=by
    rcases Nat.eq_zero_or_pos k' with e | e
    ·subst e;simp at hk;omega
    ·exact e
   have:=ih (m / 10) (by omega) k' (by rw[Nat.pow_succ] at hk;omega) h2
   simpa using this
theorem textB_length {n:Int} (h:inI n):(textB n).length≤20:=by
 unfold inI at h
 have:=dB_length n.natAbs 19 (by omega) (by omega)
 unfold textB
 split <;> simp <;> omega
end Go.Proofs.YtmapdjdnnhlpiaaGreatDoor
namespace Go.Proofs.YtmapdjdnnhlpiaaGreatDoor
open Go
theorem pu_ok:∀(l:List UInt8) (acc u:Nat),Lib.parseUint10 acc l=.ok u→l.all isDig=true∧u=dval acc l
 | [],acc,u,h=>by
  simp only[Lib.parseUint10] at h
  injection h with h
  exact ⟨rfl,h.symm⟩
 | c::r,acc,u,h=>by
  simp only[Lib.parseUint10] at h
  split at h
  ·rename_i hc
   split at h
   ·cases h
   ·split at h
    ·cases h
    ·obtain ⟨h1,h2⟩:=pu_ok r _ u h
     refine ⟨?_,by rw[dval_cons];exact h2⟩
     simp only[List.all_cons,h1,Bool.and_true,isDig,Bool.and_eq_true,decide_eq_true_eq]
     exact hc
  ·cases h
theorem pu_digs:∀(l:List UInt8) (acc:Nat),l.all isDig=true→dval acc l<18446744073709551616→Lib.parseUint10 acc l=.ok (dval acc l)
 | [],acc,_,_=>rfl
 | c::r,acc,h,hd=>by
  simp only[List.all_cons,Bool.and_eq_true] at h
  obtain ⟨hc,hr⟩:=h
  simp only[isDig,Bool.and_eq_true,decide_eq_true_eq] at hc
  rw[dval_cons] at hd⊢
  have:=dval_ge r (acc*10+(c.toNat-48))
  simp only[Lib.parseUint10]
  rw[if_pos hc,if_neg (by omega),if_neg (by omega)]
  exact pu_digs r _ hr hd
def shapeB:List UInt8→Bool
 | 45::c::r=>decide (c≠48) && (c::r).all isDig
 | s=>canonB s
theorem shapeB_neg (c:UInt8) (r:List UInt8):shapeB (45::c::r)=(decide (c≠48) && (c::r).all isDig):=rfl
theorem shapeB_pos {s:List UInt8} (h:s.head?≠some 45):shapeB s=canonB s:=by
 unfold shapeB
 split
 ·simp at h
 ·rfl
theorem canonB_digs {l:List UInt8} (h:canonB l=true):l.all isDig=true∧l≠[]:=by
 simp only[canonB,Bool.and_eq_true,Bool.not_eq_true',List.isEmpty_eq_false_iff] at h
 exact ⟨h.1.2,h.1.1⟩
theorem canonB_cons {c:UInt8} {r:List UInt8} (h:(c::r).all isDig=true):(canonB (c::r)=true∧c::r≠[48])↔c≠48:=by
 simp only[canonB,h,Bool.and_true,Bool.and_eq_true,Bool.or_eq_true,decide_eq_true_eq,List.isEmpty_cons,Bool.not_false,true_and,List.head?_cons,ne_eq,Option.some.injEq]
 constructor
 ·rintro ⟨h1 | h1,h2⟩
  ·exact absurd h1 h2
  ·exact h1
 ·intro h1
  refine ⟨.inr h1,fun h2=>h1 ?_⟩
  injection h2
def numOf (s:List UInt8):Lib.NumEnd Int→Int×Bool
 | .ok v=>if shapeB s=true then (v,true) else (0,false)
 | Lib.NumEnd.syntax=>(0,false)
 | .range=>(0,false)
def negOf:Lib.NumEnd Nat→Lib.NumEnd Int
 | .ok u=>if 9223372036854775808<u then .range else .ok (-(u:Int))
 | Lib.NumEnd.syntax=>Lib.NumEnd.syntax
 | .range=>.range
def posOf:Lib.NumEnd Nat→Lib.NumEnd Int
 | .ok u=>if 9223372036854775808≤u then .range else .ok (u:Int)
 | Lib.NumEnd.syntax=>Lib.NumEnd.syntax
 | .range=>.range
theorem atoi_neg (r:List UInt8):Lib.atoiAll (45::r)=negOf (Lib.parseMag r):=by
 have h45:(45:UInt8).toNat=45:=rfl
 unfold Lib.atoiAll
 simp only[h45,or_true,if_true,not_true_eq_false,false_and,if_false,true_and]
 cases Lib.parseMag r <;> rfl
theorem atoi_pos {x:UInt8} {r:List UInt8} (h1:x.toNat≠45) (h2:x.toNat≠43):Lib.atoiAll (x::r)=posOf (Lib.parseMag (x::r)):=by
 unfold Lib.atoiAll
 simp only[h1,h2,or_self,if_false,not_false_eq_true,true_and,false_and]
 cases Lib.parseMag (x::r) <;> rfl
theorem mag_cons (x:UInt8) (r:List UInt8):Lib.parseMag (x::r)=Lib.parseUint10 0 (x::r):=by
 unfold Lib.parseMag
 rw[if_neg (by simp)]
theorem atoi_num (s:List UInt8):numB s=numOf s (Lib.atoiAll s):=by
 cases s with
 | nil=>rfl
 | cons x r =>
  by_cases hx:x=45
  ·subst hx
   rw[numB_neg,atoi_neg]
   cases r with
   | nil =>
    rw[if_neg (fun h=>by have:=h.1;simp[canonB] at this)]
    rfl
   | cons c r =>
    rw[mag_cons]
    cases hp:Lib.parseUint10 0 (c::r) with
    | ok u =>
     obtain ⟨h1,rfl⟩:=pu_ok _ _ _ hp
     simp only[negOf]
     by_cases hu:9223372036854775808<dval 0 (c::r)
     ·rw[if_pos hu,if_neg (fun h=>by omega)];rfl
     ·rw[if_neg hu]
      simp only[numOf]
      rw[shapeB_neg,h1]
      have:=canonB_cons h1
      by_cases hc:c=48
      ·rw[if_neg (fun h=>this.1 ⟨h.1,h.2.1⟩ hc),if_neg (by simp[hc])]
      ·obtain ⟨h2,h3⟩:=this.2 hc
       rw[if_pos ⟨h2,h3,by omega⟩,if_pos (by simp[hc])]
    | range =>
     simp only[negOf,numOf]
     rw[if_neg]
     rintro ⟨h1,h2,h3⟩
     rw[pu_digs _ 0 (canonB_digs h1).1 (by omega)] at hp
     cases hp
    | _ =>
     simp only[negOf,numOf]
     rw[if_neg]
     rintro ⟨h1,h2,h3⟩
     rw[pu_digs _ 0 (canonB_digs h1).1 (by omega)] at hp
     cases hp
  ·have hh:(x::r).head?≠some 45:=by simpa using hx
   have hxn:x.toNat≠45:=fun h=>hx (UInt8.toNat_inj.1 h)
   rw[numB_pos hh]
   by_cases hp43:x=43
   ·subst hp43
    have:canonB (43::r)=false:=by
     cases hc:canonB (43::r) with
     | false=>rfl
     | true =>
      have:=(canonB_digs hc).1
      simp[isDig] at this
    have h2:shapeB (43::r)=false:=by rw[shapeB_pos hh];exact this
    rw[this,if_neg (by simp)]
    cases Lib.atoiAll (43::r) <;> simp[numOf,h2]
   ·have hx43:x.toNat≠43:=fun h=>hp43 (UInt8.toNat_inj.1 h)
    rw[atoi_pos hxn hx43,mag_cons]
    cases hp:Lib.parseUint10 0 (x::r) with
    | ok u =>
     obtain ⟨h1,rfl⟩:=pu_ok _ _ _ hp
     simp only[posOf]
     by_cases hu:9223372036854775808≤dval 0 (x::r)
     ·rw[if_pos hu,if_neg (fun h=>by omega)];rfl
     ·rw[if_neg hu]
      simp only[numOf]
      rw[shapeB_pos hh]
      by_cases hc:canonB (x::r)=true
      ·rw[if_pos ⟨hc,by omega⟩,if_pos hc]
      ·rw[if_neg (fun h=>hc h.1),if_neg hc]
    | range =>
     simp only[posOf,numOf]
     rw[if_neg]
     rintro ⟨h1,h3⟩
     rw[pu_digs _ 0 (canonB_digs h1).1 (by omega)] at hp
     cases hp
    | _ =>
     simp only[posOf,numOf]
     rw[if_neg]
     rintro ⟨h1,h3⟩
     rw[pu_digs _ 0 (canonB_digs h1).1 (by omega)] at hp
     cases hp
def Dig (n:Int) (j:Nat) (k:Int) (ds:List UInt8):Prop :=
 ds.length=j∧(k≠0→dB n.natAbs=dB k.natAbs++ds)∧(k=0→1≤j→dB n.natAbs=ds)∧(j=0→k=n)∧k.natAbs=n.natAbs / 10 ^ j∧(0≤n→0≤k)∧(n≤0→k≤0)
theorem Dig.zero (n:Int):Dig n 0 n []:=⟨rfl,fun _=>by simp,fun _ h=>by omega,fun _=>rfl,by simp,id,id⟩
theorem Dig.step {n k:Int} {j:Nat} {ds:List UInt8} (h:Dig n j k ds) (hk:k≠0∨j=0):Dig n (j+1) (k.tdiv 10) (dig k.natAbs::ds):=by
 obtain ⟨h1,h2,h3,h4,h5,h6,h7⟩:=h
 have ht:(k.tdiv 10).natAbs=k.natAbs / 10:=by rw[Int.natAbs_tdiv];rfl
 have hsgn1:0≤k→0≤k.tdiv 10:=fun h=>Int.tdiv_nonneg h (by omega)
 have hsgn2:k≤0→k.tdiv 10≤0:=fun h=>by
  have:=Int.neg_tdiv (a:=k) (b:=10)
  have h3:=Int.tdiv_nonneg (a:= -k) (b:=10) (by omega) (by omega)
  omega
 have hd:k≠0→dB n.natAbs=dB k.natAbs++ds:=h2
 refine ⟨by simp[h1],fun hk2=>?_,fun hk2 _=>?_,fun h=>by omega,?_,fun h=>hsgn1 (h6 h),fun h=>hsgn2 (h7 h)⟩
 ·have hk0:k≠0:=by rintro rfl;simp at hk2
  have h10:10≤k.natAbs:=by
   have:(k.tdiv 10).natAbs≠0:=by omega
   omega
  rw[hd hk0,dB_ge h10,ht]
  simp
 ·have h10:k.natAbs<10:=by
   have:(k.tdiv 10).natAbs=0:=by rw[hk2];rfl
   omega
  by_cases hk0:k=0
  ·rcases hk with hk | hk
   ·exact absurd hk0 hk
   ·subst hk
    have hn:=h4 rfl
    subst hn
    have:ds=[]:=List.eq_nil_of_length_eq_zero h1
    subst this
    rw[dB_lt h10]
  ·rw[hd hk0,dB_lt h10];rfl
 ·rw[ht,h5,Nat.div_div_eq_div_mul,Nat.pow_succ]
theorem Dig.room {n k:Int} {j:Nat} {ds:List UInt8} (h:Dig n j k ds) (hn:inI n) (hk:k≠0):j≤18:=by
 obtain ⟨h1,h2,h3,h4,h5,h6,h7⟩:=h
 unfold inI at hn
 have hp:10 ^ j≤n.natAbs:=by
  have h9:n.natAbs / 10 ^ j≠0:=by omega
  rcases Nat.lt_or_ge n.natAbs (10 ^ j) with h | h
  ·exact absurd (Nat.div_eq_of_lt h) h9
  ·exact h
 rcases Nat.lt_or_ge 18 j with h | h
 ·have:10 ^ 19≤10 ^ j:=Nat.pow_le_pow_right (by omega) (by omega)
  omega
 ·exact h
theorem Dig.room0 {n k:Int} {j:Nat} {ds:List UInt8} (h:Dig n j k ds) (hn:inI n) (hj:1≤j) (hk:k=0):j≤19∧dB n.natAbs=ds:=by
 obtain ⟨h1,h2,h3,h4,h5,h6,h7⟩:=h
 have e:=h3 hk hj
 unfold inI at hn
 have:=dB_length n.natAbs 19 (by omega) (by omega)
 rw[e,h1] at this
 exact ⟨this,e⟩
end Go.Proofs.YtmapdjdnnhlpiaaGreatDoor
namespace Go.Proofs.YtmapdjdnnhlpiaaGreatDoor
open Go.RowKit
set_option maxRecDepth 8000
theorem Dig.tdiv {n k:Int} {j:Nat} {ds:List UInt8} (h:Dig n j k ds) (hn:inI n):IntKind.i64.wrap (k.tdiv 10)=k.tdiv 10:=by
 obtain ⟨h1,h2,h3,h4,h5,h6,h7⟩:=h
 unfold inI at hn
 have h8:k.natAbs≤n.natAbs:=by rw[h5];exact Nat.div_le_self _ _
 have ht:(k.tdiv 10).natAbs=k.natAbs / 10:=by rw[Int.natAbs_tdiv];rfl
 exact w64 (by omega) (by omega)
end Go.Proofs.YtmapdjdnnhlpiaaGreatDoor
namespace Go.Proofs.YtmapdjdnnhlpiaaGreatDoor
open Go.RowKit
set_option maxRecDepth 8000
theorem textB_zero:textB 0=[48]:=by
 unfold textB
 rw[if_neg (by omega),dB_lt (by decide)]
 rfl
theorem tmod_bd (k:Int):-9≤k.tmod 10∧k.tmod 10≤9:=by
 have:=Int.tmod_lt_of_pos k (b:=10) (by omega)
 have h2:=Int.lt_tmod_of_pos k (b:=10) (by omega)
 omega
theorem tmod_abs (k:Int):(k.tmod 10).natAbs=k.natAbs % 10:=by rw[Int.natAbs_tmod];rfl
theorem dig_neg {k:Int} (h:k.tmod 10<0):UInt8.ofNat (IntKind.u8.wrap (IntKind.i64.wrap (48+IntKind.i64.wrap (0-k.tmod 10)))).toNat=dig k.natAbs:=by
 have h1:=tmod_bd k
 have h2:=tmod_abs k
 rw[w64 (x:=0-k.tmod 10) (by omega) (by omega),w64 (by omega) (by omega),w8 (by omega) (by omega)]
 unfold dig
 congr 1
 omega
theorem dig_pos {k:Int} (h:¬k.tmod 10<0):UInt8.ofNat (IntKind.u8.wrap (IntKind.i64.wrap (48+k.tmod 10))).toNat=dig k.natAbs:=by
 have h1:=tmod_bd k
 have h2:=tmod_abs k
 rw[w64 (by omega) (by omega),w8 (by omega) (by omega)]
 unfold dig
 congr 1
 omega
theorem refText (n:Int) (hn:inI n):HFn Tryz.prog 47 [.v (.int .i64 n)] (.v (str (textB n))):=by
 refine HCalls_body (fn:=Tryz.f47) 31 [2] (by kernel_rfl) rfl (by kernel_rfl) (HW.run 400 (by kernel_rfl) ?_)
 by_cases hn0:n=0
 ·subst hn0
  simp (config:={ decide:=true }) only[go_sem,Int.reduceToNat,Nat.reduceAdd,Nat.reduceSub,Nat.reduceMul,Nat.reduceBEq,reduceIte,reduceCtorEq]
  rw[textB_zero]
 simp (config:={ decide:=true }) only[go_sem,Int.reduceToNat,Nat.reduceAdd,Nat.reduceSub,Nat.reduceMul,Nat.reduceBEq,reduceIte,reduceCtorEq,hn0]
 refine HW.loopG (fun μ T H=>∃(j:Nat) (k:Int) (ds:List UInt8),μ=21-j∧j≤19∧Dig n j k ds∧T 0=.v (.int .i64 n)∧T 3=.v (str ds)∧T 4=.v (.int .i64 k)∧H=[]) 21
  ⟨_,_,Ghost.refl,0,n,[],by simp,by omega,Dig.zero n,rfl,rfl,rfl,rfl⟩ ?_
 rintro μ T H ⟨j,k,ds,rfl,hj,hD,h0,h3,h4,rfl⟩
 refine HW.run 200 (by kernel_rfl) ?_
 have e4:=hD.tdiv hn
 have hlen:=hD.1
 by_cases hk:k=0
 ·subst hk
  by_cases hneg:n<0
  ·simp (config:={ decide:=true }) only[go_sem,Int.reduceToNat,Nat.reduceAdd,Nat.reduceSub,Nat.reduceMul,Nat.reduceBEq,reduceIte,reduceCtorEq,h0,h3,h4,hneg]
   have hj1:1≤j:=by
    rcases Nat.eq_zero_or_pos j with h | h
    ·exact absurd (hD.2.2.2.1 h).symm hn0
    ·exact h
   obtain ⟨_,hd⟩:=hD.room0 hn hj1 rfl
   refine ⟨by omega,?_⟩
   unfold textB
   rw[if_pos hneg,hd]
  ·simp (config:={ decide:=true }) only[go_sem,Int.reduceToNat,Nat.reduceAdd,Nat.reduceSub,Nat.reduceMul,Nat.reduceBEq,reduceIte,reduceCtorEq,h0,h3,h4,hneg]
   have hj1:1≤j:=by
    rcases Nat.eq_zero_or_pos j with h | h
    ·exact absurd (hD.2.2.2.1 h).symm hn0
    ·exact h
   obtain ⟨_,hd⟩:=hD.room0 hn hj1 rfl
   unfold textB
   rw[if_neg hneg,hd]
 ·have hj2:=hD.room hn hk
  have hD':=hD.step (.inl hk)
  by_cases hd:k.tmod 10<0
  ·simp (config:={ decide:=true }) only[go_sem,Int.reduceToNat,Nat.reduceAdd,Nat.reduceSub,Nat.reduceMul,Nat.reduceBEq,reduceIte,reduceCtorEq,h0,h3,h4,hk,hd,e4,dig_neg hd]
   repeat (with_reducible refine And.intro ?_ ?_;·(with_reducible and_intros) <;> omega)
   refine ⟨_,_,Ghost.trunc [0,3,4] 0 (by omega) ?_ ?_,21-(j+1),by omega,j+1,_,_,rfl,by omega,hD',?_,?_,?_,?_⟩
   ·simp (config:={ decide:=true }) only[go_sem,Nat.reduceBEq,reduceIte,h0]
   ·simp (config:={ decide:=true }) only[go_sem,Nat.reduceBEq,reduceIte]
   ·simp (config:={ decide:=true }) only[go_sem,Nat.reduceBEq,reduceIte,h0]
   ·simp (config:={ decide:=true }) only[go_sem,Nat.reduceBEq,reduceIte]
   ·simp (config:={ decide:=true }) only[go_sem,Nat.reduceBEq,reduceIte]
   ·rfl
  ·simp (config:={ decide:=true }) only[go_sem,Int.reduceToNat,Nat.reduceAdd,Nat.reduceSub,Nat.reduceMul,Nat.reduceBEq,reduceIte,reduceCtorEq,h0,h3,h4,hk,hd,e4,dig_pos hd]
   repeat (with_reducible refine And.intro ?_ ?_;·(with_reducible and_intros) <;> omega)
   refine ⟨_,_,Ghost.trunc [0,3,4] 0 (by omega) ?_ ?_,21-(j+1),by omega,j+1,_,_,rfl,by omega,hD',?_,?_,?_,?_⟩
   ·simp (config:={ decide:=true }) only[go_sem,Nat.reduceBEq,reduceIte,h0]
   ·simp (config:={ decide:=true }) only[go_sem,Nat.reduceBEq,reduceIte]
   ·simp (config:={ decide:=true }) only[go_sem,Nat.reduceBEq,reduceIte,h0]
   ·simp (config:={ decide:=true }) only[go_sem,Nat.reduceBEq,reduceIte]
   ·simp (config:={ decide:=true }) only[go_sem,Nat.reduceBEq,reduceIte]
   ·rfl
theorem byte_45 {b:UInt8}:((b.toNat:Int)=45)=(b=45):=by
 have:((45:UInt8).toNat:Int)=45:=rfl
 rw[←this,byteEq]
end Go.Proofs.YtmapdjdnnhlpiaaGreatDoor
namespace Go.Proofs.YtmapdjdnnhlpiaaGreatDoor
open Go.RowKit
set_option maxRecDepth 8000
theorem shape_in {x:UInt8} {r:List UInt8} (hF:(x=45∧∃c r',r=c::r'∧c≠48)∨(isDig x=true∧x≠48)):shapeB (x::r)=r.all isDig:=by
 rcases hF with ⟨rfl,c,r',rfl,hc⟩ | ⟨h1,h2⟩
 ·rw[shapeB_neg];simp[hc]
 ·have hx:(x::r).head?≠some 45:=by
   intro h
   simp only[List.head?_cons,Option.some.injEq] at h
   subst h
   simp[isDig] at h1
  rw[shapeB_pos hx]
  simp[canonB,h1,h2]
theorem RowsLen_bytes {l:List UInt8}:RowsLen (l.map byteRow) 1=True:=by
 simp only[RowsLen,List.mem_map,eq_iff_iff,iff_true]
 rintro r ⟨b,_,rfl⟩;rfl
theorem byte_48 {b:UInt8}:((b.toNat:Int)=48)=(b=48):=by
 have:((48:UInt8).toNat:Int)=48:=rfl
 rw[←this,byteEq]
theorem numShape (s:List UInt8) (hs:s.length≤1000000):HFn Tryz.prog 71 [.v (str s)] (.v (.bool (shapeB s))):=by
 refine HCalls_body (fn:=Tryz.f71) 48 [2] (by kernel_rfl) rfl (by kernel_rfl) (HW.run 400 (by kernel_rfl) ?_)
 simp (config:={ decide:=true }) only[go_sem,Int.reduceToNat,Nat.reduceAdd,Nat.reduceSub,Nat.reduceMul,Nat.reduceBEq,reduceIte,reduceCtorEq]
 refine ⟨by omega,?_⟩
 refine HW.loopG (fun μ T H=>∃(i:Nat),μ=s.length-i∧i≤s.length∧(1≤i→∃x r,s=x::r∧((x=45∧∃c r',r=c::r'∧c≠48)∨(isDig x=true∧x≠48))∧(r.take (i-1)).all isDig=true)∧
  T 0=.v (str s)∧T 6=.sl (s.map byteRow)∧T 7=.v (.int .i64 s.length)∧T 8=.v (.int .i64 i)∧H=[]) s.length
  ⟨_,_,Ghost.refl,0,rfl,by omega,by omega,rfl,rfl,?_,rfl,rfl⟩ ?_
 ·simp (config:={ decide:=true }) only[go_sem,Nat.reduceBEq,reduceIte,List.length_map]
 rintro μ T H ⟨i,rfl,hi,hI,h0,h6,h7,h8,rfl⟩
 refine HW.run 400 (by kernel_rfl) ?_
 by_cases hlt:i<s.length
 ·have hlt' : (i:Int)<(s.length:Int):=by omega
  have hx:s[i]?=some s[i]:=List.getElem?_eq_getElem hlt
  have hxm:(s.map byteRow)[i]?=some [.v (.int .u8 (s[i].toNat:Int))]:=by rw[List.getElem?_map,hx];rfl
  have next:∀T' : Nat→HV,T' 0=.v (str s)→T' 6=.sl (s.map byteRow)→T' 7=.v (.int .i64 s.length)→T' 8=.v (.int .i64 (IntKind.i64.wrap ((i:Int)+1)))→
    (∃x r,s=x::r∧((x=45∧∃c r',r=c::r'∧c≠48)∨(isDig x=true∧x≠48))∧(r.take i).all isDig=true)→
    GQ 48 0 (fun T' H'=>∃k',k' < s.length-i∧∃i,k'=s.length-i∧i≤s.length∧(1≤i→∃x r,s=x::r∧((x=45∧∃c r',r=c::r'∧c≠48)∨(isDig x=true∧x≠48))∧(r.take (i-1)).all isDig=true)∧
     T' 0=.v (str s)∧T' 6=.sl (s.map byteRow)∧T' 7=.v (.int .i64 s.length)∧T' 8=.v (.int .i64 i)∧H'=[]) T' []:=by
   intro T' g0 g6 g7 g8 hJ
   refine ⟨_,_,Ghost.refl,s.length-(i+1),by omega,i+1,rfl,by omega,fun _=>by simpa using hJ,g0,g6,g7,?_,rfl⟩
   rw[g8,w64 (by omega) (by omega)];rfl
  rcases Nat.eq_zero_or_pos i with hi0 | hi1
  ·
   subst hi0
   obtain ⟨x,r,he⟩:∃x r,s=x::r:=by
    cases s with
    | nil=>simp at hlt
    | cons x r=>exact ⟨x,r,rfl⟩
   have ex:s[0]=x:=by simp[he]
   rw[ex] at hxm hx
   have c0:((0:Nat):Int)=0:=rfl
   have hlt0:(0:Int)<(s.length:Int):=hlt'
   by_cases h45:x=45
   ·have b45:((x.toNat:Int)=45)=True:=by rw[byte_45];simp[h45]
    have b48:((x.toNat:Int)=48)=False:=by rw[byte_48,h45];simp
    have bge:((48:Int)≤(x.toNat:Int))=False:=by rw[h45];simp
    cases hr:r with
    | nil =>
     have hl1:((1:Int)<(s.length:Int))=False:=by rw[he,hr];simp
     simp (config:={ decide:=true }) only[go_sem,Int.reduceToNat,Nat.reduceAdd,Nat.reduceSub,Nat.reduceMul,Nat.reduceBEq,reduceIte,reduceCtorEq,h0,h6,h7,h8,hlt0,hxm,hx,c0,b45,b48,bge,hl1,RowsLen_bytes,List.length_map]
     rw[he,hr,h45];rfl
    | cons c r' =>
     have hl1:((1:Int)<(s.length:Int))=True:=by rw[he,hr];simp;omega
     have h1x:s[1]?=some c:=by rw[he,hr];rfl
     by_cases hc:c=48
     ·have d48:((c.toNat:Int)=48)=True:=by rw[byte_48];simp[hc]
      simp (config:={ decide:=true }) only[go_sem,Int.reduceToNat,Nat.reduceAdd,Nat.reduceSub,Nat.reduceMul,Nat.reduceBEq,reduceIte,reduceCtorEq,h0,h6,h7,h8,hlt0,hxm,hx,c0,b45,b48,bge,hl1,h1x,d48,RowsLen_bytes,List.length_map]
      rw[he,hr,h45,hc];rfl
     ·have d48:((c.toNat:Int)=48)=False:=by rw[byte_48];simp[hc]
      simp (config:={ decide:=true }) only[go_sem,Int.reduceToNat,Nat.reduceAdd,Nat.reduceSub,Nat.reduceMul,Nat.reduceBEq,reduceIte,reduceCtorEq,h0,h6,h7,h8,hlt0,hxm,hx,c0,b45,b48,bge,hl1,h1x,d48,RowsLen_bytes,List.length_map]
      refine next _ ?_ ?_ ?_ ?_ ⟨x,r,he,.inl ⟨h45,c,r',hr,hc⟩,by simp⟩
      all_goals simp (config:={ decide:=true }) only[go_sem,Nat.reduceBEq,reduceIte,h0,h6,h7,c0]
   ·have b45:((x.toNat:Int)=45)=False:=by rw[byte_45];simp[h45]
    by_cases h48:x=48
    ·have b48:((x.toNat:Int)=48)=True:=by rw[byte_48];simp[h48]
     simp (config:={ decide:=true }) only[go_sem,Int.reduceToNat,Nat.reduceAdd,Nat.reduceSub,Nat.reduceMul,Nat.reduceBEq,reduceIte,reduceCtorEq,h0,h6,h7,h8,hlt0,hxm,hx,c0,b45,b48,RowsLen_bytes,List.length_map]
     have:shapeB s=decide ((s.length:Int)=1):=by
      rw[he,h48]
      cases r with
      | nil=>rfl
      | cons c r' =>
       rw[shapeB_pos (by simp)]
       simp[canonB]
       intro _;omega
     rw[this]
    ·have b48:((x.toNat:Int)=48)=False:=by rw[byte_48];simp[h48]
     by_cases hdg:isDig x=true
     ·have hdg':=hdg
      simp only[isDig,Bool.and_eq_true,decide_eq_true_eq] at hdg'
      have bge:((48:Int)≤(x.toNat:Int))=True:=by simp only[eq_iff_iff,iff_true];omega
      have ble:((x.toNat:Int)≤57)=True:=by simp only[eq_iff_iff,iff_true];omega
      simp (config:={ decide:=true }) only[go_sem,Int.reduceToNat,Nat.reduceAdd,Nat.reduceSub,Nat.reduceMul,Nat.reduceBEq,reduceIte,reduceCtorEq,h0,h6,h7,h8,hlt0,hxm,hx,c0,b45,b48,bge,ble,RowsLen_bytes,List.length_map]
      refine next _ ?_ ?_ ?_ ?_ ⟨x,r,he,.inr ⟨hdg,h48⟩,by simp⟩
      all_goals simp (config:={ decide:=true }) only[go_sem,Nat.reduceBEq,reduceIte,h0,h6,h7,c0]
     ·have hdg' : ¬(48≤x.toNat∧x.toNat≤57):=by simpa [isDig] using hdg
      have hfin:shapeB s=false:=by
       rw[he,shapeB_pos (by simpa using h45)]
       simp[canonB,hdg]
      by_cases hge:48≤x.toNat
      ·have bge:((48:Int)≤(x.toNat:Int))=True:=by simp only[eq_iff_iff,iff_true];omega
       have ble:((x.toNat:Int)≤57)=False:=by simp only[eq_iff_iff,iff_false];omega
       simp (config:={ decide:=true }) only[go_sem,Int.reduceToNat,Nat.reduceAdd,Nat.reduceSub,Nat.reduceMul,Nat.reduceBEq,reduceIte,reduceCtorEq,h0,h6,h7,h8,hlt0,hxm,hx,c0,b45,b48,bge,ble,RowsLen_bytes,List.length_map]
       rw[hfin]
      ·have bge:((48:Int)≤(x.toNat:Int))=False:=by simp only[eq_iff_iff,iff_false];omega
       simp (config:={ decide:=true }) only[go_sem,Int.reduceToNat,Nat.reduceAdd,Nat.reduceSub,Nat.reduceMul,Nat.reduceBEq,reduceIte,reduceCtorEq,h0,h6,h7,h8,hlt0,hxm,hx,c0,b45,b48,bge,RowsLen_bytes,List.length_map]
       rw[hfin]
  ·
   obtain ⟨x,r,he,hF,hr⟩:=hI hi1
   have c0:((i:Int)=0)=False:=by simp only[eq_iff_iff,iff_false];omega
   have hri:r[i-1]?=some s[i]:=by
    have:s[i]?=r[i-1]?:=by
     rw[he]
     obtain ⟨j,rfl⟩:∃j,i=j+1:=⟨i-1,by omega⟩
     simp
    rw[←this];exact hx
   by_cases hdg:isDig s[i]=true
   ·have hdg':=hdg
    simp only[isDig,Bool.and_eq_true,decide_eq_true_eq] at hdg'
    have bge:((48:Int)≤(s[i].toNat:Int))=True:=by simp only[eq_iff_iff,iff_true];omega
    have ble:((s[i].toNat:Int)≤57)=True:=by simp only[eq_iff_iff,iff_true];omega
    have b45:((s[i].toNat:Int)=45)=False:=by simp only[eq_iff_iff,iff_false];omega
    have hJ:(r.take i).all isDig=true:=by
     rw[show i=(i-1)+1 by omega,List.take_add_one,List.all_append,hr,hri]
     simp[hdg]
    by_cases h48:s[i]=48
    ·have b48:((s[i].toNat:Int)=48)=True:=by rw[byte_48];simp[h48]
     simp (config:={ decide:=true }) only[go_sem,Int.reduceToNat,Nat.reduceAdd,Nat.reduceSub,Nat.reduceMul,Nat.reduceBEq,reduceIte,reduceCtorEq,h0,h6,h7,h8,hlt',hxm,hx,c0,b45,b48,bge,ble,RowsLen_bytes,List.length_map]
     refine next _ ?_ ?_ ?_ ?_ ⟨x,r,he,hF,hJ⟩
     all_goals simp (config:={ decide:=true }) only[go_sem,Nat.reduceBEq,reduceIte,h0,h6,h7]
    ·have b48:((s[i].toNat:Int)=48)=False:=by rw[byte_48];simp[h48]
     simp (config:={ decide:=true }) only[go_sem,Int.reduceToNat,Nat.reduceAdd,Nat.reduceSub,Nat.reduceMul,Nat.reduceBEq,reduceIte,reduceCtorEq,h0,h6,h7,h8,hlt',hxm,hx,c0,b45,b48,bge,ble,RowsLen_bytes,List.length_map]
     refine next _ ?_ ?_ ?_ ?_ ⟨x,r,he,hF,hJ⟩
     all_goals simp (config:={ decide:=true }) only[go_sem,Nat.reduceBEq,reduceIte,h0,h6,h7]
   ·have hdg' : ¬(48≤s[i].toNat∧s[i].toNat≤57):=by simpa [isDig] using hdg
    have b48:((s[i].toNat:Int)=48)=False:=by simp only[eq_iff_iff,iff_false];omega
    have hfin:shapeB s=false:=by
     rw[he,shape_in hF]
     cases hall:r.all isDig with
     | false=>rfl
     | true=>exact absurd (List.all_eq_true.1 hall _ (List.mem_of_getElem? hri)) hdg
    by_cases h45:s[i]=45
    ·have b45:((s[i].toNat:Int)=45)=True:=by rw[byte_45];simp[h45]
     have bge:((48:Int)≤(s[i].toNat:Int))=False:=by rw[h45];simp
     simp (config:={ decide:=true }) only[go_sem,Int.reduceToNat,Nat.reduceAdd,Nat.reduceSub,Nat.reduceMul,Nat.reduceBEq,reduceIte,reduceCtorEq,h0,h6,h7,h8,hlt',hxm,hx,c0,b45,b48,bge,RowsLen_bytes,List.length_map]
     rw[hfin]
    ·have b45:((s[i].toNat:Int)=45)=False:=by rw[byte_45];simp[h45]
     by_cases hge:48≤s[i].toNat
     ·have bge:((48:Int)≤(s[i].toNat:Int))=True:=by simp only[eq_iff_iff,iff_true];omega
      have ble:((s[i].toNat:Int)≤57)=False:=by simp only[eq_iff_iff,iff_false];omega
      simp (config:={ decide:=true }) only[go_sem,Int.reduceToNat,Nat.reduceAdd,Nat.reduceSub,Nat.reduceMul,Nat.reduceBEq,reduceIte,reduceCtorEq,h0,h6,h7,h8,hlt',hxm,hx,c0,b45,b48,bge,ble,RowsLen_bytes,List.length_map]
      rw[hfin]
     ·have bge:((48:Int)≤(s[i].toNat:Int))=False:=by simp only[eq_iff_iff,iff_false];omega
      simp (config:={ decide:=true }) only[go_sem,Int.reduceToNat,Nat.reduceAdd,Nat.reduceSub,Nat.reduceMul,Nat.reduceBEq,reduceIte,reduceCtorEq,h0,h6,h7,h8,hlt',hxm,hx,c0,b45,b48,bge,RowsLen_bytes,List.length_map]
      rw[hfin]
 ·have hlt' : ¬(i:Int)<(s.length:Int):=by omega
  have hil:i=s.length:=by omega
  cases hs0:s with
  | nil =>
   have hne:(s=[])=True:=by rw[hs0];simp
   rw[←hs0]
   simp (config:={ decide:=true }) only[go_sem,Int.reduceToNat,Nat.reduceAdd,Nat.reduceSub,Nat.reduceMul,Nat.reduceBEq,reduceIte,reduceCtorEq,h0,h6,h7,h8,hlt',hne]
   rw[hs0];rfl
  | cons y r0 =>
   obtain ⟨x,r,he,hF,hr⟩:=hI (by rw[hil,hs0];simp)
   have hne:(s=[])=False:=by rw[hs0];simp
   rw[←hs0]
   simp (config:={ decide:=true }) only[go_sem,Int.reduceToNat,Nat.reduceAdd,Nat.reduceSub,Nat.reduceMul,Nat.reduceBEq,reduceIte,reduceCtorEq,h0,h6,h7,h8,hlt',hne]
   rw[he,shape_in hF]
   rw[hil,he,List.length_cons,Nat.add_sub_cancel,List.take_length] at hr
   rw[hr]
end Go.Proofs.YtmapdjdnnhlpiaaGreatDoor
namespace Go.Proofs.YtmapdjdnnhlpiaaGreatDoor
open Go.Shelf
set_option maxRecDepth 100000
def laysAtoi_ren:Go.Shelf.Ren:=⟨fun | 172=>70 | 244=>87 | 245=>88 | 247=>104 | 279=>105 | 280=>106 | 281=>107 | 282=>108 | 287=>118 | 316=>119 | 171=>121 | 205=>120 | 321=>136 | 322=>137 | 243=>138 | 246=>146 | 283=>148 | 284=>149 | 285=>150 | 286=>151 | 129=>135 | 317=>152 | 318=>153 | 319=>154 | 320=>155 | 337=>156 | 338=>157 | n=>n,fun | 9=>9 | 3=>3 | 75=>83 | 76=>112 | 4=>4 | 5=>5 | 167=>153 | 37=>37 | 0=>0 | 85=>154 | 2=>2 | 168=>156 | 53=>172 | 175=>173 | 46=>149 | 210=>176 | 127=>189 | 145=>192 | 143=>190 | 21=>21 | 171=>203 | 173=>205 | 212=>208 | 51=>165 | 20=>20 | 213=>209 | 232=>211 | 233=>212 | 80=>213 | n=>n,fun | 15=>2 | 16=>3 | 17=>4 | 18=>5 | 19=>6 | n=>n⟩
theorem laysAtoi:Go.Proofs.LaysC.n172 Tryz.prog laysAtoi_ren where
 mixed:=by kernel_rfl
 f129:=Tryz.func135.trans (congrArg some (by kernel_rfl))
 f171:=Tryz.func121.trans (congrArg some (by kernel_rfl))
 f172:=Tryz.func70.trans (congrArg some (by kernel_rfl))
 f205:=Tryz.func120.trans (congrArg some (by kernel_rfl))
 f243:=Tryz.func138.trans (congrArg some (by kernel_rfl))
 f244:=Tryz.func87.trans (congrArg some (by kernel_rfl))
 f245:=Tryz.func88.trans (congrArg some (by kernel_rfl))
 f246:=Tryz.func146.trans (congrArg some (by kernel_rfl))
 f247:=Tryz.func104.trans (congrArg some (by kernel_rfl))
 f279:=Tryz.func105.trans (congrArg some (by kernel_rfl))
 f280:=Tryz.func106.trans (congrArg some (by kernel_rfl))
 f281:=Tryz.func107.trans (congrArg some (by kernel_rfl))
 f282:=Tryz.func108.trans (congrArg some (by kernel_rfl))
 f283:=Tryz.func148.trans (congrArg some (by kernel_rfl))
 f284:=Tryz.func149.trans (congrArg some (by kernel_rfl))
 f285:=Tryz.func150.trans (congrArg some (by kernel_rfl))
 f286:=Tryz.func151.trans (congrArg some (by kernel_rfl))
 f287:=Tryz.func118.trans (congrArg some (by kernel_rfl))
 f316:=Tryz.func119.trans (congrArg some (by kernel_rfl))
 f317:=Tryz.func152.trans (congrArg some (by kernel_rfl))
 f318:=Tryz.func153.trans (congrArg some (by kernel_rfl))
 f319:=Tryz.func154.trans (congrArg some (by kernel_rfl))
 f320:=Tryz.func155.trans (congrArg some (by kernel_rfl))
 f321:=Tryz.func136.trans (congrArg some (by kernel_rfl))
 f322:=Tryz.func137.trans (congrArg some (by kernel_rfl))
 f337:=Tryz.func156.trans (congrArg some (by kernel_rfl))
 f338:=Tryz.func157.trans (congrArg some (by kernel_rfl))
 t0:=Tryz.underlying0
 a0:=Tryz.isAgg0
 z0:=Tryz.sizeOf0
 v0:=Tryz.zeroValue0
 t2:=Tryz.underlying2
 a2:=Tryz.isAgg2
 z2:=Tryz.sizeOf2
 v2:=Tryz.zeroValue2
 t3:=Tryz.underlying3
 a3:=Tryz.isAgg3
 z3:=Tryz.sizeOf3
 v3:=Tryz.zeroValue3
 t4:=Tryz.underlying4
 a4:=Tryz.isAgg4
 z4:=Tryz.sizeOf4
 v4:=Tryz.zeroValue4
 t5:=Tryz.underlying5
 a5:=Tryz.isAgg5
 z5:=Tryz.sizeOf5
 v5:=Tryz.zeroValue5
 t9:=Tryz.underlying9
 a9:=Tryz.isAgg9
 z9:=Tryz.sizeOf9
 v9:=Tryz.zeroValue9
 t20:=Tryz.underlying20
 a20:=Tryz.isAgg20
 z20:=Tryz.sizeOf20
 v20:=Tryz.zeroValue20
 t21:=Tryz.underlying21
 a21:=Tryz.isAgg21
 z21:=Tryz.sizeOf21
 v21:=Tryz.zeroValue21
 t37:=Tryz.underlying37
 a37:=Tryz.isAgg37
 z37:=Tryz.sizeOf37
 v37:=Tryz.zeroValue37
 t46:=Tryz.underlying149
 a46:=Tryz.isAgg149
 z46:=Tryz.sizeOf149
 v46:=Tryz.zeroValue149
 t51:=Tryz.underlying165
 a51:=Tryz.isAgg165
 z51:=Tryz.sizeOf165
 v51:=Tryz.zeroValue165
 t53:=Tryz.underlying172
 a53:=Tryz.isAgg172
 z53:=Tryz.sizeOf172
 v53:=Tryz.zeroValue172
 t75:=Tryz.underlying83
 a75:=Tryz.isAgg83
 z75:=Tryz.sizeOf83
 v75:=Tryz.zeroValue83
 t76:=Tryz.underlying112
 a76:=Tryz.isAgg112
 z76:=Tryz.sizeOf112
 v76:=Tryz.zeroValue112
 t85:=Tryz.underlying154
 a85:=Tryz.isAgg154
 z85:=Tryz.sizeOf154
 v85:=Tryz.zeroValue154
 t127:=Tryz.underlying189
 a127:=Tryz.isAgg189
 z127:=Tryz.sizeOf189
 v127:=Tryz.zeroValue189
 t143:=Tryz.underlying190
 a143:=Tryz.isAgg190
 z143:=Tryz.sizeOf190
 v143:=Tryz.zeroValue190
 t145:=Tryz.underlying192
 a145:=Tryz.isAgg192
 z145:=Tryz.sizeOf192
 v145:=Tryz.zeroValue192
 t167:=Tryz.underlying153
 a167:=Tryz.isAgg153
 z167:=Tryz.sizeOf153
 v167:=Tryz.zeroValue153
 t168:=Tryz.underlying156
 a168:=Tryz.isAgg156
 z168:=Tryz.sizeOf156
 v168:=Tryz.zeroValue156
 t171:=Tryz.underlying203
 a171:=Tryz.isAgg203
 z171:=Tryz.sizeOf203
 v171:=Tryz.zeroValue203
 t173:=Tryz.underlying205
 a173:=Tryz.isAgg205
 z173:=Tryz.sizeOf205
 v173:=Tryz.zeroValue205
 t175:=Tryz.underlying173
 a175:=Tryz.isAgg173
 z175:=Tryz.sizeOf173
 v175:=Tryz.zeroValue173
 t210:=Tryz.underlying176
 a210:=Tryz.isAgg176
 z210:=Tryz.sizeOf176
 v210:=Tryz.zeroValue176
 t212:=Tryz.underlying208
 a212:=Tryz.isAgg208
 z212:=Tryz.sizeOf208
 v212:=Tryz.zeroValue208
 t213:=Tryz.underlying209
 a213:=Tryz.isAgg209
 z213:=Tryz.sizeOf209
 t232:=Tryz.underlying211
 a232:=Tryz.isAgg211
 z232:=Tryz.sizeOf211
 v232:=Tryz.zeroValue211
 t233:=Tryz.underlying212
 a233:=Tryz.isAgg212
 z233:=Tryz.sizeOf212
 v233:=Tryz.zeroValue212
 g15:=by kernel_rfl
 g16:=by kernel_rfl
 g17:=by kernel_rfl
 g18:=by kernel_rfl
 g19:=by kernel_rfl
 t80:=Tryz.underlying213
 a80:=Tryz.isAgg213
 z80:=Tryz.sizeOf213
 v80:=Tryz.zeroValue213
 i0:=by kernel_rfl
 i2:=by kernel_rfl
 i3:=by kernel_rfl
 i4:=by kernel_rfl
 i5:=by kernel_rfl
 i9:=by kernel_rfl
 i20:=by kernel_rfl
 i21:=by kernel_rfl
 i37:=by kernel_rfl
 i46:=by kernel_rfl
 i51:=by kernel_rfl
 i53:=by kernel_rfl
 i75:=by kernel_rfl
 i76:=by kernel_rfl
 i80:=by kernel_rfl
 i85:=by kernel_rfl
 i127:=by kernel_rfl
 i143:=by kernel_rfl
 i145:=by kernel_rfl
 i167:=by kernel_rfl
 i168:=by kernel_rfl
 i171:=by kernel_rfl
 i173:=by kernel_rfl
 i175:=by kernel_rfl
 i210:=by kernel_rfl
 i212:=by kernel_rfl
 i232:=by kernel_rfl
 i233:=by kernel_rfl
 m15:=by kernel_rfl
 m16:=by kernel_rfl
 m17:=by kernel_rfl
 m18:=by kernel_rfl
 m19:=by kernel_rfl
 c0:=by kernel_rfl
 c2:=by kernel_rfl
 c3:=by kernel_rfl
 c4:=by kernel_rfl
 c5:=by kernel_rfl
 c9:=by kernel_rfl
 c20:=by kernel_rfl
 c21:=by kernel_rfl
 c37:=by kernel_rfl
 c46:=by kernel_rfl
 c51:=by kernel_rfl
 c53:=by kernel_rfl
 c75:=by kernel_rfl
 c76:=by kernel_rfl
 c80:=by kernel_rfl
 c85:=by kernel_rfl
 c127:=by kernel_rfl
 c143:=by kernel_rfl
 c145:=by kernel_rfl
 c167:=by kernel_rfl
 c168:=by kernel_rfl
 c171:=by kernel_rfl
 c173:=by kernel_rfl
 c175:=by kernel_rfl
 c210:=by kernel_rfl
 c212:=by kernel_rfl
 c213:=by kernel_rfl
 c232:=by kernel_rfl
 c233:=by kernel_rfl
end Go.Proofs.YtmapdjdnnhlpiaaGreatDoor
namespace Go.Proofs.YtmapdjdnnhlpiaaGreatDoor
open Go.RowKit Go.Shelf
set_option maxRecDepth 8000
def tErr:TypeId:=laysAtoi_ren.t 168
theorem Evo_below {Z:Nat→Prop} {FP:Nat→List Nat} {w w' : World} (h:Below w.heap.size w w'):Evo Z FP w Z FP w' :=
 ⟨h.os,h.tape,h.output,h.size,fun b hb _=>h.block b hb,fun _ h=>h,fun _ h=>.inl h,fun id b hb=>.inr ⟨id,hb⟩⟩
theorem RV_pair {Z:Nat→Prop} {G:List (Option OG)} {w:World} {a b:HV} {x y:Value} (h1:RV Z G w a x []) (h2:RV Z G w b y []):RV Z G w (.tu [a,b]) (.tuple #[x,y]) []:=by
 simp only[RV,RL]
 exact ⟨_,rfl,x,[y],[],[],rfl,rfl,h1,y,[],[],[],rfl,rfl,h2,rfl,rfl⟩
theorem RV_val {Z:Nat→Prop} {G:List (Option OG)} {w:World} (x:Value):RV Z G w (.v x) x []:=by simp[RV]
theorem RV_icany {Z:Nat→Prop} {G:List (Option OG)} {w:World} (t:TypeId) (x:Value):RV Z G w (.ic t .any) (.iface t x) []:=by
 simp only[RV];exact ⟨trivial,x,rfl,trivial⟩
def atoiV (s:List UInt8):HV :=
 match Lib.atoiAll s with
 | .ok v=>.tu [.v (.int .i64 v),.v .nilIface]
 | Lib.NumEnd.syntax=>.tu [.v (.int .i64 0),.ic tErr .any]
 | .range=>.tu [.v (.int .i64 (Lib.atoiSat s)),.ic tErr .any]
theorem strconvAtoi (s:List UInt8) (hs:s.length≤1000000):HFn Tryz.prog 70 [.v (str s)] (atoiV s):=by
 refine ⟨enters (fn:=Tryz.f70) (by kernel_rfl) rfl rfl,fun Z G FP w vals hi ha=>?_⟩
 simp only[RL,RV] at ha
 obtain ⟨y1,ys1,f1,f2,rfl,hf,⟨_,rfl⟩,rfl,_⟩:=ha
 have hsz:(⟨s.toArray⟩:ByteArray).size=s.length:=by simp[ByteArray.size]
 have fin:∀(v:Value) (w' : World),RV Z G w' (atoiV s) v []→Below w.heap.size w w'→Post Z G FP [] w (fun r _=>r=atoiV s) (.returned v) w':=by
  intro v w' hv hb
  exact ⟨v,_,[],Z,G,FP,[],rfl,rfl,rfl,hi.keep hb.size (fun b hb'=>hb.block b (by
   rcases hb' with h | ⟨id,h⟩
   ·exact hi.zlt b h
   ·exact hi.flt id b h)),hv,by simp,by simp,by simp,GLe.refl _,Evo_below hb⟩
 cases h:Lib.atoiAll s with
 | ok v =>
  refine Calls.mono (Any.strconv_Atoi_ok laysAtoi ⟨s.toArray⟩ (by omega) v h w) ?_
  rintro e w' ⟨rfl,hw⟩
  refine fin _ w' ?_ ?_
  ·unfold atoiV;rw[h];exact RV_pair (RV_val _) (RV_val _)
  ·rcases hw with rfl | ⟨t,rfl⟩
   ·exact Below.refl _ _
   ·exact Lib.bytesWorld_below _ _ _
 | range =>
  obtain ⟨_,ev,hv,hev⟩:=hi.glob.ifc 3 (by decide)
  refine Calls.mono (Any.strconv_Atoi_range laysAtoi ⟨s.toArray⟩ (by omega) h ev w hv hev) ?_
  rintro e w' ⟨N,rfl,_,_,hb⟩
  refine fin _ w' ?_ hb
  unfold atoiV;rw[h];exact RV_pair (RV_val _) (RV_icany _ _)
 | _ =>
  obtain ⟨_,ev,hv,hev⟩:=hi.glob.ifc 2 (by decide)
  refine Calls.mono (Any.strconv_Atoi_syntax laysAtoi ⟨s.toArray⟩ (by omega) h ev w hv hev) ?_
  rintro e w' ⟨N,rfl,_,_,hb⟩
  refine fin _ w' ?_ hb
  unfold atoiV;rw[h];exact RV_pair (RV_val _) (RV_icany _ _)
theorem numGet (s:List UInt8) (hs:s.length≤1000000):HFn Tryz.prog 54 [.v (str s)] (.tu [.v (.int .i64 (numB s).1),.v (.bool (numB s).2)]):=by
 have hn:=atoi_num s
 have ha:=strconvAtoi s hs
 unfold atoiV at ha
 refine HCalls_body (fn:=Tryz.f54) 19 [2,3] (by kernel_rfl) rfl (by kernel_rfl) (HW.run 400 (by kernel_rfl) ?_)
 simp (config:={ decide:=true }) only[go_sem,Int.reduceToNat,Nat.reduceAdd,Nat.reduceSub,Nat.reduceMul,Nat.reduceBEq,reduceIte,reduceCtorEq]
 cases h:Lib.atoiAll s with
 | ok v =>
  rw[h] at hn ha
  refine callX_fn 3 (ha) (by simp only[go_sem]) rfl ?_
  simp (config:={ decide:=true }) only[go_sem,Int.reduceToNat,Nat.reduceAdd,Nat.reduceSub,Nat.reduceMul,Nat.reduceBEq,reduceIte,reduceCtorEq]
  refine callX_fn 3 (numShape s hs) (by simp only[go_sem]) rfl ?_
  simp only[numOf] at hn
  cases hsh:shapeB s with
  | true =>
   simp (config:={ decide:=true }) only[go_sem,Int.reduceToNat,Nat.reduceAdd,Nat.reduceSub,Nat.reduceMul,Nat.reduceBEq,reduceIte,reduceCtorEq]
   rw[hn,hsh];rfl
  | false =>
   simp (config:={ decide:=true }) only[go_sem,Int.reduceToNat,Nat.reduceAdd,Nat.reduceSub,Nat.reduceMul,Nat.reduceBEq,reduceIte,reduceCtorEq]
   rw[hn,hsh];rfl
 | range =>
  rw[h] at hn ha
  refine callX_fn 3 (ha) (by simp only[go_sem]) rfl ?_
  simp (config:={ decide:=true }) only[go_sem,Int.reduceToNat,Nat.reduceAdd,Nat.reduceSub,Nat.reduceMul,Nat.reduceBEq,reduceIte,reduceCtorEq]
  rw[hn];rfl
 | _ =>
  rw[h] at hn ha
  refine callX_fn 3 (ha) (by simp only[go_sem]) rfl ?_
  simp (config:={ decide:=true }) only[go_sem,Int.reduceToNat,Nat.reduceAdd,Nat.reduceSub,Nat.reduceMul,Nat.reduceBEq,reduceIte,reduceCtorEq]
  rw[hn];rfl
end Go.Proofs.YtmapdjdnnhlpiaaGreatDoor
namespace Go.Proofs.YtmapdjdnnhlpiaaGreatDoor
open Go.RowKit
set_option maxRecDepth 8000
def preB (s p:List UInt8):Bool:=decide (p.length≤s.length) && decide (s.take p.length=p)
def sufB (s p:List UInt8):Bool:=decide (p.length≤s.length) && decide (s.drop (s.length-p.length)=p)
theorem hasPrefix (s p:List UInt8):HFn Tryz.prog 139 [.v (str s),.v (str p)] (.v (.bool (preB s p))):=by
 refine HCalls_body (fn:=Tryz.f139) 18 [4] (by kernel_rfl) rfl (by kernel_rfl) (HW.run 400 (by kernel_rfl) ?_)
 unfold preB
 by_cases h:p.length≤s.length
 ·have h1:((p.length:Int)≤(s.length:Int))=True:=by simp only[eq_iff_iff,iff_true];omega
  simp (config:={ decide:=true }) only[go_sem,Int.reduceToNat,Nat.reduceAdd,Nat.reduceSub,Nat.reduceMul,Nat.reduceBEq,reduceIte,reduceCtorEq,h1]
  simp[h]
 ·have h1:((p.length:Int)≤(s.length:Int))=False:=by simp only[eq_iff_iff,iff_false];omega
  simp (config:={ decide:=true }) only[go_sem,Int.reduceToNat,Nat.reduceAdd,Nat.reduceSub,Nat.reduceMul,Nat.reduceBEq,reduceIte,reduceCtorEq,h1]
  simp[h]
theorem cutPrefixL (s p:List UInt8):HFn Tryz.prog 123 [.v (str s),.v (str p)] (.tu [.v (str (if preB s p=true then s.drop p.length else s)),.v (.bool (preB s p))]):=by
 refine HCalls_body (fn:=Tryz.f123) 15 [4,5] (by kernel_rfl) rfl (by kernel_rfl) (HW.run 400 (by kernel_rfl) ?_)
 simp (config:={ decide:=true }) only[go_sem,Int.reduceToNat,Nat.reduceAdd,Nat.reduceSub,Nat.reduceMul,Nat.reduceBEq,reduceIte,reduceCtorEq]
 refine callX_fn 3 (hasPrefix s p) (by simp only[go_sem]) rfl ?_
 cases h:preB s p with
 | false=>simp (config:={ decide:=true }) only[go_sem,Int.reduceToNat,Nat.reduceAdd,Nat.reduceSub,Nat.reduceMul,Nat.reduceBEq,reduceIte,reduceCtorEq]
 | true =>
  simp (config:={ decide:=true }) only[go_sem,Int.reduceToNat,Nat.reduceAdd,Nat.reduceSub,Nat.reduceMul,Nat.reduceBEq,reduceIte,reduceCtorEq]
  have:p.length≤s.length:=by unfold preB at h;simp at h;exact h.1
  omega
theorem cutPrefix (s p:List UInt8):HFn Tryz.prog 111 [.v (str s),.v (str p)] (.tu [.v (str (if preB s p=true then s.drop p.length else s)),.v (.bool (preB s p))]):=by
 refine HCalls_body (fn:=Tryz.f111) 11 [4,5] (by kernel_rfl) rfl (by kernel_rfl) (HW.run 400 (by kernel_rfl) ?_)
 simp (config:={ decide:=true }) only[go_sem,Int.reduceToNat,Nat.reduceAdd,Nat.reduceSub,Nat.reduceMul,Nat.reduceBEq,reduceIte,reduceCtorEq]
 refine callX_fn 3 (cutPrefixL s p) (by simp only[go_sem]) rfl ?_
 simp (config:={ decide:=true }) only[go_sem,Int.reduceToNat,Nat.reduceAdd,Nat.reduceSub,Nat.reduceMul,Nat.reduceBEq,reduceIte,reduceCtorEq]
theorem hasSuffix (s p:List UInt8) (hs:s.length≤1000000):HFn Tryz.prog 122 [.v (str s),.v (str p)] (.v (.bool (sufB s p))):=by
 refine HCalls_body (fn:=Tryz.f122) 21 [4] (by kernel_rfl) rfl (by kernel_rfl) (HW.run 400 (by kernel_rfl) ?_)
 unfold sufB
 by_cases h:p.length≤s.length
 ·have h1:((p.length:Int)≤(s.length:Int))=True:=by simp only[eq_iff_iff,iff_true];omega
  have h2:IntKind.i64.wrap ((s.length:Int)-(p.length:Int))=(s.length:Int)-(p.length:Int):=w64 (by omega) (by omega)
  have h3:((s.length:Int)-(p.length:Int)).toNat=s.length-p.length:=by omega
  simp (config:={ decide:=true }) only[go_sem,Int.reduceToNat,Nat.reduceAdd,Nat.reduceSub,Nat.reduceMul,Nat.reduceBEq,reduceIte,reduceCtorEq,h1,h2,h3]
  refine ⟨⟨by omega,by omega⟩,?_⟩
  simp[h]
 ·have h1:((p.length:Int)≤(s.length:Int))=False:=by simp only[eq_iff_iff,iff_false];omega
  simp (config:={ decide:=true }) only[go_sem,Int.reduceToNat,Nat.reduceAdd,Nat.reduceSub,Nat.reduceMul,Nat.reduceBEq,reduceIte,reduceCtorEq,h1]
  simp[h]
theorem cutSuffixL (s p:List UInt8) (hs:s.length≤1000000):HFn Tryz.prog 110 [.v (str s),.v (str p)] (.tu [.v (str (if sufB s p=true then s.take (s.length-p.length) else s)),.v (.bool (sufB s p))]):=by
 refine HCalls_body (fn:=Tryz.f110) 18 [4,5] (by kernel_rfl) rfl (by kernel_rfl) (HW.run 400 (by kernel_rfl) ?_)
 simp (config:={ decide:=true }) only[go_sem,Int.reduceToNat,Nat.reduceAdd,Nat.reduceSub,Nat.reduceMul,Nat.reduceBEq,reduceIte,reduceCtorEq]
 refine callX_fn 3 (hasSuffix s p hs) (by simp only[go_sem]) rfl ?_
 cases h:sufB s p with
 | false=>simp (config:={ decide:=true }) only[go_sem,Int.reduceToNat,Nat.reduceAdd,Nat.reduceSub,Nat.reduceMul,Nat.reduceBEq,reduceIte,reduceCtorEq]
 | true =>
  have hl:p.length≤s.length:=by unfold sufB at h;simp at h;exact h.1
  have h2:IntKind.i64.wrap ((s.length:Int)-(p.length:Int))=(s.length:Int)-(p.length:Int):=w64 (by omega) (by omega)
  have h3:((s.length:Int)-(p.length:Int)).toNat=s.length-p.length:=by omega
  simp (config:={ decide:=true }) only[go_sem,Int.reduceToNat,Nat.reduceAdd,Nat.reduceSub,Nat.reduceMul,Nat.reduceBEq,reduceIte,reduceCtorEq,h2,h3]
  omega
theorem cutSuffix (s p:List UInt8) (hs:s.length≤1000000):HFn Tryz.prog 90 [.v (str s),.v (str p)] (.tu [.v (str (if sufB s p=true then s.take (s.length-p.length) else s)),.v (.bool (sufB s p))]):=by
 refine HCalls_body (fn:=Tryz.f90) 11 [4,5] (by kernel_rfl) rfl (by kernel_rfl) (HW.run 400 (by kernel_rfl) ?_)
 simp (config:={ decide:=true }) only[go_sem,Int.reduceToNat,Nat.reduceAdd,Nat.reduceSub,Nat.reduceMul,Nat.reduceBEq,reduceIte,reduceCtorEq]
 refine callX_fn 3 (cutSuffixL s p hs) (by simp only[go_sem]) rfl ?_
 simp (config:={ decide:=true }) only[go_sem,Int.reduceToNat,Nat.reduceAdd,Nat.reduceSub,Nat.reduceMul,Nat.reduceBEq,reduceIte,reduceCtorEq]
def insB (s:List UInt8):List UInt8 :=
 if 2≤s.length∧s.head?=some 91∧s.getLast?=some 93 then (s.drop 1).take (s.length-2) else []
theorem preB_one (s:List UInt8) (c:UInt8):preB s [c]=decide (s.head?=some c):=by
 cases s with
 | nil=>rfl
 | cons x r=>simp[preB]
theorem sufB_one (s:List UInt8) (c:UInt8):sufB s [c]=decide (s.getLast?=some c):=by
 rcases List.eq_nil_or_concat s with rfl | ⟨l,x,rfl⟩
 ·rfl
 ·simp[sufB,List.getLast?_concat]
theorem within (s:List UInt8) (hs:s.length≤1000000):HFn Tryz.prog 92 [.v (str s)] (.v (str (insB s))):=by
 refine HCalls_body (fn:=Tryz.f92) 23 [2] (by kernel_rfl) rfl (by kernel_rfl) (HW.run 400 (by kernel_rfl) ?_)
 simp (config:={ decide:=true }) only[go_sem,Int.reduceToNat,Nat.reduceAdd,Nat.reduceSub,Nat.reduceMul,Nat.reduceBEq,reduceIte,reduceCtorEq]
 refine callX_fn 3 (cutPrefix s [91]) (by simp only[go_sem]) rfl ?_
 simp (config:={ decide:=true }) only[go_sem,Int.reduceToNat,Nat.reduceAdd,Nat.reduceSub,Nat.reduceMul,Nat.reduceBEq,reduceIte,reduceCtorEq]
 refine callX_fn 3 (cutSuffix (if preB s [91]=true then s.drop ([91]:List UInt8).length else s) [93] (by split <;> first | exact hs | (rw[List.length_drop];omega))) (by simp only[go_sem]) rfl ?_
 have e1:=preB_one s 91
 cases h1:preB s [91] with
 | false =>
  simp (config:={ decide:=true }) only[go_sem,Int.reduceToNat,Nat.reduceAdd,Nat.reduceSub,Nat.reduceMul,Nat.reduceBEq,reduceIte,reduceCtorEq]
  rw[h1] at e1
  have:¬s.head?=some 91:=by simpa using e1.symm
  unfold insB
  rw[if_neg (fun h=>this h.2.1)]
 | true =>
  rw[h1] at e1
  have hh:s.head?=some 91:=by simpa using e1.symm
  obtain ⟨r,rfl⟩:∃r,s=91::r:=by
   cases s with
   | nil=>simp at hh
   | cons x r=>simp only[List.head?_cons,Option.some.injEq] at hh;exact ⟨r,by rw[hh]⟩
  have e2:=sufB_one r 93
  cases h2:sufB r [93] with
  | false =>
   simp (config:={ decide:=true }) only[go_sem,Int.reduceToNat,Nat.reduceAdd,Nat.reduceSub,Nat.reduceMul,Nat.reduceBEq,reduceIte,reduceCtorEq,h2]
   rw[h2] at e2
   have:¬r.getLast?=some 93:=by simpa using e2.symm
   unfold insB
   rw[if_neg]
   rintro ⟨k1,_,k3⟩
   cases r with
   | nil=>simp at k1
   | cons y r=>simp only[List.getLast?_cons_cons] at k3;exact this k3
  | true =>
   simp (config:={ decide:=true }) only[go_sem,Int.reduceToNat,Nat.reduceAdd,Nat.reduceSub,Nat.reduceMul,Nat.reduceBEq,reduceIte,reduceCtorEq,h2]
   rw[h2] at e2
   have:r.getLast?=some 93:=by simpa using e2.symm
   unfold insB
   cases r with
   | nil=>simp at this
   | cons y r =>
    rw[if_pos ⟨by simp,rfl,by simp only[List.getLast?_cons_cons];exact this⟩]
    simp
end Go.Proofs.YtmapdjdnnhlpiaaGreatDoor
namespace Go.Proofs.YtmapdjdnnhlpiaaGreatDoor
open Go.RowKit
set_option maxRecDepth 8000
abbrev lineV (op:Int) (rg loc lab:List UInt8) (n:Int):HV:=.ag [.v (.int .i64 op),.v (str rg),.v (str loc),.v (str lab),.v (.int .i64 n)]
abbrev atomV (th:Int) (nm:List UInt8) (n:Int):HV:=.ag [.v (.int .i64 th),.v (str nm),.v (.int .i64 n)]
def hasReg (op:Int):Bool:=decide (op=1) || decide (op=2) || decide (op=3) || decide (op=5) || decide (op=7)
def hasLoc (op:Int):Bool:=decide (op=2) || decide (op=3) || decide (op=4) || decide (op=5)
def hasLab (op:Int):Bool:=decide (8≤op) && decide (op≤11)
def hasN (op:Int):Bool:=decide (op=1) || decide (op=4) || decide (op=7)
def rb (r lo la nn a b c d e f g:Bool):Bool:=(a || !r && b) && (r || b) && (c || !lo && d) && (lo || d) && (e || !la && f) && (la || f) && (nn || g)
def rightB (op:Int) (rg loc lab:List UInt8) (n:Int):Bool :=
 decide (1≤op) && decide (op≤11) && rb (hasReg op) (hasLoc op) (hasLab op) (hasN op) (decide (0≤regB rg)) (decide (rg=[])) (nameB loc) (decide (loc=[])) (nameB lab) (decide (lab=[])) (decide (n=0))
theorem opsOf6 (rg loc lab:List UInt8) (n:Int):HFn Tryz.prog 93 [lineV 6 rg loc lab n] (.ic 162 (lineV 6 rg loc lab n)):=by
 refine HCalls_body (fn:=Tryz.f93) 37 [2] (by kernel_rfl) rfl (by kernel_rfl) (HW.run 400 (by kernel_rfl) ?_)
 simp (config:={ decide:=true }) only[go_sem,Int.reduceToNat,Nat.reduceAdd,Nat.reduceSub,Nat.reduceMul,Nat.reduceBEq,reduceIte,reduceCtorEq]
theorem opsOfM (op:Int) (rg loc lab:List UInt8) (n:Int) (h:1≤op∧op≤7∧op≠6):HFn Tryz.prog 93 [lineV op rg loc lab n] (.ic 163 (lineV op rg loc lab n)):=by
 refine HCalls_body (fn:=Tryz.f93) 37 [2] (by kernel_rfl) rfl (by kernel_rfl) (HW.run 400 (by kernel_rfl) ?_)
 obtain ⟨h1,h2,h3⟩:=h
 simp (config:={ decide:=true }) only[go_sem,Int.reduceToNat,Nat.reduceAdd,Nat.reduceSub,Nat.reduceMul,Nat.reduceBEq,reduceIte,reduceCtorEq,h1,h2,h3]
theorem opsOfJ (op:Int) (rg loc lab:List UInt8) (n:Int) (h:8≤op∧op≤11):HFn Tryz.prog 93 [lineV op rg loc lab n] (.ic 164 (lineV op rg loc lab n)):=by
 refine HCalls_body (fn:=Tryz.f93) 37 [2] (by kernel_rfl) rfl (by kernel_rfl) (HW.run 400 (by kernel_rfl) ?_)
 obtain ⟨h1,h2⟩:=h
 have h3:¬op=6:=by omega
 have h4:1≤op:=by omega
 have h5:¬op≤7:=by omega
 simp (config:={ decide:=true }) only[go_sem,Int.reduceToNat,Nat.reduceAdd,Nat.reduceSub,Nat.reduceMul,Nat.reduceBEq,reduceIte,reduceCtorEq,h1,h2,h3,h4,h5]
theorem opsOfN (op:Int) (rg loc lab:List UInt8) (n:Int) (h:op<1∨11<op):HFn Tryz.prog 93 [lineV op rg loc lab n] (.v .nilIface):=by
 refine HCalls_body (fn:=Tryz.f93) 37 [2] (by kernel_rfl) rfl (by kernel_rfl) (HW.run 400 (by kernel_rfl) ?_)
 have h3:¬op=6:=by omega
 rcases h with h | h
 ·have h4:¬1≤op:=by omega
  have h5:¬8≤op:=by omega
  simp (config:={ decide:=true }) only[go_sem,Int.reduceToNat,Nat.reduceAdd,Nat.reduceSub,Nat.reduceMul,Nat.reduceBEq,reduceIte,reduceCtorEq,h3,h4,h5]
 ·have h4:1≤op:=by omega
  have h5:¬op≤7:=by omega
  have h6:8≤op:=by omega
  have h7:¬op≤11:=by omega
  simp (config:={ decide:=true }) only[go_sem,Int.reduceToNat,Nat.reduceAdd,Nat.reduceSub,Nat.reduceMul,Nat.reduceBEq,reduceIte,reduceCtorEq,h3,h4,h5,h6,h7]
theorem fencesHas (op:Int) (rg loc lab:List UInt8) (n:Int):HFn Tryz.prog 195 [lineV op rg loc lab n] (.tu [.v (.bool false),.v (.bool false),.v (.bool false),.v (.bool false)]):=by
 refine HCalls_body (fn:=Tryz.f195) 6 [2,3,4,5] (by kernel_rfl) rfl (by kernel_rfl) (HW.run 400 (by kernel_rfl) ?_)
 simp (config:={ decide:=true }) only[go_sem,Int.reduceToNat,Nat.reduceAdd,Nat.reduceSub,Nat.reduceMul,Nat.reduceBEq,reduceIte,reduceCtorEq]
theorem jumpsHas (op:Int) (rg loc lab:List UInt8) (n:Int):HFn Tryz.prog 199 [lineV op rg loc lab n] (.tu [.v (.bool false),.v (.bool false),.v (.bool true),.v (.bool false)]):=by
 refine HCalls_body (fn:=Tryz.f199) 6 [2,3,4,5] (by kernel_rfl) rfl (by kernel_rfl) (HW.run 400 (by kernel_rfl) ?_)
 simp (config:={ decide:=true }) only[go_sem,Int.reduceToNat,Nat.reduceAdd,Nat.reduceSub,Nat.reduceMul,Nat.reduceBEq,reduceIte,reduceCtorEq]
theorem ops_moves {op:Int} (h:1≤op∧op≤7∧op≠6):op=1∨op=2∨op=3∨op=4∨op=5∨op=7:=by omega
theorem movesHas (op:Int) (rg loc lab:List UInt8) (n:Int) (h:1≤op∧op≤7∧op≠6):HFn Tryz.prog 197 [lineV op rg loc lab n] (.tu [.v (.bool (hasReg op)),.v (.bool (hasLoc op)),.v (.bool false),.v (.bool (hasN op))]):=by
 rcases ops_moves h with rfl | rfl | rfl | rfl | rfl | rfl
 all_goals
  refine HCalls_body (fn:=Tryz.f197) 42 [2,3,4,5] (by kernel_rfl) rfl (by kernel_rfl) (HW.run 400 (by kernel_rfl) ?_)
  simp (config:={ decide:=true }) only[go_sem,Int.reduceToNat,Nat.reduceAdd,Nat.reduceSub,Nat.reduceMul,Nat.reduceBEq,reduceIte,reduceCtorEq]
  refine HW.quiet 80 follows (by kernel_rfl) ?_
  simp (config:={ decide:=true }) only[go_sem,Int.reduceToNat,Nat.reduceAdd,Nat.reduceSub,Nat.reduceMul,Nat.reduceBEq,reduceIte,reduceCtorEq]
  rfl
theorem mFences:methodFn Tryz.prog 162 "fencepost/ops.has"=some 195:=by kernel_rfl
theorem mMoves:methodFn Tryz.prog 163 "fencepost/ops.has"=some 197:=by kernel_rfl
theorem mJumps:methodFn Tryz.prog 164 "fencepost/ops.has"=some 199:=by kernel_rfl
theorem reg_empty {rg:List UInt8} {p:Prop} (h:(0≤regB rg)=(true=true)) (hb:rg=[]):p:=by
 rw[hb] at h
 have hno:¬(0≤regB []):=by decide
 exact absurd (h.mpr rfl) hno
set_option maxHeartbeats 4000000 in
theorem opsRight (op:Int) (rg loc lab:List UInt8) (n:Int):HFn Tryz.prog 74 [lineV op rg loc lab n] (.v (.bool (rightB op rg loc lab n))):=by
 refine HCalls_body (fn:=Tryz.f74) 92 [2] (by kernel_rfl) rfl (by kernel_rfl) (HW.run 400 (by kernel_rfl) ?_)
 simp (config:={ decide:=true }) only[go_sem,Int.reduceToNat,Nat.reduceAdd,Nat.reduceSub,Nat.reduceMul,Nat.reduceBEq,reduceIte,reduceCtorEq]
 by_cases hN:op<1∨11<op
 ·refine callX_fn 3 (opsOfN op rg loc lab n hN) (by simp only[go_sem]) rfl ?_
  simp (config:={ decide:=true }) only[go_sem,Int.reduceToNat,Nat.reduceAdd,Nat.reduceSub,Nat.reduceMul,Nat.reduceBEq,reduceIte,reduceCtorEq]
  have:rightB op rg loc lab n=false:=by
   unfold rightB
   rcases hN with h | h
   ·simp[show ¬1≤op by omega]
   ·simp[show ¬op≤11 by omega]
  rw[this]
 have hr:rightB op rg loc lab n=rb (hasReg op) (hasLoc op) (hasLab op) (hasN op) (decide (0≤regB rg)) (decide (rg=[])) (nameB loc) (decide (loc=[])) (nameB lab) (decide (lab=[])) (decide (n=0)):=by
  unfold rightB
  simp[show 1≤op by omega,show op≤11 by omega]
 rw[hr]
 have nd:nameB loc=true→loc≠[]:=by rintro h rfl;cases h
 have nl:nameB lab=true→lab≠[]:=by rintro h rfl;cases h
 by_cases h6:op=6
 ·subst h6
  refine callX_fn 3 (opsOf6 rg loc lab n) (by simp only[go_sem]) rfl ?_
  simp (config:={ decide:=true }) only[go_sem,Int.reduceToNat,Nat.reduceAdd,Nat.reduceSub,Nat.reduceMul,Nat.reduceBEq,reduceIte,reduceCtorEq,mFences]
  refine callX_fn 3 (fencesHas 6 rg loc lab n) (by simp only[go_sem]) rfl ?_
  have e1:hasReg 6=false:=rfl
  have e2:hasLoc 6=false:=rfl
  have e3:hasLab 6=false:=rfl
  have e4:hasN 6=false:=rfl
  rw[e1,e2,e3,e4]
  simp (config:={ decide:=true }) only[go_sem,Int.reduceToNat,Nat.reduceAdd,Nat.reduceSub,Nat.reduceMul,Nat.reduceBEq,reduceIte,reduceCtorEq]
  all_goals
   refine callX_fn 3 (regPr rg) (by simp only[go_sem]) rfl ?_
   generalize hga:decide (0≤regB rg)=ga
   have hga' : (0≤regB rg)=(ga=true):=by rw[←hga];simp
   clear hga
   cases ga <;> by_cases hb:rg=[] <;> simp (config:={ decide:=true }) only[go_sem,Int.reduceToNat,Nat.reduceAdd,Nat.reduceSub,Nat.reduceMul,Nat.reduceBEq,reduceIte,reduceCtorEq,hga',hb] <;> first | (simp[rb,hb];done) | (exact reg_empty hga' hb) | skip
  all_goals
   refine callX_fn 3 (namePr loc) (by simp only[go_sem]) rfl ?_
   cases hc:nameB loc <;> by_cases hd:loc=[] <;> simp (config:={ decide:=true }) only[go_sem,Int.reduceToNat,Nat.reduceAdd,Nat.reduceSub,Nat.reduceMul,Nat.reduceBEq,reduceIte,reduceCtorEq,hd] <;> first | (simp[rb,hb,hd];done) | (exact absurd hd (nd hc)) | skip
  all_goals
   refine callX_fn 3 (namePr lab) (by simp only[go_sem]) rfl ?_
   cases he:nameB lab <;> by_cases hf:lab=[] <;> simp (config:={ decide:=true }) only[go_sem,Int.reduceToNat,Nat.reduceAdd,Nat.reduceSub,Nat.reduceMul,Nat.reduceBEq,reduceIte,reduceCtorEq,hf] <;> first | (simp[rb,hb,hd,hf];done) | (exact absurd hf (nl he)) | skip
 by_cases hM:op≤7
 ·have hM' : 1≤op∧op≤7∧op≠6:=by omega
  refine callX_fn 3 (opsOfM op rg loc lab n hM') (by simp only[go_sem]) rfl ?_
  simp (config:={ decide:=true }) only[go_sem,Int.reduceToNat,Nat.reduceAdd,Nat.reduceSub,Nat.reduceMul,Nat.reduceBEq,reduceIte,reduceCtorEq,mMoves]
  refine callX_fn 3 (movesHas op rg loc lab n hM') (by simp only[go_sem]) rfl ?_
  have e3:hasLab op=false:=by unfold hasLab;simp;omega
  rw[e3]
  cases hasReg op <;> cases hasLoc op <;> cases hasN op <;> simp (config:={ decide:=true }) only[go_sem,Int.reduceToNat,Nat.reduceAdd,Nat.reduceSub,Nat.reduceMul,Nat.reduceBEq,reduceIte,reduceCtorEq]
  all_goals
   refine callX_fn 3 (regPr rg) (by simp only[go_sem]) rfl ?_
   generalize hga:decide (0≤regB rg)=ga
   have hga' : (0≤regB rg)=(ga=true):=by rw[←hga];simp
   clear hga
   cases ga <;> by_cases hb:rg=[] <;> simp (config:={ decide:=true }) only[go_sem,Int.reduceToNat,Nat.reduceAdd,Nat.reduceSub,Nat.reduceMul,Nat.reduceBEq,reduceIte,reduceCtorEq,hga',hb] <;> first | (simp[rb,hb];done) | (exact reg_empty hga' hb) | skip
  all_goals
   refine callX_fn 3 (namePr loc) (by simp only[go_sem]) rfl ?_
   cases hc:nameB loc <;> by_cases hd:loc=[] <;> simp (config:={ decide:=true }) only[go_sem,Int.reduceToNat,Nat.reduceAdd,Nat.reduceSub,Nat.reduceMul,Nat.reduceBEq,reduceIte,reduceCtorEq,hd] <;> first | (simp[rb,hb,hd];done) | (exact absurd hd (nd hc)) | skip
  all_goals
   refine callX_fn 3 (namePr lab) (by simp only[go_sem]) rfl ?_
   cases he:nameB lab <;> by_cases hf:lab=[] <;> simp (config:={ decide:=true }) only[go_sem,Int.reduceToNat,Nat.reduceAdd,Nat.reduceSub,Nat.reduceMul,Nat.reduceBEq,reduceIte,reduceCtorEq,hf] <;> first | (simp[rb,hb,hd,hf];done) | (exact absurd hf (nl he)) | skip
 ·have hJ:8≤op∧op≤11:=by omega
  refine callX_fn 3 (opsOfJ op rg loc lab n hJ) (by simp only[go_sem]) rfl ?_
  simp (config:={ decide:=true }) only[go_sem,Int.reduceToNat,Nat.reduceAdd,Nat.reduceSub,Nat.reduceMul,Nat.reduceBEq,reduceIte,reduceCtorEq,mJumps]
  refine callX_fn 3 (jumpsHas op rg loc lab n) (by simp only[go_sem]) rfl ?_
  have e1:hasReg op=false:=by unfold hasReg;simp;omega
  have e2:hasLoc op=false:=by unfold hasLoc;simp;omega
  have e3:hasLab op=true:=by unfold hasLab;simp;omega
  have e4:hasN op=false:=by unfold hasN;simp;omega
  rw[e1,e2,e3,e4]
  simp (config:={ decide:=true }) only[go_sem,Int.reduceToNat,Nat.reduceAdd,Nat.reduceSub,Nat.reduceMul,Nat.reduceBEq,reduceIte,reduceCtorEq]
  all_goals
   refine callX_fn 3 (regPr rg) (by simp only[go_sem]) rfl ?_
   generalize hga:decide (0≤regB rg)=ga
   have hga' : (0≤regB rg)=(ga=true):=by rw[←hga];simp
   clear hga
   cases ga <;> by_cases hb:rg=[] <;> simp (config:={ decide:=true }) only[go_sem,Int.reduceToNat,Nat.reduceAdd,Nat.reduceSub,Nat.reduceMul,Nat.reduceBEq,reduceIte,reduceCtorEq,hga',hb] <;> first | (simp[rb,hb];done) | (exact reg_empty hga' hb) | skip
  all_goals
   refine callX_fn 3 (namePr loc) (by simp only[go_sem]) rfl ?_
   cases hc:nameB loc <;> by_cases hd:loc=[] <;> simp (config:={ decide:=true }) only[go_sem,Int.reduceToNat,Nat.reduceAdd,Nat.reduceSub,Nat.reduceMul,Nat.reduceBEq,reduceIte,reduceCtorEq,hd] <;> first | (simp[rb,hb,hd];done) | (exact absurd hd (nd hc)) | skip
  all_goals
   refine callX_fn 3 (namePr lab) (by simp only[go_sem]) rfl ?_
   cases he:nameB lab <;> by_cases hf:lab=[] <;> simp (config:={ decide:=true }) only[go_sem,Int.reduceToNat,Nat.reduceAdd,Nat.reduceSub,Nat.reduceMul,Nat.reduceBEq,reduceIte,reduceCtorEq,hf] <;> first | (simp[rb,hb,hd,hf];done) | (exact absurd hf (nl he)) | skip
end Go.Proofs.YtmapdjdnnhlpiaaGreatDoor
namespace Go.Proofs.YtmapdjdnnhlpiaaGreatDoor
open Go.RowKit
set_option maxRecDepth 8000
def atB (loc:List UInt8):List UInt8:=[91]++loc++[93]
def movB:List UInt8:=[109,111,118]
def xchgB:List UInt8:=[120,99,104,103]
def mfenceB:List UInt8:=[109,102,101,110,99,101]
def cmpB:List UInt8:=[99,109,112]
def jmpB:List UInt8:=[106,109,112]
def jeB:List UInt8:=[106,101]
def jneB:List UInt8:=[106,110,101]
def wordsO (op:Int) (rg loc lab:List UInt8) (n:Int):List (List UInt8) :=
 if op=1 then [movB,rg,textB n]
 else if op=2 then [movB,rg,atB loc]
 else if op=3 then [movB,atB loc,rg]
 else if op=4 then [movB,atB loc,textB n]
 else if op=5 then [xchgB,atB loc,rg]
 else if op=6 then [mfenceB]
 else if op=7 then [cmpB,rg,textB n]
 else if op=8 then [jmpB,lab]
 else if op=9 then [jeB,lab]
 else if op=10 then [jneB,lab]
 else [lab++[58]]
theorem rightB_op {op:Int} {rg loc lab:List UInt8} {n:Int} (h:rightB op rg loc lab n=true):1≤op∧op≤11:=by
 simp only[rightB,Bool.and_eq_true,decide_eq_true_eq] at h
 exact h.1
def lineW (op:Int) (rg loc lab:List UInt8) (n:Int):List (List UInt8):=if rightB op rg loc lab n=true then wordsO op rg loc lab n else []
theorem own_nil {f:FuncId} {args:List HV} (h:HFn Tryz.prog f args (.v (.slice none 0 0))):HFn Tryz.prog f args (owStrs []) :=
 HCalls.conv h fun x H' hx=>⟨_,rfl,.inr ⟨by rw[hx];rfl,by rw[hx];exact Conv.nilOw _ _⟩⟩
end Go.Proofs.YtmapdjdnnhlpiaaGreatDoor
namespace Go.Proofs.YtmapdjdnnhlpiaaGreatDoor
open Go.RowKit
section
variable {P:Program} {H:Heap} {k:List Item→KS} {all l:List Oper} {d:Option Nat} {r:List Item} {T:Nat→HV}
theorem exRq_sadd {t:TypeId} {c:Bool} {a b:List UInt8}:exRq k (bindO (binRes P .add t c (.v (str a)) (.v (str b))) fun v=>rv H True (.v v)) all d l r T H=(a.length+b.length≤9223372036854775807∧k (.quiet all l::r) (updO T d (.v (str (a++b)))) H):=by
 have e1:(⟨a.toArray⟩:ByteArray).size=a.length:=by simp[ByteArray.size]
 have e2:(⟨b.toArray⟩:ByteArray).size=b.length:=by simp[ByteArray.size]
 have e3:(⟨a.toArray⟩:ByteArray)++(⟨b.toArray⟩:ByteArray)=⟨(a++b).toArray⟩:=by
  apply ByteArray.ext
  apply Array.ext'
  simp[ByteArray.data_append]
 have e4:binRes P .add t c (.v (str a)) (.v (str b))=if a.length+b.length≤9223372036854775807 then some (str (a++b)) else none:=by
  show (if (⟨a.toArray⟩:ByteArray).size+(⟨b.toArray⟩:ByteArray).size≤9223372036854775807 then some (Value.string ((⟨a.toArray⟩:ByteArray)++(⟨b.toArray⟩:ByteArray))) else none)=_
  rw[e1,e2,e3];rfl
 rw[e4]
 by_cases h:a.length+b.length≤9223372036854775807
 ·simp only[h,if_true,bindO_some,true_and]
  show (True∧_)=_
  simp
 ·simp only[h,if_false,bindO_none,false_and]
  rfl
end
attribute [go_sem] exRq_sadd
end Go.Proofs.YtmapdjdnnhlpiaaGreatDoor
