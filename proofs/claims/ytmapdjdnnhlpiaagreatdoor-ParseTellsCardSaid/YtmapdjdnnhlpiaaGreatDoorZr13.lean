/- Parts of the proof: Ne, Ls, Nl, Ng, Nc, Nf, Nh, HiDk, Ni. -/
import Derived.Test.YtmapdjdnnhlpiaaGreatDoorZr11
import Derived.Test.YtmapdjdnnhlpiaaGreatDoorZr12
import Derived.Shelf.SlIter.Nil
import Derived.Shelf.SlIter.Sorted
import Derived.Shelf.SortM.Plain
import Derived.Shelf.SortM.SortNone
import Derived.Test.YtmapdjdnnhlpiaaGreatDoorProg
import Derived.KernelRfl
import Derived.Test.YtmapdjdnnhlpiaaGreatDoorZr10
import Derived.StringKeys
import Derived.Test.YtmapdjdnnhlpiaaGreatDoorZr07
import Derived.WalkKit
import Derived.LaidEql
import Derived.Stop.Asserts
import Derived.RowKitTokens
set_option linter.unusedSectionVars false
set_option linter.unusedVariables false
set_option linter.unusedSimpArgs false
namespace Go.Proofs.YtmapdjdnnhlpiaaGreatDoor
open Go.RowKit
set_option maxRecDepth 8000
def labsL (l:List LT):List (List UInt8):=(l.filter fun x=>decide (x.op=11)).map (·.lab)
theorem labsL_snoc (l:List LT) (x:LT):labsL (l++[x])=if x.op=11 then labsL l++[x.lab] else labsL l:=by
 unfold labsL
 by_cases h:x.op=11 <;> simp[h,List.filter_append]
theorem labsL_len (l:List LT):(labsL l).length≤l.length:=by
 unfold labsL
 rw[List.length_map]
 exact List.length_filter_le _ _
theorem labN_cons (s:List UInt8) (x:LT) (l:List LT):labN s (x::l)=(if x.op=11∧x.lab=s then 1 else 0)+labN s l:=by
 unfold labN
 by_cases h1:x.op=11 <;> by_cases h2:x.lab=s <;> simp[h1,h2] <;> omega
theorem labN_snoc (s:List UInt8) (x:LT) (l:List LT):labN s (l++[x])=labN s l+(if x.op=11∧x.lab=s then 1 else 0):=by
 unfold labN
 by_cases h1:x.op=11 <;> by_cases h2:x.lab=s <;> simp[h1,h2,List.filter_append]
theorem labN_labs (s:List UInt8):∀l:List LT,((labsL l).filter fun y=>decide (y=s)).length=labN s l
 | []=>rfl
 | x::l=>by
  have:=labN_labs s l
  rw[labN_cons,←this]
  unfold labsL
  by_cases h1:x.op=11 <;> by_cases h2:x.lab=s <;> simp[h1,h2] <;> omega
theorem getM_labs (s:List UInt8) (l:List LT):getM (foldC [] (labsL l)) s=labN s l:=by
 rw[getM_foldC,getM_nil',labN_labs];omega
theorem labN_le (s:List UInt8) (l:List LT):labN s l≤l.length:=List.length_filter_le _ _
theorem fenN_le (l:List LT):fenN l≤l.length:=List.length_filter_le _ _
theorem mrkN_le (l:List LT):mrkN l≤l.length:=List.length_filter_le _ _
theorem insN_le (l:List LT):insN l≤l.length:=List.length_filter_le _ _
theorem fenN_snoc (l:List LT) (x:LT):fenN (l++[x])=fenN l+if x.op=6 then 1 else 0:=by
 unfold fenN
 by_cases h:x.op=6 <;> simp[h,List.filter_append]
theorem mrkN_snoc (l:List LT) (x:LT):mrkN (l++[x])=mrkN l+if x.op=11 then 1 else 0:=by
 unfold mrkN
 by_cases h:x.op=11 <;> simp[h,List.filter_append]
theorem insN_snoc (l:List LT) (x:LT):insN (l++[x])=insN l+if x.op≠6∧x.op≠11 then 1 else 0:=by
 unfold insN
 by_cases h:x.op=6 <;> by_cases h2:x.op=11 <;> simp[h,h2,List.filter_append]
theorem fenB_snoc (l:List LT) (x:LT):fenB (l++[x])=decide (x.op=6):=by simp[fenB]
abbrev a3 (x y z:Int):HObj:=⟨131,3,[[.v (.int .i64 x),.v (.int .i64 y),.v (.int .i64 z)]]⟩
def thrO (t:Int) (l:List LT):Option (Int×Int×Int):=(thrE [] l).map fun p=>(t,(p.1:Int),p.2)
set_option maxHeartbeats 16000000 in
theorem validThread (t:Int) (l:List LT) (hl:l.length≤1000000):HFn Tryz.prog 64 [.v (.int .i64 t),.sl (lns l)] (wrO (thrO t l)):=by
 refine HCalls_body (fn:=Tryz.f64) 120 [4] (by kernel_rfl) rfl (by kernel_rfl) (HW.run 400 (by kernel_rfl) ?_)
 simp (config:={ decide:=true }) only[go_sem,Int.reduceToNat,Nat.reduceAdd,Nat.reduceSub,Nat.reduceMul,Nat.reduceBEq,reduceIte,reduceCtorEq]
 refine HW.loopG (fun k T H=>∃(i:Nat),k=l.length-i∧i≤l.length∧T 0=.v (.int .i64 t)∧T 1=.sl (lns l)∧T 5=.pt 0 1 0 0∧T 6=.pt 1 1 0 0∧T 7=.mp 2∧T 8=.mp 3∧T 22=.sl (lns l)∧T 23=.v (.int .i64 l.length)∧T 24=.v (.int .i64 i)∧H=[some (a3 l.length 8 8),some (a3 0 0 0),some (mapS (foldC [] (labsL (l.take i)))),some (mapS [])]) l.length ⟨_,_,Ghost.refl,0,rfl,by omega,rfl,rfl,rfl,rfl,rfl,rfl,rfl,rfl,rfl,rfl⟩ ?_
 rintro k T H ⟨i,rfl,hil,h0,h1,h5,h6,h7,h8,h22,h23,h24,rfl⟩
 refine HW.run 200 (by kernel_rfl) ?_
 by_cases hlt:i<l.length
 ·have hlt' : ((i:Int)<(l.length:Int))=True:=by simp only[eq_iff_iff,iff_true];omega
  have hx:l[i]?=some l[i]:=List.getElem?_eq_getElem hlt
  have htk:l.take (i+1)=l.take i++[l[i]]:=by rw[List.take_add_one,hx];rfl
  have hjl:=labsL_len (l.take i)
  rw[List.length_take] at hjl
  generalize l[i]=x at hx htk
  have hs:=labsL_snoc (l.take i) x
  rw[←htk] at hs
  have hg:=getM_labs x.lab (l.take i)
  have hg2:=labN_le x.lab (l.take i)
  rw[List.length_take] at hg2
  have hw:IntKind.i64.wrap (getM (foldC [] (labsL (l.take i))) x.lab+1)=getM (foldC [] (labsL (l.take i))) x.lab+1:=w64 (by omega) (by omega)
  simp (config:={ decide:=true }) only[go_sem,Int.reduceToNat,Nat.reduceAdd,Nat.reduceSub,Nat.reduceMul,Nat.reduceBEq,reduceIte,reduceCtorEq,h0,h1,h5,h6,h7,h8,h22,h23,h24,hlt',hx,lnrow]
  refine callX_fn 3 (validKind x) (by simp only[go_sem]) rfl ?_
  by_cases hop:x.op=11
  ·have hk:kindI x.op=1:=by unfold kindI;rw[hop];rfl
   rw[if_pos hop] at hs
   simp (config:={ decide:=true }) only[go_sem,Int.reduceToNat,Nat.reduceAdd,Nat.reduceSub,Nat.reduceMul,Nat.reduceBEq,reduceIte,reduceCtorEq,h0,h1,h5,h6,h7,h8,h22,h23,h24,hk,hw]
   refine ⟨_,_,Ghost.trunc [0,1,5,6,7,8,22,23,24] 4 (by omega) ?_ ?_,l.length-(i+1),by omega,i+1,rfl,by omega,?_,?_,?_,?_,?_,?_,?_,?_,?_,?_⟩
   all_goals first | (simp (config:={ decide:=true }) only[go_sem,Nat.reduceBEq,reduceIte,h0,h1,h5,h6,h7,h8,h22,h23,h24];done) | (simp (config:={ decide:=true }) only[go_sem,Nat.reduceBEq,reduceIte];rw[w64 (by omega) (by omega)];rfl) | (rw[hs,foldC_snoc];rfl)
  ·have hk:(kindI x.op=1)=False:=by unfold kindI;split <;> simp_all
   rw[if_neg hop] at hs
   simp (config:={ decide:=true }) only[go_sem,Int.reduceToNat,Nat.reduceAdd,Nat.reduceSub,Nat.reduceMul,Nat.reduceBEq,reduceIte,reduceCtorEq,h0,h1,h5,h6,h7,h8,h22,h23,h24,hk]
   refine ⟨_,_,Ghost.trunc [0,1,5,6,7,8,22,23,24] 4 (by omega) ?_ ?_,l.length-(i+1),by omega,i+1,rfl,by omega,?_,?_,?_,?_,?_,?_,?_,?_,?_,?_⟩
   all_goals first | (simp (config:={ decide:=true }) only[go_sem,Nat.reduceBEq,reduceIte,h0,h1,h5,h6,h7,h8,h22,h23,h24];done) | (simp (config:={ decide:=true }) only[go_sem,Nat.reduceBEq,reduceIte];rw[w64 (by omega) (by omega)];rfl) | (rw[hs];rfl)
 ·have hlt' : ((i:Int)<(l.length:Int))=False:=by simp only[eq_iff_iff,iff_false];omega
  obtain rfl:i=l.length:=by omega
  rw[List.take_length]
  simp (config:={ decide:=true }) only[go_sem,Int.reduceToNat,Nat.reduceAdd,Nat.reduceSub,Nat.reduceMul,Nat.reduceBEq,reduceIte,reduceCtorEq,h0,h1,h5,h6,h7,h8,h22,h23,h24,hlt']
  refine HW.loopG (fun k T H=>∃(i:Nat) (left seen:List (List UInt8×Int)),k=l.length-i∧i≤l.length∧(∀s,getM left s=labN s (l.drop i))∧(∀s,getM seen s=labN s (l.take i))∧thrE [] l=thrE (l.take i) (l.drop i)∧T 0=.v (.int .i64 t)∧T 5=.pt 0 1 0 0∧T 6=.pt 1 1 0 0∧T 7=.mp 2∧T 8=.mp 3∧T 11=.v (.bool (fenB (l.take i)))∧T 37=.sl (lns l)∧T 38=.v (.int .i64 l.length)∧T 39=.v (.int .i64 i)∧H=[some (a3 l.length 8 8),some (a3 (fenN (l.take i)) (mrkN (l.take i)) (insN (l.take i))),some (mapS left),some (mapS seen)]) l.length ⟨_,_,Ghost.refl,0,foldC [] (labsL l),[],rfl,by omega,fun s=>getM_labs s l,fun s=>rfl,rfl,by simp (config:={ decide:=true }) only[go_sem,Nat.reduceBEq,reduceIte,h0],by simp (config:={ decide:=true }) only[go_sem,Nat.reduceBEq,reduceIte,h5],by simp (config:={ decide:=true }) only[go_sem,Nat.reduceBEq,reduceIte,h6],by simp (config:={ decide:=true }) only[go_sem,Nat.reduceBEq,reduceIte,h7],by simp (config:={ decide:=true }) only[go_sem,Nat.reduceBEq,reduceIte,h8],rfl,rfl,rfl,rfl,rfl⟩ ?_
  clear h0 h1 h5 h6 h7 h8 h22 h23 h24 hlt' hlt
  rintro k T H ⟨i,left,seen,rfl,hil,hL,hS,hI,h0,h5,h6,h7,h8,h11,h37,h38,h39,rfl⟩
  refine HW.run 300 (by kernel_rfl) ?_
  by_cases hlt:i<l.length
  ·have hlt' : ((i:Int)<(l.length:Int))=True:=by simp only[eq_iff_iff,iff_true];omega
   have hx:l[i]?=some l[i]:=List.getElem?_eq_getElem hlt
   have htk:l.take (i+1)=l.take i++[l[i]]:=by rw[List.take_add_one,hx];rfl
   have hdr:l.drop i=l[i]::l.drop (i+1):=List.drop_eq_getElem_cons hlt
   have hal:(l.take i).length=i:=by rw[List.length_take];omega
   have hbl:(l.drop (i+1)).length≤1000000:=by rw[List.length_drop];omega
   rw[hdr] at hI
   simp only[hdr] at hL
   generalize l[i]=x at hx htk hI hL
   generalize l.take i=a at htk hal hI hS h11
   generalize hbb:l.drop (i+1)=b at hI hL hbl
   rw[thrE] at hI
   have bad:∀e,lineE a x b=e→e≠0→thrO t l=some (t,(i:Int),e):=fun e he h0=>by
    unfold thrO;rw[hI,he,if_neg h0,hal];rfl
   have fN:=fenN_le a
   have mN:=mrkN_le a
   have iN:=insN_le a
   have lx:=labN_le x.lab b
   have sx:=labN_le x.lab a
   have Lx:=hL x.lab
   have Sx:=hS x.lab
   simp (config:={ decide:=true }) only[go_sem,Int.reduceToNat,Nat.reduceAdd,Nat.reduceSub,Nat.reduceMul,Nat.reduceBEq,reduceIte,reduceCtorEq,h0,h5,h6,h7,h8,h11,h37,h38,h39,hlt',hx,lnrow]
   refine callX_fn 3 (validKind x) (by simp only[go_sem]) rfl ?_
   have hR:rightB x.op x.rg x.loc x.lab x.n=x.right:=rfl
   by_cases o6:x.op=6
   ·have hk:kindI x.op=0:=by unfold kindI;rw[o6];rfl
    have o8:¬8≤x.op:=by omega
    have hLn:∀s,getM left s=labN s b:=fun s=>by rw[hL s,labN_cons,if_neg (by omega)];simp
    have hSn:∀s,getM seen s=labN s (a++[x]):=fun s=>by rw[hS s,labN_snoc,if_neg (by omega)];simp
    simp (config:={ decide:=true }) only[go_sem,Int.reduceToNat,Nat.reduceAdd,Nat.reduceSub,Nat.reduceMul,Nat.reduceBEq,reduceIte,reduceCtorEq,h0,h5,h6,h7,h8,h11,h37,h38,h39,hk,o6]
    rw[o6] at hR
    refine callX_fn 3 (opsRight 6 x.rg x.loc x.lab x.n) (by simp only[go_sem]) rfl ?_
    rw[hR]
    cases hr:x.right with
    | false =>
     have hb:=bad 11 (by unfold lineE;rw[if_pos hr]) (by decide)
     simp (config:={ decide:=true }) only[go_sem,Int.reduceToNat,Nat.reduceAdd,Nat.reduceSub,Nat.reduceMul,Nat.reduceBEq,reduceIte,reduceCtorEq,h0,h5,h6,h7,h8,h11,h37,h38,h39]
     rw[hb];rfl
    | true =>
     cases hf:fenB a with
     | true =>
      have hb:=bad 23 (by unfold lineE;rw[if_neg (by simp[hr]),if_neg (by omega),if_pos ⟨o6,hf⟩]) (by decide)
      rw[hf] at h11
      simp (config:={ decide:=true }) only[go_sem,Int.reduceToNat,Nat.reduceAdd,Nat.reduceSub,Nat.reduceMul,Nat.reduceBEq,reduceIte,reduceCtorEq,h0,h5,h6,h7,h8,h11,h37,h38,h39]
      rw[hb];rfl
     | false =>
      have he:lineE a x b=0:=by unfold lineE;rw[if_neg (by simp[hr]),if_neg (by omega),if_neg (by simp[hf]),if_neg (by omega),if_neg (by omega)]
      rw[if_pos he] at hI
      rw[hf] at h11
      have c1:((l.length:Int)≤(fenN a:Int))=False:=by simp only[eq_iff_iff,iff_false];omega
      have hw:IntKind.i64.wrap ((fenN a:Int)+1)=(fenN a:Int)+1:=w64 (by omega) (by omega)
      simp (config:={ decide:=true }) only[go_sem,Int.reduceToNat,Nat.reduceAdd,Nat.reduceSub,Nat.reduceMul,Nat.reduceBEq,reduceIte,reduceCtorEq,h0,h5,h6,h7,h8,h11,h37,h38,h39]
      refine HW.tree 1 (.light 0 (.light 1 (.light 2 (.light 3 (.light 4 (.light 5 (.light 6 (.light 7 .leaf)))))))) follows (by kernel_rfl) (by kernel_rfl) ?_
      simp (config:={ decide:=true }) only[go_sem,Int.reduceToNat,Nat.reduceAdd,Nat.reduceSub,Nat.reduceMul,Nat.reduceBEq,reduceIte,reduceCtorEq,h0,h5,h6,h7,h8,h11,h37,h38,h39,c1,hw]
      refine ⟨_,_,Ghost.trunc [0,5,6,7,8,11,37,38,39] 4 (by omega) ?_ ?_,l.length-(i+1),by omega,i+1,left,seen,rfl,by omega,by rw[hbb];exact hLn,by rw[htk];exact hSn,by rw[htk,hbb];exact hI,?_,?_,?_,?_,?_,?_,?_,?_,?_,?_⟩
      all_goals first | (simp (config:={ decide:=true }) only[go_sem,Nat.reduceBEq,reduceIte,h0,h5,h6,h7,h8,h11,h37,h38,h39];done) | (simp (config:={ decide:=true }) only[go_sem,Nat.reduceBEq,reduceIte];rw[w64 (by omega) (by omega)];rfl) | (rw[htk,fenB_snoc,o6];rfl) | (rw[htk,fenN_snoc,mrkN_snoc,insN_snoc];simp only[o6];rfl)
   ·by_cases o11:x.op=11
    ·have hk:kindI x.op=1:=by unfold kindI;rw[o11];rfl
     have hlx:labN x.lab (x::b)=1+labN x.lab b:=by rw[labN_cons,if_pos ⟨o11,rfl⟩]
     have hwl:IntKind.i64.wrap (getM left x.lab-1)=getM left x.lab-1:=w64 (by omega) (by omega)
     have hws:IntKind.i64.wrap (getM seen x.lab+1)=getM seen x.lab+1:=w64 (by omega) (by omega)
     have hwm:IntKind.i64.wrap ((mrkN a:Int)+1)=(mrkN a:Int)+1:=w64 (by omega) (by omega)
     have hLn:∀s,getM (setM left x.lab (getM left x.lab-1)) s=labN s b:=fun s=>by
      rw[getM_setM']
      by_cases hs:s=x.lab
      ·rw[if_pos hs,Lx,hlx,hs];omega
      ·rw[if_neg hs,hL s,labN_cons,if_neg (fun h=>hs h.2.symm)];simp
     have hSn:∀s,getM (setM seen x.lab (getM seen x.lab+1)) s=labN s (a++[x]):=fun s=>by
      rw[getM_setM',labN_snoc]
      by_cases hs:s=x.lab
      ·rw[if_pos hs,Sx,hs,if_pos ⟨o11,rfl⟩];omega
      ·rw[if_neg hs,hS s,if_neg (fun h=>hs h.2.symm)];simp
     simp (config:={ decide:=true }) only[go_sem,Int.reduceToNat,Nat.reduceAdd,Nat.reduceSub,Nat.reduceMul,Nat.reduceBEq,reduceIte,reduceCtorEq,h0,h5,h6,h7,h8,h11,h37,h38,h39,hk,o11,hwl]
     rw[o11] at hR
     refine callX_fn 3 (opsRight 11 x.rg x.loc x.lab x.n) (by simp only[go_sem]) rfl ?_
     rw[hR]
     cases hr:x.right with
     | false =>
      have hb:=bad 11 (by unfold lineE;rw[if_pos hr]) (by decide)
      simp (config:={ decide:=true }) only[go_sem,Int.reduceToNat,Nat.reduceAdd,Nat.reduceSub,Nat.reduceMul,Nat.reduceBEq,reduceIte,reduceCtorEq,h0,h5,h6,h7,h8,h11,h37,h38,h39]
      rw[hb];rfl
     | true =>
      by_cases hse:0<labN x.lab a
      ·have hb:=bad 21 (by unfold lineE;rw[if_neg (by simp[hr]),if_pos ⟨o11,hse⟩]) (by decide)
       have c1:((0:Int)<getM seen x.lab)=True:=by simp only[eq_iff_iff,iff_true];omega
       simp (config:={ decide:=true }) only[go_sem,Int.reduceToNat,Nat.reduceAdd,Nat.reduceSub,Nat.reduceMul,Nat.reduceBEq,reduceIte,reduceCtorEq,h0,h5,h6,h7,h8,h11,h37,h38,h39,c1]
       rw[hb];rfl
      ·have c1:((0:Int)<getM seen x.lab)=False:=by simp only[eq_iff_iff,iff_false];omega
       by_cases hm:8≤mrkN a
       ·have hb:=bad 5 (by unfold lineE;rw[if_neg (by simp[hr]),if_neg (by omega),if_neg (by omega),if_neg (by omega),if_pos (by omega)]) (by decide)
        have c2:((8:Int)≤(mrkN a:Int))=True:=by simp only[eq_iff_iff,iff_true];omega
        simp (config:={ decide:=true }) only[go_sem,Int.reduceToNat,Nat.reduceAdd,Nat.reduceSub,Nat.reduceMul,Nat.reduceBEq,reduceIte,reduceCtorEq,h0,h5,h6,h7,h8,h11,h37,h38,h39,c1]
        refine HW.tree 1 (.light 0 (.light 1 (.light 2 (.light 3 (.light 4 (.light 5 (.light 6 (.light 7 .leaf)))))))) follows (by kernel_rfl) (by kernel_rfl) ?_
        simp (config:={ decide:=true }) only[go_sem,Int.reduceToNat,Nat.reduceAdd,Nat.reduceSub,Nat.reduceMul,Nat.reduceBEq,reduceIte,reduceCtorEq,h0,h5,h6,h7,h8,h11,h37,h38,h39,c2]
        rw[hb];rfl
       ·have he:lineE a x b=0:=by unfold lineE;rw[if_neg (by simp[hr]),if_neg (by omega),if_neg (by omega),if_neg (by omega),if_neg (by omega)]
        rw[if_pos he] at hI
        have c2:((8:Int)≤(mrkN a:Int))=False:=by simp only[eq_iff_iff,iff_false];omega
        simp (config:={ decide:=true }) only[go_sem,Int.reduceToNat,Nat.reduceAdd,Nat.reduceSub,Nat.reduceMul,Nat.reduceBEq,reduceIte,reduceCtorEq,h0,h5,h6,h7,h8,h11,h37,h38,h39,c1]
        refine HW.tree 1 (.light 0 (.light 1 (.light 2 (.light 3 (.light 4 (.light 5 (.light 6 (.light 7 .leaf)))))))) follows (by kernel_rfl) (by kernel_rfl) ?_
        simp (config:={ decide:=true }) only[go_sem,Int.reduceToNat,Nat.reduceAdd,Nat.reduceSub,Nat.reduceMul,Nat.reduceBEq,reduceIte,reduceCtorEq,h0,h5,h6,h7,h8,h11,h37,h38,h39,c2,hws,hwm]
        refine ⟨_,_,Ghost.trunc [0,5,6,7,8,11,37,38,39] 4 (by omega) ?_ ?_,l.length-(i+1),by omega,i+1,setM left x.lab (getM left x.lab-1),setM seen x.lab (getM seen x.lab+1),rfl,by omega,by rw[hbb];exact hLn,by rw[htk];exact hSn,by rw[htk,hbb];exact hI,?_,?_,?_,?_,?_,?_,?_,?_,?_,?_⟩
        all_goals first | (simp (config:={ decide:=true }) only[go_sem,Nat.reduceBEq,reduceIte,h0,h5,h6,h7,h8,h11,h37,h38,h39];done) | (simp (config:={ decide:=true }) only[go_sem,Nat.reduceBEq,reduceIte];rw[w64 (by omega) (by omega)];rfl) | (rw[htk,fenB_snoc,o11];rfl) | (rw[htk,fenN_snoc,mrkN_snoc,insN_snoc];simp only[o11];rfl)
    ·have hk:kindI x.op=2:=by unfold kindI;rw[if_neg o6,if_neg o11]
     have hLn:∀s,getM left s=labN s b:=fun s=>by rw[hL s,labN_cons,if_neg (by omega)];simp
     have hSn:∀s,getM seen s=labN s (a++[x]):=fun s=>by rw[hS s,labN_snoc,if_neg (by omega)];simp
     have hwi:IntKind.i64.wrap ((insN a:Int)+1)=(insN a:Int)+1:=w64 (by omega) (by omega)
     have Lb:=hLn x.lab
     have fin:(8≤x.op∧x.op≤10→labN x.lab b≠0)→x.right=true→(8≤insN a→lineE a x b=5)∧(¬8≤insN a→lineE a x b=0):=fun hj hr=>by
      refine ⟨fun h=>?_,fun h=>?_⟩
      ·unfold lineE;rw[if_neg (by simp[hr]),if_neg (by omega),if_neg (by omega),if_neg (fun hh=>hj ⟨hh.1,hh.2.1⟩ hh.2.2),if_pos (.inl ⟨o6,o11,h⟩)]
      ·unfold lineE;rw[if_neg (by simp[hr]),if_neg (by omega),if_neg (by omega),if_neg (fun hh=>hj ⟨hh.1,hh.2.1⟩ hh.2.2),if_neg (by omega)]
     by_cases j1:8≤x.op
     ·by_cases j2:x.op≤10
      ·simp (config:={ decide:=true }) only[go_sem,Int.reduceToNat,Nat.reduceAdd,Nat.reduceSub,Nat.reduceMul,Nat.reduceBEq,reduceIte,reduceCtorEq,h0,h5,h6,h7,h8,h11,h37,h38,h39,hk,o6,o11,j1,j2]
       refine callX_fn 3 (opsRight x.op x.rg x.loc x.lab x.n) (by simp only[go_sem]) rfl ?_
       rw[hR]
       cases hr:x.right with
       | false =>
        have hb:=bad 11 (by unfold lineE;rw[if_pos hr]) (by decide)
        simp (config:={ decide:=true }) only[go_sem,Int.reduceToNat,Nat.reduceAdd,Nat.reduceSub,Nat.reduceMul,Nat.reduceBEq,reduceIte,reduceCtorEq,h0,h5,h6,h7,h8,h11,h37,h38,h39]
        rw[hb];rfl
       | true =>
        by_cases h0b:labN x.lab b=0
        ·have hb:=bad 22 (by unfold lineE;rw[if_neg (by simp[hr]),if_neg (by omega),if_neg (by omega),if_pos ⟨j1,j2,h0b⟩]) (by decide)
         have c1:(getM left x.lab=0)=True:=by simp only[eq_iff_iff,iff_true];omega
         simp (config:={ decide:=true }) only[go_sem,Int.reduceToNat,Nat.reduceAdd,Nat.reduceSub,Nat.reduceMul,Nat.reduceBEq,reduceIte,reduceCtorEq,h0,h5,h6,h7,h8,h11,h37,h38,h39,c1]
         rw[hb];rfl
        ·have c1:(getM left x.lab=0)=False:=by simp only[eq_iff_iff,iff_false];omega
         have hfin:=fin (fun _=>h0b) hr
         by_cases hm:8≤insN a
         ·have hb:=bad 5 (hfin.1 hm) (by decide)
          have c2:((8:Int)≤(insN a:Int))=True:=by simp only[eq_iff_iff,iff_true];omega
          simp (config:={ decide:=true }) only[go_sem,Int.reduceToNat,Nat.reduceAdd,Nat.reduceSub,Nat.reduceMul,Nat.reduceBEq,reduceIte,reduceCtorEq,h0,h5,h6,h7,h8,h11,h37,h38,h39,c1]
          refine HW.tree 1 (.light 0 (.light 1 (.light 2 (.light 3 (.light 4 (.light 5 (.light 6 (.light 7 .leaf)))))))) follows (by kernel_rfl) (by kernel_rfl) ?_
          simp (config:={ decide:=true }) only[go_sem,Int.reduceToNat,Nat.reduceAdd,Nat.reduceSub,Nat.reduceMul,Nat.reduceBEq,reduceIte,reduceCtorEq,h0,h5,h6,h7,h8,h11,h37,h38,h39,c2]
          rw[hb];rfl
         ·rw[if_pos (hfin.2 hm)] at hI
          have c2:((8:Int)≤(insN a:Int))=False:=by simp only[eq_iff_iff,iff_false];omega
          simp (config:={ decide:=true }) only[go_sem,Int.reduceToNat,Nat.reduceAdd,Nat.reduceSub,Nat.reduceMul,Nat.reduceBEq,reduceIte,reduceCtorEq,h0,h5,h6,h7,h8,h11,h37,h38,h39,c1]
          refine HW.tree 1 (.light 0 (.light 1 (.light 2 (.light 3 (.light 4 (.light 5 (.light 6 (.light 7 .leaf)))))))) follows (by kernel_rfl) (by kernel_rfl) ?_
          simp (config:={ decide:=true }) only[go_sem,Int.reduceToNat,Nat.reduceAdd,Nat.reduceSub,Nat.reduceMul,Nat.reduceBEq,reduceIte,reduceCtorEq,h0,h5,h6,h7,h8,h11,h37,h38,h39,c2,hwi]
          refine ⟨_,_,Ghost.trunc [0,5,6,7,8,11,37,38,39] 4 (by omega) ?_ ?_,l.length-(i+1),by omega,i+1,left,seen,rfl,by omega,by rw[hbb];exact hLn,by rw[htk];exact hSn,by rw[htk,hbb];exact hI,?_,?_,?_,?_,?_,?_,?_,?_,?_,?_⟩
          all_goals first | (simp (config:={ decide:=true }) only[go_sem,Nat.reduceBEq,reduceIte,h0,h5,h6,h7,h8,h11,h37,h38,h39];done) | (simp (config:={ decide:=true }) only[go_sem,Nat.reduceBEq,reduceIte];rw[w64 (by omega) (by omega)];rfl) | (rw[htk,fenB_snoc,decide_eq_false o6];rfl) | (rw[htk,fenN_snoc,mrkN_snoc,insN_snoc,if_neg o6,if_neg o11,if_pos ⟨o6,o11⟩];rfl)
      ·simp (config:={ decide:=true }) only[go_sem,Int.reduceToNat,Nat.reduceAdd,Nat.reduceSub,Nat.reduceMul,Nat.reduceBEq,reduceIte,reduceCtorEq,h0,h5,h6,h7,h8,h11,h37,h38,h39,hk,o6,o11,j1,j2]
       refine callX_fn 3 (opsRight x.op x.rg x.loc x.lab x.n) (by simp only[go_sem]) rfl ?_
       rw[hR]
       cases hr:x.right with
       | false =>
        have hb:=bad 11 (by unfold lineE;rw[if_pos hr]) (by decide)
        simp (config:={ decide:=true }) only[go_sem,Int.reduceToNat,Nat.reduceAdd,Nat.reduceSub,Nat.reduceMul,Nat.reduceBEq,reduceIte,reduceCtorEq,h0,h5,h6,h7,h8,h11,h37,h38,h39]
        rw[hb];rfl
       | true =>
        have c1:True=True:=rfl
        have hfin:=fin (fun h=>absurd h.2 j2) hr
        by_cases hm:8≤insN a
        ·have hb:=bad 5 (hfin.1 hm) (by decide)
         have c2:((8:Int)≤(insN a:Int))=True:=by simp only[eq_iff_iff,iff_true];omega
         simp (config:={ decide:=true }) only[go_sem,Int.reduceToNat,Nat.reduceAdd,Nat.reduceSub,Nat.reduceMul,Nat.reduceBEq,reduceIte,reduceCtorEq,h0,h5,h6,h7,h8,h11,h37,h38,h39,c1]
         refine HW.tree 1 (.light 0 (.light 1 (.light 2 (.light 3 (.light 4 (.light 5 (.light 6 (.light 7 .leaf)))))))) follows (by kernel_rfl) (by kernel_rfl) ?_
         simp (config:={ decide:=true }) only[go_sem,Int.reduceToNat,Nat.reduceAdd,Nat.reduceSub,Nat.reduceMul,Nat.reduceBEq,reduceIte,reduceCtorEq,h0,h5,h6,h7,h8,h11,h37,h38,h39,c2]
         rw[hb];rfl
        ·rw[if_pos (hfin.2 hm)] at hI
         have c2:((8:Int)≤(insN a:Int))=False:=by simp only[eq_iff_iff,iff_false];omega
         simp (config:={ decide:=true }) only[go_sem,Int.reduceToNat,Nat.reduceAdd,Nat.reduceSub,Nat.reduceMul,Nat.reduceBEq,reduceIte,reduceCtorEq,h0,h5,h6,h7,h8,h11,h37,h38,h39,c1]
         refine HW.tree 1 (.light 0 (.light 1 (.light 2 (.light 3 (.light 4 (.light 5 (.light 6 (.light 7 .leaf)))))))) follows (by kernel_rfl) (by kernel_rfl) ?_
         simp (config:={ decide:=true }) only[go_sem,Int.reduceToNat,Nat.reduceAdd,Nat.reduceSub,Nat.reduceMul,Nat.reduceBEq,reduceIte,reduceCtorEq,h0,h5,h6,h7,h8,h11,h37,h38,h39,c2,hwi]
         refine ⟨_,_,Ghost.trunc [0,5,6,7,8,11,37,38,39] 4 (by omega) ?_ ?_,l.length-(i+1),by omega,i+1,left,seen,rfl,by omega,by rw[hbb];exact hLn,by rw[htk];exact hSn,by rw[htk,hbb];exact hI,?_,?_,?_,?_,?_,?_,?_,?_,?_,?_⟩
         all_goals first | (simp (config:={ decide:=true }) only[go_sem,Nat.reduceBEq,reduceIte,h0,h5,h6,h7,h8,h11,h37,h38,h39];done) | (simp (config:={ decide:=true }) only[go_sem,Nat.reduceBEq,reduceIte];rw[w64 (by omega) (by omega)];rfl) | (rw[htk,fenB_snoc,decide_eq_false o6];rfl) | (rw[htk,fenN_snoc,mrkN_snoc,insN_snoc,if_neg o6,if_neg o11,if_pos ⟨o6,o11⟩];rfl)
     ·simp (config:={ decide:=true }) only[go_sem,Int.reduceToNat,Nat.reduceAdd,Nat.reduceSub,Nat.reduceMul,Nat.reduceBEq,reduceIte,reduceCtorEq,h0,h5,h6,h7,h8,h11,h37,h38,h39,hk,o6,o11,j1]
      refine callX_fn 3 (opsRight x.op x.rg x.loc x.lab x.n) (by simp only[go_sem]) rfl ?_
      rw[hR]
      cases hr:x.right with
      | false =>
       have hb:=bad 11 (by unfold lineE;rw[if_pos hr]) (by decide)
       simp (config:={ decide:=true }) only[go_sem,Int.reduceToNat,Nat.reduceAdd,Nat.reduceSub,Nat.reduceMul,Nat.reduceBEq,reduceIte,reduceCtorEq,h0,h5,h6,h7,h8,h11,h37,h38,h39]
       rw[hb];rfl
      | true =>
       have c1:True=True:=rfl
       have hfin:=fin (fun h=>absurd h.1 j1) hr
       by_cases hm:8≤insN a
       ·have hb:=bad 5 (hfin.1 hm) (by decide)
        have c2:((8:Int)≤(insN a:Int))=True:=by simp only[eq_iff_iff,iff_true];omega
        simp (config:={ decide:=true }) only[go_sem,Int.reduceToNat,Nat.reduceAdd,Nat.reduceSub,Nat.reduceMul,Nat.reduceBEq,reduceIte,reduceCtorEq,h0,h5,h6,h7,h8,h11,h37,h38,h39,c1]
        refine HW.tree 1 (.light 0 (.light 1 (.light 2 (.light 3 (.light 4 (.light 5 (.light 6 (.light 7 .leaf)))))))) follows (by kernel_rfl) (by kernel_rfl) ?_
        simp (config:={ decide:=true }) only[go_sem,Int.reduceToNat,Nat.reduceAdd,Nat.reduceSub,Nat.reduceMul,Nat.reduceBEq,reduceIte,reduceCtorEq,h0,h5,h6,h7,h8,h11,h37,h38,h39,c2]
        rw[hb];rfl
       ·rw[if_pos (hfin.2 hm)] at hI
        have c2:((8:Int)≤(insN a:Int))=False:=by simp only[eq_iff_iff,iff_false];omega
        simp (config:={ decide:=true }) only[go_sem,Int.reduceToNat,Nat.reduceAdd,Nat.reduceSub,Nat.reduceMul,Nat.reduceBEq,reduceIte,reduceCtorEq,h0,h5,h6,h7,h8,h11,h37,h38,h39,c1]
        refine HW.tree 1 (.light 0 (.light 1 (.light 2 (.light 3 (.light 4 (.light 5 (.light 6 (.light 7 .leaf)))))))) follows (by kernel_rfl) (by kernel_rfl) ?_
        simp (config:={ decide:=true }) only[go_sem,Int.reduceToNat,Nat.reduceAdd,Nat.reduceSub,Nat.reduceMul,Nat.reduceBEq,reduceIte,reduceCtorEq,h0,h5,h6,h7,h8,h11,h37,h38,h39,c2,hwi]
        refine ⟨_,_,Ghost.trunc [0,5,6,7,8,11,37,38,39] 4 (by omega) ?_ ?_,l.length-(i+1),by omega,i+1,left,seen,rfl,by omega,by rw[hbb];exact hLn,by rw[htk];exact hSn,by rw[htk,hbb];exact hI,?_,?_,?_,?_,?_,?_,?_,?_,?_,?_⟩
        all_goals first | (simp (config:={ decide:=true }) only[go_sem,Nat.reduceBEq,reduceIte,h0,h5,h6,h7,h8,h11,h37,h38,h39];done) | (simp (config:={ decide:=true }) only[go_sem,Nat.reduceBEq,reduceIte];rw[w64 (by omega) (by omega)];rfl) | (rw[htk,fenB_snoc,decide_eq_false o6];rfl) | (rw[htk,fenN_snoc,mrkN_snoc,insN_snoc,if_neg o6,if_neg o11,if_pos ⟨o6,o11⟩];rfl)
  ·have hlt' : ((i:Int)<(l.length:Int))=False:=by simp only[eq_iff_iff,iff_false];omega
   rw[List.drop_of_length_le (by omega)] at hI
   simp (config:={ decide:=true }) only[go_sem,Int.reduceToNat,Nat.reduceAdd,Nat.reduceSub,Nat.reduceMul,Nat.reduceBEq,reduceIte,reduceCtorEq,h0,h5,h6,h7,h8,h11,h37,h38,h39,hlt']
   unfold thrO;rw[hI];rfl
end Go.Proofs.YtmapdjdnnhlpiaaGreatDoor
namespace Go.Proofs.YtmapdjdnnhlpiaaGreatDoor
open Go.Shelf
set_option maxRecDepth 100000
def keysS_ren:Go.Shelf.Ren:=⟨fun | 7=>83 | 10=>103 | n=>n,fun | 23=>132 | 26=>9 | 3=>3 | 28=>77 | 0=>0 | 27=>76 | 33=>32 | 4=>4 | n=>n,fun | n=>n⟩
theorem keysS:Go.Proofs.SlLaysZ.n7 Tryz.prog keysS_ren where
 mixed:=by kernel_rfl
 f7:=⟨"maps.Keys[map[string]int,string,int]",by decide,Tryz.func83.trans (congrArg some (by kernel_rfl))⟩
 f10:=⟨"maps.Keys[map[string]int,string,int]$1",by decide,Tryz.func103.trans (congrArg some (by kernel_rfl))⟩
 t0:=Tryz.underlying0
 a0:=Tryz.isAgg0
 z0:=Tryz.sizeOf0
 v0:=Tryz.zeroValue0
 t4:=Tryz.underlying4
 a4:=Tryz.isAgg4
 z4:=Tryz.sizeOf4
 v4:=Tryz.zeroValue4
 t23:=Tryz.underlying132
 a23:=Tryz.isAgg132
 z23:=Tryz.sizeOf132
 v23:=Tryz.zeroValue132
 t26:=Tryz.underlying9
 a26:=Tryz.isAgg9
 z26:=Tryz.sizeOf9
 v26:=Tryz.zeroValue9
 t27:=Tryz.underlying76
 a27:=Tryz.isAgg76
 z27:=Tryz.sizeOf76
 v27:=Tryz.zeroValue76
 t28:=Tryz.underlying77
 a28:=Tryz.isAgg77
 z28:=Tryz.sizeOf77
 v28:=Tryz.zeroValue77
 t33:=Tryz.underlying32
 a33:=Tryz.isAgg32
 z33:=Tryz.sizeOf32
 v33:=Tryz.zeroValue32
def sortedS_ren:Go.Shelf.Ren:=⟨fun | 6=>82 | 8=>101 | 9=>102 | 11=>115 | 13=>117 | 12=>116 | 23=>134 | 24=>135 | 14=>125 | 15=>126 | 16=>127 | 17=>128 | 18=>129 | 19=>130 | 20=>131 | 21=>132 | 22=>133 | 25=>140 | 26=>141 | 27=>142 | 28=>143 | 29=>144 | 30=>145 | 31=>147 | n=>n,fun | 26=>9 | 28=>77 | 24=>34 | 0=>0 | 3=>3 | 37=>149 | 48=>165 | 50=>172 | 4=>4 | 40=>181 | 39=>180 | 45=>91 | 5=>5 | 9=>9 | 51=>193 | 55=>197 | 57=>200 | 58=>201 | 33=>32 | n=>n,fun | n=>n⟩
theorem sortedS:Go.Proofs.SlLaysZ.n6 Tryz.prog sortedS_ren where
 mixed:=by kernel_rfl
 f6:=⟨"slices.Sorted[string]",by decide,Tryz.func82.trans (congrArg some (by kernel_rfl))⟩
 f8:=⟨"slices.Collect[string]",by decide,Tryz.func101.trans (congrArg some (by kernel_rfl))⟩
 f11:=⟨"slices.AppendSeq[[]string,string]",by decide,Tryz.func115.trans (congrArg some (by kernel_rfl))⟩
 t0:=Tryz.underlying0
 a0:=Tryz.isAgg0
 z0:=Tryz.sizeOf0
 v0:=Tryz.zeroValue0
 t24:=Tryz.underlying34
 a24:=Tryz.isAgg34
 z24:=Tryz.sizeOf34
 v24:=Tryz.zeroValue34
 t26:=Tryz.underlying9
 a26:=Tryz.isAgg9
 z26:=Tryz.sizeOf9
 v26:=Tryz.zeroValue9
 t28:=Tryz.underlying77
 a28:=Tryz.isAgg77
 z28:=Tryz.sizeOf77
 v28:=Tryz.zeroValue77
 i26:=by kernel_rfl
def sortS_ren:Go.Shelf.Ren:=⟨fun | 6=>102 | 8=>117 | 9=>116 | 19=>134 | 20=>135 | 21=>125 | 22=>126 | 23=>127 | 24=>128 | 25=>129 | 26=>130 | 27=>131 | 28=>132 | 29=>133 | 36=>140 | 31=>141 | 32=>142 | 37=>143 | 38=>144 | 39=>145 | 41=>147 | n=>n,fun | 27=>34 | 29=>9 | 3=>3 | 32=>149 | 26=>34 | 0=>0 | 44=>165 | 46=>172 | 4=>4 | 36=>181 | 35=>180 | 41=>91 | 5=>5 | 9=>9 | 53=>193 | 57=>197 | 63=>200 | 64=>201 | n=>n,fun | n=>n⟩
theorem sortS:Go.Proofs.SlLaysM.n6 Tryz.prog sortS_ren where
 mixed:=by kernel_rfl
 f6:=⟨"slices.Sort[[]string,string]",by decide,Tryz.func102.trans (congrArg some (by kernel_rfl))⟩
 f8:=Tryz.func117.trans (congrArg some (by kernel_rfl))
 f9:=⟨"slices.pdqsortOrdered[string]",by decide,Tryz.func116.trans (congrArg some (by kernel_rfl))⟩
 f19:=Tryz.func134.trans (congrArg some (by kernel_rfl))
 f20:=Tryz.func135.trans (congrArg some (by kernel_rfl))
 f21:=⟨"slices.insertionSortOrdered[string]",by decide,Tryz.func125.trans (congrArg some (by kernel_rfl))⟩
 f22:=⟨"slices.heapSortOrdered[string]",by decide,Tryz.func126.trans (congrArg some (by kernel_rfl))⟩
 f23:=⟨"slices.breakPatternsOrdered[string]",by decide,Tryz.func127.trans (congrArg some (by kernel_rfl))⟩
 f24:=⟨"slices.choosePivotOrdered[string]",by decide,Tryz.func128.trans (congrArg some (by kernel_rfl))⟩
 f25:=⟨"slices.reverseRangeOrdered[string]",by decide,Tryz.func129.trans (congrArg some (by kernel_rfl))⟩
 f26:=⟨"slices.partialInsertionSortOrdered[string]",by decide,Tryz.func130.trans (congrArg some (by kernel_rfl))⟩
 f27:=⟨"cmp.Less[string]",by decide,Tryz.func131.trans (congrArg some (by kernel_rfl))⟩
 f28:=⟨"slices.partitionEqualOrdered[string]",by decide,Tryz.func132.trans (congrArg some (by kernel_rfl))⟩
 f29:=⟨"slices.partitionOrdered[string]",by decide,Tryz.func133.trans (congrArg some (by kernel_rfl))⟩
 f31:=Tryz.func141.trans (congrArg some (by kernel_rfl))
 f32:=Tryz.func142.trans (congrArg some (by kernel_rfl))
 f36:=⟨"slices.siftDownOrdered[string]",by decide,Tryz.func140.trans (congrArg some (by kernel_rfl))⟩
 f37:=⟨"slices.medianAdjacentOrdered[string]",by decide,Tryz.func143.trans (congrArg some (by kernel_rfl))⟩
 f38:=⟨"slices.medianOrdered[string]",by decide,Tryz.func144.trans (congrArg some (by kernel_rfl))⟩
 f39:=⟨"cmp.isNaN[string]",by decide,Tryz.func145.trans (congrArg some (by kernel_rfl))⟩
 f41:=⟨"slices.order2Ordered[string]",by decide,Tryz.func147.trans (congrArg some (by kernel_rfl))⟩
 t0:=Tryz.underlying0
 a0:=Tryz.isAgg0
 z0:=Tryz.sizeOf0
 v0:=Tryz.zeroValue0
 t3:=Tryz.underlying3
 a3:=Tryz.isAgg3
 z3:=Tryz.sizeOf3
 v3:=Tryz.zeroValue3
 t4:=Tryz.underlying4
 a4:=Tryz.isAgg4
 z4:=Tryz.sizeOf4
 v4:=Tryz.zeroValue4
 t5:=Tryz.underlying5
 a5:=Tryz.isAgg5
 z5:=Tryz.sizeOf5
 v5:=Tryz.zeroValue5
 t9:=Tryz.underlying9
 a9:=Tryz.isAgg9
 z9:=Tryz.sizeOf9
 v9:=Tryz.zeroValue9
 t26:=Tryz.underlying34
 a26:=Tryz.isAgg34
 z26:=Tryz.sizeOf34
 v26:=Tryz.zeroValue34
 t27:=Tryz.underlying34
 a27:=Tryz.isAgg34
 z27:=Tryz.sizeOf34
 v27:=Tryz.zeroValue34
 t29:=Tryz.underlying9
 a29:=Tryz.isAgg9
 z29:=Tryz.sizeOf9
 v29:=Tryz.zeroValue9
 t32:=Tryz.underlying149
 a32:=Tryz.isAgg149
 z32:=Tryz.sizeOf149
 v32:=Tryz.zeroValue149
 t35:=Tryz.underlying180
 a35:=Tryz.isAgg180
 z35:=Tryz.sizeOf180
 v35:=Tryz.zeroValue180
 t36:=Tryz.underlying181
 a36:=Tryz.isAgg181
 z36:=Tryz.sizeOf181
 v36:=Tryz.zeroValue181
 t41:=Tryz.underlying91
 a41:=Tryz.isAgg91
 z41:=Tryz.sizeOf91
 v41:=Tryz.zeroValue91
 t44:=Tryz.underlying165
 a44:=Tryz.isAgg165
 z44:=Tryz.sizeOf165
 v44:=Tryz.zeroValue165
 t46:=Tryz.underlying172
 a46:=Tryz.isAgg172
 z46:=Tryz.sizeOf172
 v46:=Tryz.zeroValue172
 t53:=Tryz.underlying193
 a53:=Tryz.isAgg193
 z53:=Tryz.sizeOf193
 v53:=Tryz.zeroValue193
 t57:=Tryz.underlying197
 a57:=Tryz.isAgg197
 z57:=Tryz.sizeOf197
 v57:=Tryz.zeroValue197
 t63:=Tryz.underlying200
 a63:=Tryz.isAgg200
 z63:=Tryz.sizeOf200
 v63:=Tryz.zeroValue200
 t64:=Tryz.underlying201
 a64:=Tryz.isAgg201
 z64:=Tryz.sizeOf201
 v64:=Tryz.zeroValue201
end Go.Proofs.YtmapdjdnnhlpiaaGreatDoor
namespace Go.Proofs.YtmapdjdnnhlpiaaGreatDoor
open Go.RowKit
open Go.WideElems (Fit rd rg rd_mk rg_of)
set_option maxRecDepth 8000
theorem Ghost.holeS {N L:Nat} {T:Nat→HV} {H:Heap} (e:TypeId) (sz:Nat):Ghost N L T H T (H++[some ⟨e,sz,[]⟩]):=fun B Z G FP ds a w hL hs=>by
 have hinv:=hs.inv.new (w':=w) (o:=⟨e,sz,[]⟩) (g:=⟨none,e,sz,0,0⟩) (fp:=[]) (Nat.le_refl _) (fun _ _=>rfl) ⟨rfl,rfl,rfl,by simp,.inl ⟨rfl,rfl,rfl⟩⟩ (by simp) (by simp)
 have hE:Evo Z FP w Z (fun j=>if j=H.length then [] else FP j) w:=evo_new (hs.inv.nofp _ (by simp)) rfl rfl rfl (Nat.le_refl _) (fun _ _=>rfl) (by simp)
 exact ⟨Z,_,_,hs.evo hinv (GLe.more _) hE,GLt.of hL (GLe.more _),hE⟩
abbrev mapBoxS (id:Nat):HObj:=⟨132,1,[[.mp id]]⟩
theorem mapsKeysS {H:Heap} {id j:Nat} {kv:List (List UInt8×Int)} (hid:H[id]?=some (some (mapS kv))) (hj:H[j]?=some (some ⟨132,1,[]⟩)) :
  HCalls Tryz.prog 83 H [.mp id] (fun r H'=>r=.fn 103 [.pt j 1 0 0]∧H'=H.set j (some (mapBoxS id))):=by
 refine ⟨fun vals w=>enters_of (P:=Tryz.prog) Tryz.func83 (by kernel_rfl) rfl vals w,fun Z G FP w vals hi ha=>?_⟩
 simp only[RL] at ha
 obtain ⟨y,ys,f1,f2,rfl,e1,hv,rfl,rfl⟩:=ha
 obtain ⟨rfl,-⟩:f1=[]∧True:=by simpa using e1
 obtain ⟨r,rfl,hg,hfp,hb⟩:=map_at hi hid hv
 have hne:id≠j:=fun e=>by rw[e,hj] at hid;simp[mapS,mapG,mapObj] at hid
 obtain ⟨gj,hgj,hobj⟩:=hi.live j _ hj
 have hn0:gj.n=0:=hobj.n
 have cK:Calls Tryz.prog 83 #[.map (some r)] w fun e w'=>e=.returned (.func (.func 103) #[] #[.pointer (some ⟨w.heap.size,0,none⟩)])∧w'=w.alloc (.cells #[.map (some r)] 132) :=
  callsIn_wide.1 (AnyZ.keys_in keysS Fence.wide 5 trivial rfl (some r) w)
 refine Calls.mono cK ?_
 rintro e w' ⟨rfl,rfl⟩
 have hnew:=heap_alloc_new w (.cells #[.map (some r)] 132)
 have hold:∀b,b<w.heap.size→(w.alloc (.cells #[.map (some r)] 132)).heap[b]?=w.heap[b]?:=fun b hb=>Below.heap_alloc w _ b hb
 have hlt:j<G.length:=hi.lt hj
 have hset:∀k,k≠j→(G.set j (some (some ⟨some w.heap.size,132,1,1,1⟩:Option OG)).join)[k]?=G[k]?:=fun k hk=>by simp[List.getElem?_set,Ne.symm hk]
 have hmp:RV Z (G.set j (some ⟨some w.heap.size,132,1,1,1⟩)) (w.alloc (.cells #[.map (some r)] 132)) (.mp id) (.map (some r)) []:=by
  simp only[RV]
  refine ⟨trivial,rfl,by rw[List.length_set];exact hi.lt hid,fun g hg'=>?_⟩
  rw[List.getElem?_set_ne (Ne.symm hne),hg] at hg'
  cases hg'
  exact ⟨Nat.le_refl _,fun _ _=>rfl⟩
 have hinv:=hi.turn (w':=w.alloc (.cells #[.map (some r)] 132)) (o':=mapBoxS id) (g':=⟨some w.heap.size,132,1,1,1⟩) (fp':=[w.heap.size]) hj hgj (.inr (by rw[hn0];exact Nat.one_pos)) (by simp) (fun b hb _=>hold b hb)
  ⟨rfl,rfl,rfl,by simp,.inr (.inl ⟨w.heap.size,#[.map (some r)],[],rfl,rfl,hnew,by simp,by simp,by simp[maxLen],by
   simp only[RR,RC]
   refine ⟨[],[],rfl,⟨_,[],[],rfl,?_,rfl,hmp,rfl⟩,rfl⟩
   unfold World.cell?;rw[hnew];rfl⟩)⟩ (by simp) (fun b hb=>by
    obtain rfl:=List.mem_singleton.1 hb
    refine ⟨fun hz=>?_,by simp,fun k _ hc=>?_⟩
    ·have:=hi.zlt _ hz;omega
    ·have:=hi.flt k _ hc;omega)
 refine ⟨_,_,_,_,_,_,[],rfl,⟨rfl,rfl⟩,by simp,hinv,?_,by simp,by simp,by simp,GLe.set hgj (.inr (by rw[hn0];exact Nat.one_pos)),evo_turn rfl rfl rfl (by simp) (fun b hb _=>hold b hb) (fun b hb=>by
  obtain rfl:=List.mem_singleton.1 hb
  exact .inl (Nat.le_refl _))⟩
 simp only[RV]
 refine ⟨#[.pointer (some ⟨w.heap.size,0,none⟩)],(fnV_lt (by decide) _).symm,?_⟩
 simp only[RL,RV]
 refine ⟨_,_,[],[],rfl,rfl,⟨rfl,rfl,by rw[List.length_set];exact hlt,fun g hg'=>?_⟩,rfl,rfl⟩
 rw[List.getElem?_set_self hlt] at hg'
 cases hg'
 exact ⟨Nat.le_refl _,fun _=>⟨_,rfl,by simp⟩⟩
theorem RR_strsAt {Z:Nat→Prop} {w:World} {b:Nat}:∀(xs:List (List UInt8)) (k:Nat),(∀(i:Nat) x,xs[i]?=some x→w.cell? ⟨b,k+i,none⟩=some (str x))→RR Z [] w (strs xs) b k []
 | [],k,_=>by simp[strs,RR]
 | x::xs,k,h=>by
  show RR Z [] w ([.v (str x)]::strs xs) b k []
  simp only[RR,RC,RV]
  refine ⟨[],[],rfl,⟨_,[],[],rfl,by have:=h 0 x rfl;simpa using this,rfl,⟨rfl,rfl⟩,rfl⟩,?_⟩
  refine RR_strsAt xs (k+1) fun i y hy=>?_
  rw[show k+1+i=k+(i+1) by omega]
  exact h (i+1) y (by simpa using hy)
def unitS:Value→Option (DataW Unit×List MemPlace):=fun _=>some (.nil,[])
theorem esS_mem {kv:List (List UInt8×Int)} {x:MapEntry}:∀{n:Nat},x∈esL kS n kv→∃e∈kv,x.key=str e.1∧n≤x.born∧x.born<n+kv.length:=by
 induction kv with
 | nil=>intro n h;simp[esL] at h
 | cons e r ih =>
  intro n h
  simp only[esL,List.mem_cons] at h
  rcases h with rfl | h
  ·exact ⟨e,by simp,rfl,Nat.le_refl _,by simp⟩
  ·obtain ⟨e',h1,h2,h3,h4⟩:=ih h
   exact ⟨e',by simp[h1],h2,by omega,by simp only[List.length_cons];omega⟩
theorem esS_stamped {kv:List (List UInt8×Int)} (hnd:(kv.map (·.1)).Nodup):∀n,((esL kS n kv).map (·.born)).Nodup∧(esL kS n kv).Pairwise (fun x y=>x.key≠y.key):=by
 induction kv with
 | nil=>intro n;simp[esL]
 | cons e r ih =>
  intro n
  simp only[List.map_cons,List.nodup_cons] at hnd
  obtain ⟨h1,h2⟩:=ih hnd.2 (n+1)
  simp only[esL,List.map_cons,List.nodup_cons,List.pairwise_cons]
  refine ⟨⟨fun hm=>?_,h1⟩,fun y hy hk=>?_,h2⟩
  ·obtain ⟨y,hy,he⟩:=List.mem_map.1 hm
   obtain ⟨_,_,_,h3,_⟩:=esS_mem hy
   omega
  ·obtain ⟨e',h3,h4,_,_⟩:=esS_mem hy
   rw[h4] at hk
   have hk' : e.1=e'.1:=by simpa [str] using hk
   exact hnd.1 (hk'▸List.mem_map.2 ⟨e',h3,rfl⟩)
theorem keysS_read {kv:List (List UInt8×Int)} (hr:∀e∈kv,e.1.length≤1000000):∀n,(esL kS n kv).map (rg (H:=Unit) Tryz.prog 9 unitS)=kv.map (fun e=>(Lit.string e.1,DataW.nil))∧∀x∈esL kS n kv,∃y,rd (H:=Unit) Tryz.prog 9 unitS x=some y:=by
 induction kv with
 | nil=>intro n;simp[esL]
 | cons e r ih =>
  intro n
  obtain ⟨h1,h2⟩:=ih (fun e' h=>hr e' (by simp[h])) (n+1)
  have hk:keyOf Tryz.prog 9 (str e.1)=some (.string e.1):=Go.WideMaps.keyOf_string_mk Tryz.underlying9 (by
   have:=hr e (by simp)
   show e.1.toArray.size≤maxLen
   rw[List.size_toArray];unfold maxLen;omega)
  have hd:rd (H:=Unit) Tryz.prog 9 unitS ⟨str e.1,.int .i64 e.2,n⟩=some (.string e.1,.nil):=rd_mk (yv:=(.nil,[])) hk rfl
  refine ⟨?_,fun x hx=>?_⟩
  ·simp only[esL,List.map_cons,h1]
   rw[rg_of hd]
  ·simp only[esL,List.mem_cons] at hx
   rcases hx with rfl | hx
   ·exact ⟨_,hd⟩
   ·exact h2 x hx
theorem sortsS (m:Nat):AnyZ.SortsIn Tryz.prog sortedS_ren Fence.wide m :=
  ⟨fun blk off cap ss W hH hblk hsz=>callsIn_wide.2 (AnyM.slices_Sort_string sortS blk off cap ss W hH hblk hsz),
   fun p cap W=>callsIn_wide.2 (AnyM.slices_Sort_string_none sortS p cap W)⟩
def sortedMS (kv:List (List UInt8×Int)):List (List UInt8):=(kv.map (·.1)).mergeSort fun x y=>decide (x≤y)
set_option maxHeartbeats 1000000 in
theorem slicesSortedS {H:Heap} {id j:Nat} {kv:List (List UInt8×Int)} (hid:H[id]?=some (some (mapS kv))) (hj:H[j]?=some (some (mapBoxS id))) (hnd:(kv.map (·.1)).Nodup) (hr:∀e∈kv,e.1.length≤1000000) (hlen:kv.length≤1000000) :
  HCalls Tryz.prog 82 H [.fn 103 [.pt j 1 0 0]] (fun r H'=>r=owStrs (sortedMS kv)∧H'=H):=by
 refine ⟨fun vals w=>enters_of (P:=Tryz.prog) Tryz.func82 (by kernel_rfl) rfl vals w,fun Z G FP w vals hi ha=>?_⟩
 simp only[RL] at ha
 obtain ⟨y,ys,f1,f2,rfl,e1,hv,rfl,rfl⟩:=ha
 obtain ⟨rfl,-⟩:f1=[]∧True:=by simpa using e1
 rw[RV] at hv
 obtain ⟨zs,rfl,hv⟩:=hv
 rw[fnV_lt (by decide)]
 obtain ⟨zs⟩:=zs
 simp only[RL] at hv
 obtain ⟨q,ys,f1,f2,rfl,e2,hq,rfl,rfl⟩:=hv
 obtain ⟨rfl,-⟩:f1=[]∧True:=by simpa using e2
 obtain ⟨g,b,cells,f,hg,hob,hgb,hfp,hb,hcs,hc1,hc2,hrr,rfl,_⟩:=pt_at hi hj rfl rfl hq
 simp only[RR,RC] at hrr
 obtain ⟨_,_,_,⟨mv,_,_,_,hcell,_,hmv,_⟩,_⟩:=hrr
 have hmv' : RV Z G w (.mp id) mv []:=by
  simp only[RV] at hmv⊢
  exact ⟨trivial,hmv.2⟩
 obtain ⟨r,rfl,_,_,hrb⟩:=map_at hi hid hmv'
 have hbl:b<w.heap.size:=(Array.getElem?_eq_some_iff.1 hb).1
 obtain ⟨h1,h2⟩:=keysS_read hr 0
 have htl:(esG kS kv).toList=esL kS 0 kv:=by unfold esG;rw[List.toList_toArray]
 let D0:DataW Unit:=.map (((esG kS kv).toList.map (rg Tryz.prog 9 unitS)).foldr DataW.insert [])
 have hsz:Go.Maps.size D0=kv.length:=by
  show (((esG kS kv).toList.map (rg Tryz.prog 9 unitS)).foldr DataW.insert []).length=_
  rw[length_sorted,List.length_map,htl,esL_length]
 have hown:w.ownsMap Tryz.prog 9 unitS r kv.length D0:=by
  refine ⟨esG kS kv,kv.length,hrb,⟨?_,?_,fun x hx=>h2 x (htl▸hx)⟩,?_,rfl⟩
  ·rw[←Array.length_toList,htl,esL_length];unfold maxLen;omega
  ·rw[Go.MapKept.stamped_iff,htl]
   obtain ⟨k1,k2⟩:=esS_stamped hnd 0
   exact ⟨fun x hx=>by obtain ⟨_,_,_,_,k⟩:=esS_mem hx;omega,k1,k2⟩
  ·rw[←Array.length_toList,htl,esL_length];exact Nat.le_refl _
 have hperm:(strKeys D0).Perm (kv.map (·.1)):=by
  show ((((esG kS kv).toList.map (rg Tryz.prog 9 unitS)).foldr DataW.insert []).map fun p=>Go.strOf p.1).Perm _
  refine ((Go.WideShapes.sorted_perm _).map _).trans ?_
  rw[htl,h1,List.map_map]
  exact List.Perm.refl _
 have hcb:w.cell? ⟨b,0,none⟩=some (.map (some r)):=by simpa using hcell
 have hseq:Go.SeqGives Fence.wide 2 Tryz.prog 103 #[.pointer (some ⟨b,0,none⟩)] encStr (fun ss=>ss.Perm (strKeys D0)) (Go.Maps.size D0) w :=
  AnyZ.keys_gives (ρ:=keysS_ren) { keysS with } Fence.wide 2 trivial rfl (by omega) b r kv.length D0 w hbl hcb hown
 have cS:=AnyZ.sorted_in sortedS Fence.wide 5 trivial trivial trivial trivial rfl (by omega) (sortsS _) (enters_of Tryz.func102 (by kernel_rfl) rfl) 103 #[.pointer (some ⟨b,0,none⟩)] trivial (enters_of Tryz.func103 (by kernel_rfl) rfl) _ _ (by rw[hsz];unfold maxLen;omega) (by rw[hsz];omega) w hseq
 have cS' : Calls Tryz.prog 82 #[.func (.func 103) #[] #[.pointer (some ⟨b,0,none⟩)]] w _:=callsIn_wide.1 cS
 have hy:(Value.pointer (some ⟨b,0*(mapBoxS id).sz+0,none⟩))=.pointer (some ⟨b,0,none⟩):=by simp
 rw[hy]
 refine Calls.mono cS' ?_
 rintro e w' ⟨v,ss,rfl,hS,hrow,hnil,hbw⟩
 have hsort:(ss.mergeSort fun x y=>decide (x≤y))=sortedMS kv:=mergeSort_of_perm (hS.trans hperm)
 rw[hsort] at hrow
 have hlen2:(sortedMS kv).length=ss.length:=by rw[←hsort,List.length_mergeSort]
 have hold:∀k,k<w.heap.size→w'.heap[k]?=w.heap[k]?:=hbw.block
 have hi' : HInv Z G FP H w':=hi.keep hbw.size fun k hk=>hold k (by
  rcases hk with hk | ⟨i,hk⟩
  ·exact hi.zlt k hk
  ·exact hi.flt i k hk)
 have hEv:Evo Z FP w Z FP w':=⟨hbw.os,hbw.tape,hbw.output,hbw.size,fun k hk _=>hold k hk,fun _ h=>h,fun _ h=>.inl h,fun i k hk=>.inr ⟨i,hk⟩⟩
 rcases hrow.2 with ⟨rfl,h0⟩ | ⟨gb,cap,cur,rfl,hbase,hgb',r1,r2,r3,r4⟩
 ·refine ⟨_,_,H,Z,G,FP,[],rfl,⟨rfl,rfl⟩,rfl,hi',?_,by simp,by simp,by simp,GLe.refl _,hEv⟩
  have:sortedMS kv=[]:=List.eq_nil_of_length_eq_zero (by omega)
  rw[this]
  simp only[owStrs,RV]
  exact .inl ⟨rfl,trivial,trivial⟩
 ·have hgl:gb<w'.heap.size:=(Array.getElem?_eq_some_iff.1 hgb').1
  refine ⟨_,_,H,Z,G,FP,[gb],rfl,⟨rfl,rfl⟩,rfl,hi',?_,by simp,fun k hk=>?_,fun k hk=>?_,GLe.refl _,hEv⟩
  ·simp only[owStrs,RV]
   refine .inr ⟨gb,cap,cur,[],by rw[strs_length,hlen2],rfl,hgb',r3,by rw[strs_length];omega,r2,fun r hr=>?_,?_⟩
   ·obtain ⟨_,_,rfl⟩:=List.mem_map.1 hr;rfl
   ·refine RR_strsAt _ 0 fun i x hx=>?_
    have hil:i<ss.length:=by have:=(List.getElem?_eq_some_iff.1 hx).1;omega
    have:(cur.toList.take (ss.length*1))[i]?=some (str x):=by rw[r4,List.getElem?_map,hx];rfl
    rw[List.getElem?_take_of_lt (by omega)] at this
    unfold World.cell?
    rw[hgb',Nat.zero_add]
    simpa using this
  ·obtain rfl:=List.mem_singleton.1 hk
   exact ⟨fun hz=>by have:=hi.zlt _ hz;omega,hgl,fun i hc=>by have:=hi.flt i _ hc;omega⟩
  ·obtain rfl:=List.mem_singleton.1 hk
   exact .inl hbase
end Go.Proofs.YtmapdjdnnhlpiaaGreatDoor
namespace Go.Proofs.YtmapdjdnnhlpiaaGreatDoor
open Go.RowKit
set_option maxRecDepth 8000
def lineL (l:List LT):List (List UInt8):=(l.map (·.loc)).filter fun s=>decide (s≠[])
def condL (l:List AT):List (List UInt8):=(l.filter fun a=>decide (a.th = -1)).map (·.nm)
theorem lineL_snoc (l:List LT) (x:LT):lineL (l++[x])=if x.loc=[] then lineL l else lineL l++[x.loc]:=by
 unfold lineL
 by_cases h:x.loc=[] <;> simp[h,List.filter_append]
theorem condL_snoc (l:List AT) (x:AT):condL (l++[x])=if x.th = -1 then condL l++[x.nm] else condL l:=by
 unfold condL
 by_cases h:x.th = -1 <;> simp[h,List.filter_append]
theorem locL_eq (f:Fl):locL f=f.init.map (·.1)++f.thr.flatMap lineL++condL f.cond:=rfl
theorem lineL_len (l:List LT):(lineL l).length≤l.length:=by
 unfold lineL
 exact Nat.le_trans (List.length_filter_le _ _) (by simp)
theorem condL_len (l:List AT):(condL l).length≤l.length:=by
 unfold condL
 rw[List.length_map]
 exact List.length_filter_le _ _
theorem flatL_take (l:List (List LT)) (t:Nat):((l.take t).flatMap lineL).length≤(l.flatMap lineL).length:=by
 have:l.flatMap lineL=(l.take t).flatMap lineL++(l.drop t).flatMap lineL:=by rw[←List.flatMap_append,List.take_append_drop]
 rw[this,List.length_append];omega
set_option maxHeartbeats 16000000 in
theorem validLocs (f:Fl) (hB:(locL f).length≤1000000) (hi:f.init.length≤1000000) (ht:f.thr.length≤1000000) (hc:f.cond.length≤1000000) (hl:∀l∈f.thr,l.length≤1000000) (hn:∀s∈locL f,s.length≤1000000) :
  HFn Tryz.prog 66 [fileH f] (owStrs (sortedMS (foldC [] (locL f)))):=by
 rw[locL_eq] at hB hn⊢
 simp only[List.length_append] at hB
 refine HCalls_body (fn:=Tryz.f66) 69 [2] (by kernel_rfl) rfl (by kernel_rfl) (HW.run 400 (by kernel_rfl) ?_)
 simp (config:={ decide:=true }) only[go_sem,Int.reduceToNat,Nat.reduceAdd,Nat.reduceSub,Nat.reduceMul,Nat.reduceBEq,reduceIte,reduceCtorEq]
 refine HW.loopG (fun k T H=>∃(i:Nat),k=f.init.length-i∧i≤f.init.length∧T 1=.pt 0 1 0 0∧T 3=.mp 1∧T 14=.sl (cls f.init)∧T 15=.v (.int .i64 f.init.length)∧T 16=.v (.int .i64 i)∧H=[some (fileO f),some (mapS (foldC [] ((f.init.take i).map (·.1))))]) f.init.length ⟨_,_,Ghost.refl,0,rfl,by omega,rfl,rfl,rfl,rfl,rfl,rfl⟩ ?_
 rintro k T H ⟨i,rfl,hil,h1,h3,h14,h15,h16,rfl⟩
 refine HW.run 200 (by kernel_rfl) ?_
 by_cases hlt:i<f.init.length
 ·have hlt' : ((i:Int)<(f.init.length:Int))=True:=by simp only[eq_iff_iff,iff_true];omega
  have hx:f.init[i]?=some f.init[i]:=List.getElem?_eq_getElem hlt
  have htk:f.init.take (i+1)=f.init.take i++[f.init[i]]:=by rw[List.take_add_one,hx];rfl
  generalize f.init[i]=c at hx htk
  have hg:=getM_foldC0 ((f.init.take i).map (·.1)) c.1
  rw[List.length_map,List.length_take] at hg
  have hw:IntKind.i64.wrap (getM (foldC [] ((f.init.take i).map (·.1))) c.1+1)=getM (foldC [] ((f.init.take i).map (·.1))) c.1+1:=w64 (by omega) (by omega)
  simp (config:={ decide:=true }) only[go_sem,Int.reduceToNat,Nat.reduceAdd,Nat.reduceSub,Nat.reduceMul,Nat.reduceBEq,reduceIte,reduceCtorEq,h1,h3,h14,h15,h16,hlt',hx,crow,hw]
  refine ⟨_,_,Ghost.trunc [1,3,14,15,16] 2 (by omega) ?_ ?_,f.init.length-(i+1),by omega,i+1,rfl,by omega,?_,?_,?_,?_,?_,?_⟩
  iterate 6 first | (simp (config:={ decide:=true }) only[go_sem,Nat.reduceBEq,reduceIte,h1,h3,h14,h15,h16];done) | skip
  all_goals first | (simp (config:={ decide:=true }) only[go_sem,Nat.reduceBEq,reduceIte,h1,h3,h14,h15,h16];done) | (simp (config:={ decide:=true }) only[go_sem,Nat.reduceBEq,reduceIte];rw[w64 (by omega) (by omega)];rfl) | (rw[htk,List.map_append,List.map_cons,List.map_nil,foldC_snoc];rfl)
 ·have hlt' : ((i:Int)<(f.init.length:Int))=False:=by simp only[eq_iff_iff,iff_false];omega
  obtain rfl:i=f.init.length:=by omega
  rw[List.take_length]
  simp (config:={ decide:=true }) only[go_sem,Int.reduceToNat,Nat.reduceAdd,Nat.reduceSub,Nat.reduceMul,Nat.reduceBEq,reduceIte,reduceCtorEq,h1,h3,h14,h15,h16,hlt']
  generalize hA:f.init.map (·.1)=A at hB hn
  have hAl:A.length≤1000000:=by rw[←hA,List.length_map];exact hi
  refine HW.loopG (fun k T H=>∃(i:Nat),k=f.thr.length-i∧i≤f.thr.length∧T 1=.pt 0 1 0 0∧T 3=.mp 1∧T 27=.sl (tds f.thr)∧T 28=.v (.int .i64 f.thr.length)∧T 29=.v (.int .i64 i)∧H=[some (fileO f),some (mapS (foldC [] (A++(f.thr.take i).flatMap lineL)))]) f.thr.length ⟨_,_,Ghost.refl,0,rfl,by omega,by simp (config:={ decide:=true }) only[go_sem,Nat.reduceBEq,reduceIte,h1],by simp (config:={ decide:=true }) only[go_sem,Nat.reduceBEq,reduceIte,h3],rfl,rfl,rfl,by simp⟩ ?_
  clear h1 h3 h14 h15 h16
  rintro k T H ⟨i,rfl,hil,h1,h3,h27,h28,h29,rfl⟩
  refine HW.run 200 (by kernel_rfl) ?_
  by_cases hlt:i<f.thr.length
  ·have hlt' : ((i:Int)<(f.thr.length:Int))=True:=by simp only[eq_iff_iff,iff_true];omega
   have hx:f.thr[i]?=some f.thr[i]:=List.getElem?_eq_getElem hlt
   have htk:f.thr.take (i+1)=f.thr.take i++[f.thr[i]]:=by rw[List.take_add_one,hx];rfl
   have hll:=hl _ (List.getElem_mem hlt)
   have hfl:=flatL_take f.thr (i+1)
   generalize f.thr[i]=l at hx htk hll
   rw[htk,List.flatMap_append,List.length_append] at hfl
   generalize hBB:(f.thr.take i).flatMap lineL=B at hfl
   have hfl' : B.length+(lineL l).length≤(f.thr.flatMap lineL).length:=by simpa using hfl
   simp (config:={ decide:=true }) only[go_sem,Int.reduceToNat,Nat.reduceAdd,Nat.reduceSub,Nat.reduceMul,Nat.reduceBEq,reduceIte,reduceCtorEq,h1,h3,h27,h28,h29,hlt',hx,tdrow]
   refine HW.loopG (fun k T H=>∃(j:Nat),k=l.length-j∧j≤l.length∧T 1=.pt 0 1 0 0∧T 3=.mp 1∧T 27=.sl (tds f.thr)∧T 28=.v (.int .i64 f.thr.length)∧T 29=.v (.int .i64 i)∧T 34=.sl (lns l)∧T 35=.v (.int .i64 l.length)∧T 36=.v (.int .i64 j)∧H=[some (fileO f),some (mapS (foldC [] (A++B++lineL (l.take j)))),some ⟨47,1,[[.sl (lns l)]]⟩]) l.length ⟨_,_,Ghost.refl,0,rfl,by omega,by simp (config:={ decide:=true }) only[go_sem,Nat.reduceBEq,reduceIte,h1],by simp (config:={ decide:=true }) only[go_sem,Nat.reduceBEq,reduceIte,h3],by simp (config:={ decide:=true }) only[go_sem,Nat.reduceBEq,reduceIte,h27],by simp (config:={ decide:=true }) only[go_sem,Nat.reduceBEq,reduceIte,h28],by simp (config:={ decide:=true }) only[go_sem,Nat.reduceBEq,reduceIte,h29],rfl,rfl,rfl,by simp[lineL,hBB]⟩ ?_
   clear h1 h3 h27 h28 h29
   rintro k T H ⟨j,rfl,hjl,h1,h3,h27,h28,h29,h34,h35,h36,rfl⟩
   refine HW.run 200 (by kernel_rfl) ?_
   by_cases hlt2:j<l.length
   ·have hlt2' : ((j:Int)<(l.length:Int))=True:=by simp only[eq_iff_iff,iff_true];omega
    have hx2:l[j]?=some l[j]:=List.getElem?_eq_getElem hlt2
    have htk2:l.take (j+1)=l.take j++[l[j]]:=by rw[List.take_add_one,hx2];rfl
    have hjl2:=lineL_len (l.take j)
    rw[List.length_take] at hjl2
    generalize l[j]=x at hx2 htk2
    have hs:=lineL_snoc (l.take j) x
    rw[←htk2] at hs
    have hg:=getM_foldC0 (A++B++lineL (l.take j)) x.loc
    simp only[List.length_append] at hg
    have hw:IntKind.i64.wrap (getM (foldC [] (A++B++lineL (l.take j))) x.loc+1)=getM (foldC [] (A++B++lineL (l.take j))) x.loc+1:=w64 (by omega) (by omega)
    by_cases hx0:x.loc=[]
    ·rw[if_pos hx0] at hs
     simp (config:={ decide:=true }) only[go_sem,Int.reduceToNat,Nat.reduceAdd,Nat.reduceSub,Nat.reduceMul,Nat.reduceBEq,reduceIte,reduceCtorEq,h1,h3,h27,h28,h29,h34,h35,h36,hlt2',hx2,lnrow,hx0]
     refine ⟨_,_,Ghost.trunc [1,3,27,28,29,34,35,36] 3 (by omega) ?_ ?_,l.length-(j+1),by omega,j+1,rfl,by omega,?_,?_,?_,?_,?_,?_,?_,?_,?_⟩
     all_goals first | (simp (config:={ decide:=true }) only[go_sem,Nat.reduceBEq,reduceIte,h1,h3,h27,h28,h29,h34,h35,h36];done) | (simp (config:={ decide:=true }) only[go_sem,Nat.reduceBEq,reduceIte];rw[w64 (by omega) (by omega)];rfl) | (rw[hs];rfl)
    ·rw[if_neg hx0] at hs
     simp (config:={ decide:=true }) only[go_sem,Int.reduceToNat,Nat.reduceAdd,Nat.reduceSub,Nat.reduceMul,Nat.reduceBEq,reduceIte,reduceCtorEq,h1,h3,h27,h28,h29,h34,h35,h36,hlt2',hx2,lnrow,hx0,hw]
     refine ⟨_,_,Ghost.trunc [1,3,27,28,29,34,35,36] 3 (by omega) ?_ ?_,l.length-(j+1),by omega,j+1,rfl,by omega,?_,?_,?_,?_,?_,?_,?_,?_,?_⟩
     all_goals first | (simp (config:={ decide:=true }) only[go_sem,Nat.reduceBEq,reduceIte,h1,h3,h27,h28,h29,h34,h35,h36];done) | (simp (config:={ decide:=true }) only[go_sem,Nat.reduceBEq,reduceIte];rw[w64 (by omega) (by omega)];rfl) | (rw[hs,←List.append_assoc,foldC_snoc];rfl)
   ·have hlt2' : ((j:Int)<(l.length:Int))=False:=by simp only[eq_iff_iff,iff_false];omega
    obtain rfl:j=l.length:=by omega
    rw[List.take_length]
    simp (config:={ decide:=true }) only[go_sem,Int.reduceToNat,Nat.reduceAdd,Nat.reduceSub,Nat.reduceMul,Nat.reduceBEq,reduceIte,reduceCtorEq,h1,h3,h27,h28,h29,h34,h35,h36,hlt2']
    refine ⟨_,_,Ghost.trunc [1,3,27,28,29] 2 (by omega) ?_ ?_,f.thr.length-(i+1),by omega,i+1,rfl,by omega,?_,?_,?_,?_,?_,?_⟩
    all_goals first | (simp (config:={ decide:=true }) only[go_sem,Nat.reduceBEq,reduceIte,h1,h3,h27,h28,h29];done) | (simp (config:={ decide:=true }) only[go_sem,Nat.reduceBEq,reduceIte];rw[w64 (by omega) (by omega)];rfl) | (rw[htk,List.flatMap_append,hBB];simp)
  ·have hlt' : ((i:Int)<(f.thr.length:Int))=False:=by simp only[eq_iff_iff,iff_false];omega
   obtain rfl:i=f.thr.length:=by omega
   rw[List.take_length]
   simp (config:={ decide:=true }) only[go_sem,Int.reduceToNat,Nat.reduceAdd,Nat.reduceSub,Nat.reduceMul,Nat.reduceBEq,reduceIte,reduceCtorEq,h1,h3,h27,h28,h29,hlt']
   generalize hA2:A++f.thr.flatMap lineL=A2 at hn
   have hA2l:A2.length+(condL f.cond).length≤1000000:=by rw[←hA2,List.length_append];exact hB
   refine HW.loopG (fun k T H=>∃(i:Nat),k=f.cond.length-i∧i≤f.cond.length∧T 1=.pt 0 1 0 0∧T 3=.mp 1∧T 51=.sl (ats f.cond)∧T 52=.v (.int .i64 f.cond.length)∧T 53=.v (.int .i64 i)∧H=[some (fileO f),some (mapS (foldC [] (A2++condL (f.cond.take i))))]) f.cond.length ⟨_,_,Ghost.refl,0,rfl,by omega,by simp (config:={ decide:=true }) only[go_sem,Nat.reduceBEq,reduceIte,h1],by simp (config:={ decide:=true }) only[go_sem,Nat.reduceBEq,reduceIte,h3],rfl,rfl,rfl,by simp[condL]⟩ ?_
   clear h1 h3 h27 h28 h29
   rintro k T H ⟨i,rfl,hil,h1,h3,h51,h52,h53,rfl⟩
   by_cases hlt:i<f.cond.length
   ·refine HW.run 200 (by kernel_rfl) ?_
    have hlt' : ((i:Int)<(f.cond.length:Int))=True:=by simp only[eq_iff_iff,iff_true];omega
    have hx:f.cond[i]?=some f.cond[i]:=List.getElem?_eq_getElem hlt
    have htk:f.cond.take (i+1)=f.cond.take i++[f.cond[i]]:=by rw[List.take_add_one,hx];rfl
    have hjl2:=condL_len (f.cond.take i)
    rw[List.length_take] at hjl2
    generalize f.cond[i]=x at hx htk
    have hs:=condL_snoc (f.cond.take i) x
    rw[←htk] at hs
    have hg:=getM_foldC0 (A2++condL (f.cond.take i)) x.nm
    simp only[List.length_append] at hg
    have hw:IntKind.i64.wrap (getM (foldC [] (A2++condL (f.cond.take i))) x.nm+1)=getM (foldC [] (A2++condL (f.cond.take i))) x.nm+1:=w64 (by omega) (by omega)
    by_cases hx0:x.th = -1
    ·rw[if_pos hx0] at hs
     simp (config:={ decide:=true }) only[go_sem,Int.reduceToNat,Nat.reduceAdd,Nat.reduceSub,Nat.reduceMul,Nat.reduceBEq,reduceIte,reduceCtorEq,h1,h3,h51,h52,h53,hlt',hx,arow,hx0,hw]
     refine ⟨_,_,Ghost.trunc [1,3,51,52,53] 2 (by omega) ?_ ?_,f.cond.length-(i+1),by omega,i+1,rfl,by omega,?_,?_,?_,?_,?_,?_⟩
     all_goals first | (simp (config:={ decide:=true }) only[go_sem,Nat.reduceBEq,reduceIte,h1,h3,h51,h52,h53];done) | (simp (config:={ decide:=true }) only[go_sem,Nat.reduceBEq,reduceIte];rw[w64 (by omega) (by omega)];rfl) | (rw[hs,←List.append_assoc,foldC_snoc];rfl)
    ·rw[if_neg hx0] at hs
     simp (config:={ decide:=true }) only[go_sem,Int.reduceToNat,Nat.reduceAdd,Nat.reduceSub,Nat.reduceMul,Nat.reduceBEq,reduceIte,reduceCtorEq,h1,h3,h51,h52,h53,hlt',hx,arow,hx0]
     refine ⟨_,_,Ghost.trunc [1,3,51,52,53] 2 (by omega) ?_ ?_,f.cond.length-(i+1),by omega,i+1,rfl,by omega,?_,?_,?_,?_,?_,?_⟩
     all_goals first | (simp (config:={ decide:=true }) only[go_sem,Nat.reduceBEq,reduceIte,h1,h3,h51,h52,h53];done) | (simp (config:={ decide:=true }) only[go_sem,Nat.reduceBEq,reduceIte];rw[w64 (by omega) (by omega)];rfl) | (rw[hs];rfl)
   ·have hlt' : ((i:Int)<(f.cond.length:Int))=False:=by simp only[eq_iff_iff,iff_false];omega
    obtain rfl:i=f.cond.length:=by omega
    rw[List.take_length]
    refine HW.ghost (Ghost.holeS 132 1) ?_
    refine HW.run 200 (by kernel_rfl) ?_
    simp (config:={ decide:=true }) only[go_sem,Int.reduceToNat,Nat.reduceAdd,Nat.reduceSub,Nat.reduceMul,Nat.reduceBEq,reduceIte,reduceCtorEq,h1,h3,h51,h52,h53,hlt']
    have hkey:∀e∈foldC [] (A2++condL f.cond),e.1.length≤1000000:=fun e he=>by
     have:=(foldC_keys e.1 (A2++condL f.cond) []).1 (List.mem_map.2 ⟨e,he,rfl⟩)
     rcases this with h | h
     ·simp at h
     ·exact hn _ h
    refine ⟨_,mapsKeysS (kv:=foldC [] (A2++condL f.cond)) (j:=2) rfl rfl,?_⟩
    rintro r H' ⟨rfl,rfl⟩ -
    simp (config:={ decide:=true }) only[go_sem,Int.reduceToNat,Nat.reduceAdd,Nat.reduceSub,Nat.reduceMul,Nat.reduceBEq,reduceIte,reduceCtorEq]
    refine ⟨_,slicesSortedS (id:=1) (j:=2) (kv:=foldC [] (A2++condL f.cond)) rfl rfl (foldC_nodup _ _ (by simp)) hkey (by have:=foldC_len (A2++condL f.cond) [];simp only[List.length_append,List.length_nil] at this;omega),?_⟩
    rintro r H' ⟨rfl,rfl⟩ -
    simp (config:={ decide:=true }) only[go_sem,Int.reduceToNat,Nat.reduceAdd,Nat.reduceSub,Nat.reduceMul,Nat.reduceBEq,reduceIte,reduceCtorEq,owStrs]
end Go.Proofs.YtmapdjdnnhlpiaaGreatDoor
namespace Go.Proofs.YtmapdjdnnhlpiaaGreatDoor
open Go.RowKit Go.Extern.Stop Go.Stop Go.Extern
set_option maxRecDepth 8000
theorem as_nil (t:Value) (w:World):Calls Tryz.prog 43 #[.nilIface,t] w fun e w'=>e=.returned (.bool false)∧w'=w:=by
 go_enter Tryz.func43,Tryz.ntmps43
 go_wp2
 go_ret
 exact ⟨rfl,rfl⟩
theorem asValueOfP (t:Addr) (w:World):(ReflectliteValue.unpack (.iface 85 (.pointer (some t)))).run Tryz.prog w
  = .ok (.agg #[.pointer (some ⟨7,85,none⟩),.pointer (some ⟨w.heap.size,0,none⟩),.int .u64 150]) (w.alloc (.cells #[.pointer (some t)] 85)):=by kernel_rfl
theorem asTypeP (a:Addr) (w:World):(ReflectliteValue.methodAny (ReflectliteValue.valueError "reflectlite.Value.Type" 0) (fun t _ _ _=>ReflectliteType.toType t) #[.agg #[.pointer (some ⟨7,85,none⟩),.pointer (some a),.int .u64 150]]).run Tryz.prog w
  = .ok (.iface 117 (.agg #[.pointer (some ⟨7,85,none⟩)])) w:=by kernel_rfl
theorem asKind (h:Value) (w:World):(Go.method 342 117 (.agg #[h]) "Kind").run Tryz.prog w=.ok (172,h) w:=by kernel_rfl
theorem asKindP (w:World):((ReflectliteType.abiMethod fun t=>(fun a:Nat=>Value.int IntKind.u8 (a:Int)) <$> Rtype.kind t) #[.pointer (some ⟨7,85,none⟩)]).run Tryz.prog w=.ok (.int .u8 22) w:=by kernel_rfl
theorem asKindW (w:World):((ReflectliteType.abiMethod fun t=>(fun a:Nat=>Value.int IntKind.u8 (a:Int)) <$> Rtype.kind t) #[.pointer (some ⟨7,80,none⟩)]).run Tryz.prog w=.ok (.int .u8 25) w:=by kernel_rfl
theorem rlm (z:Sem Value) (f:TypeId→Addr→Nat→Nat→Sem Value) (v:Value) :
  ReflectliteValue.method z f #[v]=(do match ←ReflectliteValue.parts v with | none=>z | some (t,a,fl)=>f t a fl (fl % 32)):=rfl
theorem asPartsP (a:Addr) (w:World):(ReflectliteValue.parts (.agg #[.pointer (some ⟨7,85,none⟩),.pointer (some a),.int .u64 150])).run Tryz.prog w=.ok (some (85,a,150)) w:=by kernel_rfl
theorem asIsNilP (a p:Addr) (W:World) (ha:W.cell? a=some (.pointer (some p))) :
  (ReflectliteValue.method (ReflectliteValue.valueError "reflectlite.Value.IsNil" 0) ReflectliteValue.isNil #[.agg #[.pointer (some ⟨7,85,none⟩),.pointer (some a),.int .u64 150]]).run Tryz.prog W=.ok (.bool false) W:=by
 rw[rlm]
 simp only[Sem.run_bind,asPartsP,Result.andThen]
 simp[ReflectliteValue.isNil,loadVar,isAgg,underlying,Tryz.underlying85,ha,Result.andThen]
theorem asElem (h:Value) (w:World):(Go.method 342 117 (.agg #[h]) "Elem").run Tryz.prog w=.ok (183,.agg #[h]) w:=by kernel_rfl
theorem asImplements (h:Value) (w:World):(Go.method 342 117 (.agg #[h]) "Implements").run Tryz.prog w=.ok (184,.agg #[h]) w:=by kernel_rfl
theorem asAssignableTo (h:Value) (w:World):(Go.method 342 117 (.agg #[h]) "AssignableTo").run Tryz.prog w=.ok (181,.agg #[h]) w:=by kernel_rfl
theorem asElemP (w:World):(ReflectliteType.method ReflectliteType.elem #[.agg #[.pointer (some ⟨7,85,none⟩)]]).run Tryz.prog w=.ok (.iface 117 (.agg #[.pointer (some ⟨7,80,none⟩)])) w:=by kernel_rfl
theorem asImplementsW (w:World):(ReflectliteType.relation "Implements" ReflectliteType.implements_ #[.agg #[.pointer (some ⟨7,80,none⟩)],.iface 117 (.agg #[.pointer (some ⟨7,83,none⟩)])]).run Tryz.prog w=.ok (.bool true) w:=by kernel_rfl
theorem asTypeOfW (v:Value) (w:World):(ReflectliteType.typeOf #[.iface 80 v]).run Tryz.prog w=.ok (.iface 117 (.agg #[.pointer (some ⟨7,80,none⟩)])) w:=by kernel_rfl
theorem asAssignableW (w:World):(ReflectliteType.relation "AssignableTo" ReflectliteType.assignableTo #[.agg #[.pointer (some ⟨7,80,none⟩)],.iface 117 (.agg #[.pointer (some ⟨7,80,none⟩)])]).run Tryz.prog w=.ok (.bool true) w:=by kernel_rfl
theorem asValueOfW (x y z:Int) (w:World):(ReflectliteValue.unpack (.iface 80 (.agg #[.int .i64 x,.int .i64 y,.int .i64 z]))).run Tryz.prog w
  = .ok (.agg #[.pointer (some ⟨7,80,none⟩),.pointer (some ⟨w.heap.size,0,none⟩),.int .u64 153]) (w.alloc (.cells #[.int .i64 x,.int .i64 y,.int .i64 z] 80)):=by kernel_rfl
theorem asElemOfP (w:World):(Rtype.elem? 85).run Tryz.prog w=.ok (some 80) w:=by kernel_rfl
theorem asMkW (p:Addr) (w:World):(ReflectliteValue.mk 80 p ReflectliteValue.flagAddr).run Tryz.prog w=.ok (.agg #[.pointer (some ⟨7,80,none⟩),.pointer (some p),.int .u64 409]) w:=by kernel_rfl
theorem asElemVP (a p:Addr) (W:World) (ha:W.cell? a=some (.pointer (some p))) :
  (ReflectliteValue.method (ReflectliteValue.valueError "reflectlite.Value.Elem" 0) ReflectliteValue.elem #[.agg #[.pointer (some ⟨7,85,none⟩),.pointer (some a),.int .u64 150]]).run Tryz.prog W
   = .ok (.agg #[.pointer (some ⟨7,80,none⟩),.pointer (some p),.int .u64 409]) W:=by
 rw[rlm]
 simp only[Sem.run_bind,asPartsP,Result.andThen]
 simp[ReflectliteValue.elem,loadVar,isAgg,underlying,Tryz.underlying85,ha,Result.andThen,asElemOfP,asMkW]
theorem rls (v x:Value):ReflectliteValue.set #[v,x]=(do
  let (some (dst,a,fl),some (src,b,_)):=(←ReflectliteValue.parts v,←ReflectliteValue.parts x)
   | unsupported (.noEntry "extern/(internal/reflectlite.Value).Set.zeroValue")
  if fl / ReflectliteValue.flagAddr % 2 == 0 then unsupported (.noEntry "extern/(internal/reflectlite.Value).Set.unaddressable")
  let val ←loadVar src b
  if ←Rtype.directlyAssignable dst src then storeVar dst a val
  else if ←Rtype.implements dst src then
   if (←Rtype.kind src) == 20 then
    match val with
    | .nilIface=>unsupported (.noEntry "extern/reflectlite: a nil value of one interface type handed on as a value of another")
    | _=>storeVar dst a val
   else storeVar dst a (.iface src val)
  else panicString ("reflectlite.Set: value of type "++(←Rtype.spelt src) ++ " is not assignable to type "++(←Rtype.spelt dst))
  pure (.tuple #[])):=rfl
theorem asPartsWa (a:Addr) (w:World):(ReflectliteValue.parts (.agg #[.pointer (some ⟨7,80,none⟩),.pointer (some a),.int .u64 409])).run Tryz.prog w=.ok (some (80,a,409)) w:=by kernel_rfl
theorem asPartsW (a:Addr) (w:World):(ReflectliteValue.parts (.agg #[.pointer (some ⟨7,80,none⟩),.pointer (some a),.int .u64 153])).run Tryz.prog w=.ok (some (80,a,153)) w:=by kernel_rfl
theorem asDirectW (w:World):(Rtype.directlyAssignable 80 80).run Tryz.prog w=.ok true w:=by kernel_rfl
theorem asSetW (b n:Nat) (e:TypeId) (cells:Array Value) (x y z:Int) (W:World) (hb:W.heap[b]?=some (.cells cells e (0,0))) (hs:3≤cells.size) (hn:W.heap[n]?=some (.cells #[.int .i64 x,.int .i64 y,.int .i64 z] 80 (0,0))) :
  (ReflectliteValue.set #[.agg #[.pointer (some ⟨7,80,none⟩),.pointer (some ⟨b,0,none⟩),.int .u64 409],.agg #[.pointer (some ⟨7,80,none⟩),.pointer (some ⟨n,0,none⟩),.int .u64 153]]).run Tryz.prog W
   = .ok (.tuple #[]) (W.setRow b (([Value.int .i64 x,Value.int .i64 y,Value.int .i64 z]:List Value)++cells.toList.drop 3).toArray):=by
 have hl:=run_loadVar_at (P:=Tryz.prog) (w:=W) ti80 (b:=n) (o:=0) (ys:=[.int .i64 x,.int .i64 y,.int .i64 z]) rfl (by decide) (fun j u hj=>by
  have:(#[Value.int .i64 x,.int .i64 y,.int .i64 z]:Array Value)[0+j]?=some u:=by rw[Nat.zero_add];simpa using hj
  unfold World.cell?
  rw[hn];exact this)
 have hst:=run_storeVar_at (P:=Tryz.prog) (w:=W) ti80 (o:=0) (v:=.agg #[.int .i64 x,.int .i64 y,.int .i64 z]) hb rfl (by intro u hu;simp[Value.cells] at hu;rcases hu with rfl | rfl | rfl <;> rfl) (by show 0+3≤_;omega)
 rw[rls]
 simp only[Sem.run_bind,asPartsWa,asPartsW,Result.andThen]
 have hl' : (loadVar 80 ⟨n,0,none⟩).run Tryz.prog W=.ok (.agg #[.int .i64 x,.int .i64 y,.int .i64 z]) W:=hl
 simp[ReflectliteValue.flagAddr,hl',Result.andThen,asDirectW,hst,Value.cells]
set_option maxHeartbeats 4000000 in
theorem as_hit (b:Nat) (e:TypeId) (cells:Array Value) (x y z:Int) (w:World) (hg:w.cell? ⟨0,0,none⟩=some (.iface 117 (.agg #[.pointer (some ⟨7,83,none⟩)]))) (hb:w.heap[b]?=some (.cells cells e (0,0))) (hs:3≤cells.size) :
  Calls Tryz.prog 43 #[.iface 80 (.agg #[.int .i64 x,.int .i64 y,.int .i64 z]),.iface 85 (.pointer (some ⟨b,0,none⟩))] w fun ev w'=>ev=.returned (.bool true)∧w'=((((w.alloc (.cells #[.pointer (some ⟨b,0,none⟩)] 85)).alloc (.cells #[.pointer (some ⟨7,85,none⟩),.pointer (some ⟨w.heap.size,0,none⟩),.int .u64 150] 100)).alloc (.cells #[.pointer (some ⟨7,85,none⟩),.pointer (some ⟨w.heap.size,0,none⟩),.int .u64 150] 100)).alloc (.cells #[.int .i64 x,.int .i64 y,.int .i64 z] 80)).setRow b (([Value.int .i64 x,Value.int .i64 y,Value.int .i64 z]:List Value)++cells.toList.drop 3).toArray:=by
 have h6:=@run_callFunc_extern Tryz.prog 59 _ (fun args=>ReflectliteValue.unpack (args.getD 0 (.tuple #[]))) Tryz.func59 (by kernel_rfl) (by kernel_rfl) (by kernel_rfl) (by kernel_rfl)
 have h7:=@run_callFunc_extern Tryz.prog 60 _ (ReflectliteValue.methodAny (ReflectliteValue.valueError "reflectlite.Value.Type" 0) (fun t _ _ _=>ReflectliteType.toType t)) Tryz.func60 (by kernel_rfl) (by kernel_rfl) (by kernel_rfl) (by kernel_rfl)
 have h8:=@run_callFunc_extern Tryz.prog 61 _ (ReflectliteValue.method (ReflectliteValue.valueError "reflectlite.Value.IsNil" 0) ReflectliteValue.isNil) Tryz.func61 (by kernel_rfl) (by kernel_rfl) (by kernel_rfl) (by kernel_rfl)
 have h27:=@run_callFunc_extern Tryz.prog 172 _ (ReflectliteType.abiMethod fun t=>do pure (.int .u8 (←Rtype.kind t))) Tryz.func172 (by kernel_rfl) (by kernel_rfl) (by kernel_rfl) (by kernel_rfl)
 have h37:=@run_callFunc_extern Tryz.prog 183 _ (ReflectliteType.method ReflectliteType.elem) Tryz.func183 (by kernel_rfl) (by kernel_rfl) (by kernel_rfl) (by kernel_rfl)
 have h38:=@run_callFunc_extern Tryz.prog 184 _ (ReflectliteType.relation "Implements" ReflectliteType.implements_) Tryz.func184 (by kernel_rfl) (by kernel_rfl) (by kernel_rfl) (by kernel_rfl)
 have h10:=@run_callFunc_extern Tryz.prog 76 _ ReflectliteType.typeOf Tryz.func76 (by kernel_rfl) (by kernel_rfl) (by kernel_rfl) (by kernel_rfl)
 have h35:=@run_callFunc_extern Tryz.prog 181 _ (ReflectliteType.relation "AssignableTo" ReflectliteType.assignableTo) Tryz.func181 (by kernel_rfl) (by kernel_rfl) (by kernel_rfl) (by kernel_rfl)
 have h11:=@run_callFunc_extern Tryz.prog 77 _ (ReflectliteValue.method (ReflectliteValue.valueError "reflectlite.Value.Elem" 0) ReflectliteValue.elem) Tryz.func77 (by kernel_rfl) (by kernel_rfl) (by kernel_rfl) (by kernel_rfl)
 have h12:=@run_callFunc_extern Tryz.prog 78 _ ReflectliteValue.set Tryz.func78 (by kernel_rfl) (by kernel_rfl) (by kernel_rfl) (by kernel_rfl)
 have tO:=asTypeOfW
 have mA:=asAssignableTo
 have a25:=asAssignableW
 have v25:=asValueOfW
 have f6:=asValueOfP
 have f7:=asTypeP
 have mK:=asKind
 have mE:=asElem
 have mI:=asImplements
 have k27:=asKindP
 have k25:=asKindW
 have e27:=asElemP
 have i25:=asImplementsW
 have n8:=asIsNilP ⟨w.heap.size,0,none⟩ ⟨b,0,none⟩ ((w.alloc (.cells #[.pointer (some ⟨b,0,none⟩)] 85)).alloc (.cells #[.pointer (some ⟨7,85,none⟩),.pointer (some ⟨w.heap.size,0,none⟩),.int .u64 150] 100)) (by simp)
 have hlt:0<w.heap.size:=by
  rcases Nat.lt_or_ge 0 w.heap.size with h | h
  ·exact h
  ·simp[World.cell?,Array.getElem?_eq_none h] at hg
 have hg2:((w.alloc (.cells #[.pointer (some ⟨b,0,none⟩)] 85)).alloc (.cells #[.pointer (some ⟨7,85,none⟩),.pointer (some ⟨w.heap.size,0,none⟩),.int .u64 150] 100)).cell? ⟨0,0,none⟩=some (.iface 117 (.agg #[.pointer (some ⟨7,83,none⟩)])):=by
  rw[World.cell?_alloc_lt _ _ ⟨0,0,none⟩ (by simp <;> omega),World.cell?_alloc_lt _ _ ⟨0,0,none⟩ hlt];exact hg
 have htl:b<w.heap.size:=(Array.getElem?_eq_some_iff.1 hb).1
 have el:=asElemVP ⟨w.heap.size,0,none⟩ ⟨b,0,none⟩ (((w.alloc (.cells #[.pointer (some ⟨b,0,none⟩)] 85)).alloc (.cells #[.pointer (some ⟨7,85,none⟩),.pointer (some ⟨w.heap.size,0,none⟩),.int .u64 150] 100)).alloc (.cells #[.pointer (some ⟨7,85,none⟩),.pointer (some ⟨w.heap.size,0,none⟩),.int .u64 150] 100)) (by rw[World.cell?_alloc_lt _ _ ⟨w.heap.size,0,none⟩ (by simp;omega)];simp)
 have st:=asSetW b (w.heap.size+1+1+1) e cells x y z ((((w.alloc (.cells #[.pointer (some ⟨b,0,none⟩)] 85)).alloc (.cells #[.pointer (some ⟨7,85,none⟩),.pointer (some ⟨w.heap.size,0,none⟩),.int .u64 150] 100)).alloc (.cells #[.pointer (some ⟨7,85,none⟩),.pointer (some ⟨w.heap.size,0,none⟩),.int .u64 150] 100)).alloc (.cells #[.int .i64 x,.int .i64 y,.int .i64 z] 80))
  (by rw[Below.heap_alloc _ _ _ (by simp;omega),Below.heap_alloc _ _ _ (by simp;omega),Below.heap_alloc _ _ _ (by simp;omega),Below.heap_alloc _ _ _ htl];exact hb) hs (by
   show (Array.push _ _)[_]?=_
   rw[Array.getElem?_push];simp)
 go_enter Tryz.func43,Tryz.ntmps43
 go_wp2
 refine wp_loop_rounds 1 ?_
 rw[rounds_succ]
 go_wp2
 go_ret
 exact ⟨rfl,rfl⟩
end Go.Proofs.YtmapdjdnnhlpiaaGreatDoor
namespace Go.Proofs.YtmapdjdnnhlpiaaGreatDoor
open Go.RowKit
set_option maxRecDepth 8000
def More (w W:World):Prop:=W.os=w.os∧W.tape=w.tape∧W.output=w.output∧w.heap.size≤W.heap.size∧∀k,k<w.heap.size→W.heap[k]?=w.heap[k]?
theorem More.refl (w:World):More w w:=⟨rfl,rfl,rfl,Nat.le_refl _,fun _ _=>rfl⟩
theorem More.alloc {w W:World} (h:More w W) (o:Obj):More w (W.alloc o):=by
 obtain ⟨h1,h2,h3,h4,h5⟩:=h
 refine ⟨h1,h2,h3,by simp;omega,fun k hk=>?_⟩
 rw[Below.heap_alloc W o k (by omega)]
 exact h5 k hk
abbrev wrongO (x y z:Int):HObj:=⟨80,3,[[.v (.int .i64 x),.v (.int .i64 y),.v (.int .i64 z)]]⟩
theorem asHit {H:Heap} {k:Nat} {c0:List HV} (x y z:Int) (hk:H[k]?=some (some ⟨80,3,[c0]⟩)) :
  HCalls Tryz.prog 43 H [wrongH x y z,.ic 85 (.pt k 1 0 0)] (fun r H'=>r=.v (.bool true)∧H'=H.set k (some (wrongO x y z))):=by
 refine ⟨fun vals w=>enters_of (P:=Tryz.prog) Tryz.func43 (by kernel_rfl) rfl vals w,fun Z G FP w vals hi ha=>?_⟩
 simp only[RL] at ha
 obtain ⟨y0,ys,f1,f2,rfl,e1,hv,y1,ys1,f3,f4,rfl,e2,hv2,rfl,rfl⟩:=ha
 obtain ⟨rfl,rfl⟩:=List.append_eq_nil_iff.1 e1.symm
 obtain ⟨rfl,_⟩:=List.append_eq_nil_iff.1 e2.symm
 unfold wrongH at hv
 rw[RV] at hv hv2
 obtain ⟨_,z0,rfl,hv⟩:=hv
 obtain ⟨_,z1,rfl,hv2⟩:=hv2
 rw[RV] at hv
 obtain ⟨zs,rfl,hv⟩:=hv
 obtain ⟨zs⟩:=zs
 simp only[RL,RV] at hv
 obtain ⟨_,_,_,_,rfl,_,⟨_,rfl⟩,_,_,_,_,rfl,_,⟨_,rfl⟩,_,_,_,_,rfl,_,⟨_,rfl⟩,rfl,_⟩:=hv
 obtain ⟨g,b,cells,f,hg,hob,hgb,hfp,hb,hcs,hc1,hc2,hrr,rfl,hrow⟩:=pt_at hi hk rfl rfl hv2
 have hbl:b<w.heap.size:=(Array.getElem?_eq_some_iff.1 hb).1
 have hgl:=(hi.glob.han 0 rfl).2
 have hc1' : 1≤g.cap:=hc1
 have hs:3≤cells.size:=by rw[hcs];show 3≤g.cap*3;omega
 refine Calls.mono (as_hit b _ cells x y z w hgl hb hs) ?_
 rintro e w' ⟨rfl,rfl⟩
 obtain ⟨m1,m2,m3,m4,m5⟩:=((((More.refl w).alloc (.cells #[.pointer (some ⟨b,0,none⟩)] 85)).alloc (.cells #[.pointer (some ⟨7,85,none⟩),.pointer (some ⟨w.heap.size,0,none⟩),.int .u64 150] 100)).alloc (.cells #[.pointer (some ⟨7,85,none⟩),.pointer (some ⟨w.heap.size,0,none⟩),.int .u64 150] 100)).alloc (.cells #[.int .i64 x,.int .i64 y,.int .i64 z] 80)
 generalize (((w.alloc (.cells #[.pointer (some ⟨b,0,none⟩)] 85)).alloc (.cells #[.pointer (some ⟨7,85,none⟩),.pointer (some ⟨w.heap.size,0,none⟩),.int .u64 150] 100)).alloc (.cells #[.pointer (some ⟨7,85,none⟩),.pointer (some ⟨w.heap.size,0,none⟩),.int .u64 150] 100)).alloc (.cells #[.int .i64 x,.int .i64 y,.int .i64 z] 80)=W at m1 m2 m3 m4 m5
 generalize hcn:(([Value.int .i64 x,Value.int .i64 y,Value.int .i64 z]:List Value)++cells.toList.drop 3).toArray=cn
 have hcz:cn.size=cells.size:=by rw[←hcn];simp;omega
 have hbW:W.heap[b]?=some (.cells cells 80 (0,0)):=by rw[m5 b hbl];exact hb
 have hnew:=setRow_heap W b cells cn _ _ hbW
 have hold:∀j,j<w.heap.size→j≠b→(W.setRow b cn).heap[j]?=w.heap[j]?:=fun j hj hne=>by rw[setRow_other W b j cn hne];exact m5 j hj
 have hcell:∀j,(W.setRow b cn).cell? ⟨b,j,none⟩=cn[j]?:=fun j=>cell_setRow_same W b j cells cn _ _ hbW
 have h0:cn[0]?=some (.int .i64 x):=by rw[←hcn];rfl
 have h1:cn[1]?=some (.int .i64 y):=by rw[←hcn];rfl
 have h2:cn[2]?=some (.int .i64 z):=by rw[←hcn];rfl
 have hb1:b∈FP k:=by rw[hfp];simp
 have hinv:=hi.turn (w':=W.setRow b cn) (o':=wrongO x y z) (g':=g) (fp':=[b]) hk hg (.inl rfl) (by simp;omega) (fun j hj hn=>hold j hj (fun e=>hn (by rw[hfp,e];simp)))
  ⟨hob.e,hob.sz,hob.n,by simp,.inr (.inl ⟨b,cn,[],hgb,rfl,hnew,by rw[hcz];exact hcs,hc1,hc2,by
   simp only[RR,RC,RV]
   exact ⟨[],[],rfl,⟨_,[],[],rfl,(hcell 0).trans h0,rfl,⟨rfl,rfl⟩,_,[],[],rfl,(hcell 1).trans h1,rfl,⟨rfl,rfl⟩,_,[],[],rfl,(hcell 2).trans h2,rfl,⟨rfl,rfl⟩,rfl⟩,rfl⟩⟩)⟩ (by simp) (fun j hj=>by
    obtain rfl:=List.mem_singleton.1 hj
    exact ⟨fun hz=>hi.zfp k _ hb1 hz,by simp;omega,fun i hne hc=>hne (hi.disj i k _ hc hb1)⟩)
 refine ⟨_,_,_,_,_,_,[],rfl,⟨rfl,rfl⟩,by simp,hinv,by simp[RV],by simp,by simp,by simp,GLe.set hg (.inl rfl),evo_turn m1 m2 m3 (by simp;omega) (fun j hj hn=>hold j hj (fun e=>hn (by rw[hfp,e];simp))) (fun j hj=>by
  obtain rfl:=List.mem_singleton.1 hj
  exact .inr ⟨k,hb1⟩)⟩
theorem asNil {H:Heap} {k:Nat} {c0:List HV} (hk:H[k]?=some (some ⟨80,3,[c0]⟩)) :
  HCalls Tryz.prog 43 H [.v .nilIface,.ic 85 (.pt k 1 0 0)] (fun r H'=>r=.v (.bool false)∧H'=H):=by
 refine ⟨fun vals w=>enters_of (P:=Tryz.prog) Tryz.func43 (by kernel_rfl) rfl vals w,fun Z G FP w vals hi ha=>?_⟩
 simp only[RL] at ha
 obtain ⟨y0,ys,f1,f2,rfl,e1,hv,y1,ys1,f3,f4,rfl,e2,hv2,rfl,rfl⟩:=ha
 obtain ⟨rfl,rfl⟩:=List.append_eq_nil_iff.1 e1.symm
 obtain ⟨rfl,_⟩:=List.append_eq_nil_iff.1 e2.symm
 simp only[RV] at hv
 obtain ⟨_,rfl⟩:=hv
 refine Calls.mono (as_nil _ w) ?_
 rintro e w' ⟨rfl,rfl⟩
 exact ⟨_,_,H,Z,G,FP,[],rfl,⟨rfl,rfl⟩,rfl,hi,by simp[RV],by simp,by simp,by simp,GLe.refl _,Evo.refl _ _ _⟩
end Go.Proofs.YtmapdjdnnhlpiaaGreatDoor
namespace Go.Proofs.YtmapdjdnnhlpiaaGreatDoor
open Go.RowKit
set_option maxRecDepth 8000
structure OkF (f:Fl):Prop where
 init:f.init.length≤1000000
 thr:f.thr.length≤1000000
 cond:f.cond.length≤1000000
 len:∀l∈f.thr,l.length≤1000000
 locs:(locL f).length≤1000000
 loc:∀s∈locL f,s.length≤1000000
def thsO (t:Nat):List (List LT)→Option (Int×Int×Int)
 | []=>none
 | l::r=>match thrO t l with | some w=>some w | none=>thsO (t+1) r
def locO (f:Fl):Option (Int×Int×Int):=if 4<(foldC [] (locL f)).length then some (-1,-1,5) else none
def allO (f:Fl):Option (Int×Int×Int) :=
 match headO f with
 | some w=>some w
 | none=>match thsO 0 f.thr with
  | some w=>some w
  | none=>match conO f with
   | some w=>some w
   | none=>locO f
def checkF (f:Fl):Int×Int×Int:=(allO f).getD (0,0,0)
theorem wrO_none:wrO none=.v .nilIface:=rfl
theorem wrO_some {t i e:Int}:wrO (some (t,i,e))=wrongH t i e:=rfl
attribute [go_sem] wrO_none wrO_some
theorem sortedMS_length (kv:List (List UInt8×Int)):(sortedMS kv).length=kv.length:=by simp[sortedMS,List.length_mergeSort]
set_option maxHeartbeats 8000000 in
theorem validAll (f:Fl) (ok:OkF f):HFn Tryz.prog 44 [fileH f] (wrO (allO f)):=by
 have hH:=validHead f ok.init ok.thr
 have hC:=validAsked f ok.cond ok.thr
 have hL:=validLocs f ok.locs ok.init ok.thr ok.cond ok.len ok.loc
 have hthr:=ok.thr
 unfold allO
 refine HCalls_body (fn:=Tryz.f44) 40 [2] (by kernel_rfl) rfl (by kernel_rfl) (HW.run 400 (by kernel_rfl) ?_)
 simp (config:={ decide:=true }) only[go_sem,Int.reduceToNat,Nat.reduceAdd,Nat.reduceSub,Nat.reduceMul,Nat.reduceBEq,reduceIte,reduceCtorEq]
 cases hh:headO f with
 | some w =>
  obtain ⟨a,b,c⟩:=w
  rw[hh] at hH
  refine callX_fn 3 (hH) (by simp only[go_sem]) rfl ?_
  simp (config:={ decide:=true }) only[go_sem,Int.reduceToNat,Nat.reduceAdd,Nat.reduceSub,Nat.reduceMul,Nat.reduceBEq,reduceIte,reduceCtorEq]
 | none =>
  rw[hh] at hH
  refine callX_fn 3 (hH) (by simp only[go_sem]) rfl ?_
  simp (config:={ decide:=true }) only[go_sem,Int.reduceToNat,Nat.reduceAdd,Nat.reduceSub,Nat.reduceMul,Nat.reduceBEq,reduceIte,reduceCtorEq]
  refine HW.loopG (fun k T H=>∃(i:Nat),k=f.thr.length-i∧i≤f.thr.length∧thsO 0 f.thr=thsO i (f.thr.drop i)∧T 1=.pt 0 1 0 0∧T 14=.sl (tds f.thr)∧T 15=.v (.int .i64 f.thr.length)∧T 16=.v (.int .i64 i)∧H=[some (fileO f)]) f.thr.length ⟨_,_,Ghost.refl,0,rfl,by omega,rfl,rfl,rfl,rfl,rfl,rfl⟩ ?_
  rintro k T H ⟨i,rfl,hil,hI,h1,h14,h15,h16,rfl⟩
  refine HW.run 200 (by kernel_rfl) ?_
  by_cases hlt:i<f.thr.length
  ·have hlt' : ((i:Int)<(f.thr.length:Int))=True:=by simp only[eq_iff_iff,iff_true];omega
   have hx:f.thr[i]?=some f.thr[i]:=List.getElem?_eq_getElem hlt
   have hdr:f.thr.drop i=f.thr[i]::f.thr.drop (i+1):=List.drop_eq_getElem_cons hlt
   have hll:=ok.len _ (List.getElem_mem hlt)
   rw[hdr,thsO] at hI
   generalize f.thr[i]=l at hx hI hll
   have hT:=validThread (i:Int) l hll
   simp (config:={ decide:=true }) only[go_sem,Int.reduceToNat,Nat.reduceAdd,Nat.reduceSub,Nat.reduceMul,Nat.reduceBEq,reduceIte,reduceCtorEq,h1,h14,h15,h16,hlt',hx,tdrow]
   cases ht:thrO (i:Int) l with
   | some w =>
    obtain ⟨a,b,c⟩:=w
    rw[ht] at hT hI
    rw[hI]
    refine callX_fn 3 (hT) (by simp only[go_sem]) rfl ?_
    simp (config:={ decide:=true }) only[go_sem,Int.reduceToNat,Nat.reduceAdd,Nat.reduceSub,Nat.reduceMul,Nat.reduceBEq,reduceIte,reduceCtorEq,h1,h14,h15,h16]
   | none =>
    rw[ht] at hT hI
    refine callX_fn 3 (hT) (by simp only[go_sem]) rfl ?_
    simp (config:={ decide:=true }) only[go_sem,Int.reduceToNat,Nat.reduceAdd,Nat.reduceSub,Nat.reduceMul,Nat.reduceBEq,reduceIte,reduceCtorEq,h1,h14,h15,h16]
    refine ⟨_,_,Ghost.trunc [1,14,15,16] 1 (by omega) ?_ ?_,f.thr.length-(i+1),by omega,i+1,rfl,by omega,hI,?_,?_,?_,?_,?_⟩
    all_goals first | (simp (config:={ decide:=true }) only[go_sem,Nat.reduceBEq,reduceIte,h1,h14,h15,h16];done) | (simp (config:={ decide:=true }) only[go_sem,Nat.reduceBEq,reduceIte];rw[w64 (by omega) (by omega)];rfl) | rfl
  ·have hlt' : ((i:Int)<(f.thr.length:Int))=False:=by simp only[eq_iff_iff,iff_false];omega
   rw[List.drop_of_length_le (by omega)] at hI
   have hI' : thsO 0 f.thr=none:=hI
   rw[hI']
   simp (config:={ decide:=true }) only[go_sem,Int.reduceToNat,Nat.reduceAdd,Nat.reduceSub,Nat.reduceMul,Nat.reduceBEq,reduceIte,reduceCtorEq,h1,h14,h15,h16,hlt']
   cases hc:conO f with
   | some w =>
    obtain ⟨a,b,c⟩:=w
    rw[hc] at hC
    refine callX_fn 3 (hC) (by simp only[go_sem]) rfl ?_
    simp (config:={ decide:=true }) only[go_sem,Int.reduceToNat,Nat.reduceAdd,Nat.reduceSub,Nat.reduceMul,Nat.reduceBEq,reduceIte,reduceCtorEq,h1]
   | none =>
    rw[hc] at hC
    refine callX_fn 3 (hC) (by simp only[go_sem]) rfl ?_
    simp (config:={ decide:=true }) only[go_sem,Int.reduceToNat,Nat.reduceAdd,Nat.reduceSub,Nat.reduceMul,Nat.reduceBEq,reduceIte,reduceCtorEq,h1]
    refine callX_fn 3 (hL) (by simp only[go_sem]) nz_owStrs ?_
    have hlen:=sortedMS_length (foldC [] (locL f))
    by_cases h4:4<(foldC [] (locL f)).length
    ·have h4' : ((4:Int)<((foldC [] (locL f)).length:Int))=True:=by simp only[eq_iff_iff,iff_true];omega
     simp (config:={ decide:=true }) only[go_sem,Int.reduceToNat,Nat.reduceAdd,Nat.reduceSub,Nat.reduceMul,Nat.reduceBEq,reduceIte,reduceCtorEq,h1,owStrs,hlen,h4']
     unfold locO
     rw[if_pos h4]
     rfl
    ·have h4' : ((4:Int)<((foldC [] (locL f)).length:Int))=False:=by simp only[eq_iff_iff,iff_false];omega
     simp (config:={ decide:=true }) only[go_sem,Int.reduceToNat,Nat.reduceAdd,Nat.reduceSub,Nat.reduceMul,Nat.reduceBEq,reduceIte,reduceCtorEq,h1,owStrs,hlen,h4']
     unfold locO
     rw[if_neg h4]
     rfl
theorem validCheck (f:Fl) (ok:OkF f):HFn Tryz.prog 25 [fileH f] (.tu [.v (.int .i64 (checkF f).1),.v (.int .i64 (checkF f).2.1),.v (.int .i64 (checkF f).2.2)]):=by
 have hA:=validAll f ok
 unfold checkF
 refine HCalls_body (fn:=Tryz.f25) 16 [2,3,4] (by kernel_rfl) rfl (by kernel_rfl) (HW.run 400 (by kernel_rfl) ?_)
 simp (config:={ decide:=true }) only[go_sem,Int.reduceToNat,Nat.reduceAdd,Nat.reduceSub,Nat.reduceMul,Nat.reduceBEq,reduceIte,reduceCtorEq]
 cases ha:allO f with
 | none =>
  rw[ha] at hA
  refine callX_fn 3 (hA) (by simp only[go_sem]) rfl ?_
  simp (config:={ decide:=true }) only[go_sem,Int.reduceToNat,Nat.reduceAdd,Nat.reduceSub,Nat.reduceMul,Nat.reduceBEq,reduceIte,reduceCtorEq]
  refine ⟨_,asNil (k:=1) rfl,?_⟩
  rintro r H' ⟨rfl,rfl⟩ -
  simp (config:={ decide:=true }) only[go_sem,Int.reduceToNat,Nat.reduceAdd,Nat.reduceSub,Nat.reduceMul,Nat.reduceBEq,reduceIte,reduceCtorEq]
 | some w =>
  obtain ⟨a,b,c⟩:=w
  rw[ha] at hA
  refine callX_fn 3 (hA) (by simp only[go_sem]) rfl ?_
  simp (config:={ decide:=true }) only[go_sem,Int.reduceToNat,Nat.reduceAdd,Nat.reduceSub,Nat.reduceMul,Nat.reduceBEq,reduceIte,reduceCtorEq]
  refine ⟨_,asHit (k:=1) a b c rfl,?_⟩
  rintro r H' ⟨rfl,rfl⟩ -
  simp (config:={ decide:=true }) only[go_sem,Int.reduceToNat,Nat.reduceAdd,Nat.reduceSub,Nat.reduceMul,Nat.reduceBEq,reduceIte,reduceCtorEq]
  refine HW.tree 1 (.light 0 (.light 1 (.light 2 (.light 3 (.light 4 (.light 5 (.light 6 (.light 7 (.light 8 .leaf))))))))) follows (by kernel_rfl) (by kernel_rfl) ?_
  simp (config:={ decide:=true }) only[go_sem,Int.reduceToNat,Nat.reduceAdd,Nat.reduceSub,Nat.reduceMul,Nat.reduceBEq,reduceIte,reduceCtorEq]
end Go.Proofs.YtmapdjdnnhlpiaaGreatDoor
namespace Go.Proofs.YtmapdjdnnhlpiaaGreatDoor
open Go.RowKit
section
variable {N L:Nat} {T:Nat→HV} {H:Heap}
end
end Go.Proofs.YtmapdjdnnhlpiaaGreatDoor
namespace Go.Proofs.YtmapdjdnnhlpiaaGreatDoor
open Go.RowKit
set_option maxRecDepth 8000
def towrow (x:List LT):List HV:=[.ow 50 5 (lns x)]
def towR (l:List (List LT)):List (List HV):=l.map towrow
def lorow (x:List Int):List HV:=[.ow 3 1 (ints x)]
def lowR (l:List (List Int)):List (List HV):=l.map lorow
theorem towR_len {l:List (List LT)}:(towR l).length=l.length:=by simp[towR]
theorem lowR_len {l:List (List Int)}:(lowR l).length=l.length:=by simp[lowR]
theorem towR_nmR {m:Nat}:∀{l:List (List LT)},nmR m (towR l)=true
 | []=>rfl
 | x::l=>by
  show nmR m (towrow x::towR l)=true
  simp only[nmR,towrow,nmL,nm,towR_nmR,Bool.and_self]
theorem lowR_nmR {m:Nat}:∀{l:List (List Int)},nmR m (lowR l)=true
 | []=>rfl
 | x::l=>by
  show nmR m (lorow x::lowR l)=true
  simp only[nmR,lorow,nmL,nm,lowR_nmR,Bool.and_self]
theorem towR_rowsLen {l:List (List LT)}:RowsLen (towR l) 1=True:=by
 simp only[RowsLen,towR,List.mem_map,eq_iff_iff,iff_true]
 rintro r ⟨a,_,rfl⟩;rfl
theorem lowR_rowsLen {l:List (List Int)}:RowsLen (lowR l) 1=True:=by
 simp only[RowsLen,lowR,List.mem_map,eq_iff_iff,iff_true]
 rintro r ⟨a,_,rfl⟩;rfl
theorem towR_snoc {l:List (List LT)} {x:List LT}:towR l++[towrow x]=towR (l++[x]):=by simp[towR]
theorem lowR_snoc {l:List (List Int)} {x:List Int}:lowR l++[lorow x]=lowR (l++[x]):=by simp[lowR]
attribute [go_sem] towR_len lowR_len towR_nmR lowR_nmR towR_rowsLen lowR_rowsLen
structure PS where
 f:Fl
 next:Int
 lines:List (List Int)
 head:Int
 fin:Int
abbrev rO (s:PS) (a b c d:HV):HObj:=⟨58,9,[[.v (str s.f.name),a,b,.v (.bool s.f.all),c,.v (.int .i64 s.next),d,.v (.int .i64 s.head),.v (.int .i64 s.fin)]]⟩
abbrev pO (s:PS):HObj:=rO s (.ow 44 2 (cls s.f.init)) (.ow 47 1 (towR s.f.thr)) (.ow 53 3 (ats s.f.cond)) (.ow 38 1 (lowR s.lines))
abbrev zO:HObj:=⟨27,5,[[.v (str []),.v (.slice none 0 0),.v (.slice none 0 0),.v (.bool false),.v (.slice none 0 0)]]⟩
def cellsF:List (List UInt8)→List (List UInt8×Int)×Bool
 | []=>([],true)
 | [_]=>([],false)
 | a::b::r=>if (numB b).2=false then ([],false) else ((a,(numB b).1)::(cellsF r).1,(cellsF r).2)
theorem cellsF_two {r:List (List UInt8)} {a b:List UInt8} (h0:r[0]?=some a) (h1:r[1]?=some b):cellsF r=if (numB b).2=false then ([],false) else ((a,(numB b).1)::(cellsF (r.drop 2)).1,(cellsF (r.drop 2)).2):=by
 match r,h0,h1 with
 | _::_::r,h0,h1 =>
  simp at h0 h1
  subst h0 h1
  rw[cellsF];rfl
theorem cellsF_few {r:List (List UInt8)} (h:¬1<r.length):cellsF r=([],decide ((r.length:Int)=0)):=by
 match r,h with
 | [],_=>rfl
 | [_],_=>rfl
 | _::_::_,h=>simp at h
theorem cellsF_len:∀(w:List (List UInt8)),(cellsF w).1.length≤w.length
 | []=>by simp[cellsF]
 | [_]=>by simp[cellsF]
 | a::b::r=>by
  rw[cellsF]
  have:=cellsF_len r
  split <;> simp;omega
abbrev withInit (s:PS) (x:List (List UInt8×Int)):PS:={ s with f:={ s.f with init:=x } }
abbrev withCond (s:PS) (x:List AT):PS:={ s with f:={ s.f with cond:=x } }
theorem nm_p (s:PS) (rest:Heap):nmH 2 (some zO::some (pO s)::rest)=true:=by
 simp (config:={ decide:=true }) only[go_sem,Int.reduceToNat,Nat.reduceAdd,Nat.reduceSub,Nat.reduceMul,Nat.reduceBEq,reduceIte,reduceCtorEq,nmH,List.take_succ_cons,List.take_zero,List.all_cons,List.all_nil,nmR,nmL,nm,cls_nmR,towR_nmR,ats_nmR,lowR_nmR,Bool.and_self]
theorem endP_p {s:PS} {x:HV} {rest:Heap} {Q:HV→Heap→Prop} (h:Q x [some zO,some (pO s)]):endP 2 Q (x,some zO::some (pO s)::rest):=⟨nm_p s rest,h⟩
set_option maxHeartbeats 8000000 in
theorem pCells (s:PS) (w:List (List UInt8)) (hw:∀x∈w,x.length≤1000000) (hn:w.length≤1000000) (hi:s.f.init.length≤1000000) :
  HCalls Tryz.prog 38 [some zO,some (pO s)] [.pt 1 1 0 0,.sl (strs w)] (fun x H'=>x=.v (.bool (cellsF w).2)∧H'=[some zO,some (pO (withInit s (s.f.init++(cellsF w).1)))]):=by
 refine HCalls_body (fn:=Tryz.f38) 40 [4] (by kernel_rfl) rfl (by kernel_rfl) (HW.run 400 (by kernel_rfl) ?_)
 simp (config:={ decide:=true }) only[go_sem,Int.reduceToNat,Nat.reduceAdd,Nat.reduceSub,Nat.reduceMul,Nat.reduceBEq,reduceIte,reduceCtorEq]
 refine HW.loopG (fun k T H=>∃(acc:List (List UInt8×Int)) (r:List (List UInt8)),k=r.length∧r.length≤1000000∧acc.length+r.length≤2000000∧(∀x∈r,x.length≤1000000)∧s.f.init++(cellsF w).1=acc++(cellsF r).1∧(cellsF w).2=(cellsF r).2∧T 0=.pt 1 1 0 0∧T 1=.sl (strs r)∧H=[some zO,some (rO s (.hd 2 0 acc.length) (.ow 47 1 (towR s.f.thr)) (.ow 53 3 (ats s.f.cond)) (.ow 38 1 (lowR s.lines))),some ⟨44,2,cls acc⟩]) w.length ⟨_,_,Ghost.open 1 0 1,s.f.init,w,rfl,hn,by omega,hw,rfl,rfl,rfl,rfl,?_⟩ ?_
 ·rw[←cls_length];rfl
 rintro k T H ⟨acc,r,rfl,hr,har,hrw,hI1,hI2,h0,h1,rfl⟩
 by_cases hlt:1<r.length
 ·have hlt' : ((1:Int)<(r.length:Int))=True:=by simp only[eq_iff_iff,iff_true];omega
  have e0:r[0]?=some r[0]:=List.getElem?_eq_getElem (by omega)
  have e1:r[1]?=some r[1]:=List.getElem?_eq_getElem hlt
  have hb:=hrw _ (List.getElem_mem hlt)
  generalize r[0]=a at e0
  generalize r[1]=b at e1 hb
  rw[cellsF_two e0 e1] at hI1 hI2
  cases hnb:(numB b).2 with
  | false =>
   rw[if_pos hnb] at hI1 hI2
   refine HW.ghost (Ghost.absorbHd 1 0 1 (j:=2) rfl rfl rfl rfl (by decide) cls_length.symm cls_nmR) ?_
   refine HW.run 200 (by kernel_rfl) ?_
   simp (config:={ decide:=true }) only[go_sem,Int.reduceToNat,Nat.reduceAdd,Nat.reduceSub,Nat.reduceMul,Nat.reduceBEq,reduceIte,reduceCtorEq,h0,h1,hlt',e0,e1]
   refine callX_fn 3 (numGet b hb) (by simp only[go_sem]) rfl ?_
   simp (config:={ decide:=true }) only[go_sem,Int.reduceToNat,Nat.reduceAdd,Nat.reduceSub,Nat.reduceMul,Nat.reduceBEq,reduceIte,reduceCtorEq,h0,h1,hnb]
   refine endP_p (s:=withInit s acc) ⟨by rw[hI2],?_⟩
   rw[hI1,List.append_nil]
  | true =>
   rw[if_neg (by simp[hnb])] at hI1 hI2
   refine HW.run 200 (by kernel_rfl) ?_
   simp (config:={ decide:=true }) only[go_sem,Int.reduceToNat,Nat.reduceAdd,Nat.reduceSub,Nat.reduceMul,Nat.reduceBEq,reduceIte,reduceCtorEq,h0,h1,hlt',e0,e1]
   refine callX_fn 3 (numGet b hb) (by simp only[go_sem]) rfl ?_
   simp (config:={ decide:=true }) only[go_sem,Int.reduceToNat,Nat.reduceAdd,Nat.reduceSub,Nat.reduceMul,Nat.reduceBEq,reduceIte,reduceCtorEq,h0,h1,hnb,e0,e1]
   refine HW.tree 1 (.light 0 (.light 1 (.light 2 (.light 3 (.light 4 (.light 5 (.light 6 (.light 7 (.light 8 (.light 9 (.light 10 (.heavy 11 [0,1,2,3,4,5] (.heavy 12 [0] (.light 13 (.light 14 (.light 15 (.heavy 16 [] .leaf .stop)))) .stop) .stop)))))))))))) follows (by kernel_rfl) (by kernel_rfl) ?_
   simp (config:={ decide:=true }) only[go_sem,Int.reduceToNat,Nat.reduceAdd,Nat.reduceSub,Nat.reduceMul,Nat.reduceBEq,reduceIte,reduceCtorEq,h0,h1,hnb,e0,e1]
   have htk:List.take (r.length-2) (List.drop 2 r)=List.drop 2 r:=List.take_of_length_le (by rw[List.length_drop];omega)
   have hrd:(r.drop 2).length≤r.length-2:=by rw[List.length_drop];omega
   refine ⟨by omega,⟨by omega,by omega⟩,by omega,_,_,Ghost.trunc [0,1] 3 (by omega) ?_ ?_,(r.drop 2).length,by omega,acc++[(a,(numB b).1)],r.drop 2,rfl,by omega,by simp only[List.length_append,List.length_cons,List.length_nil];omega,fun x hx=>hrw x (List.mem_of_mem_drop hx),by rw[hI1,List.append_assoc];rfl,hI2,?_,?_,?_⟩
   all_goals first | (simp (config:={ decide:=true }) only[go_sem,Nat.reduceBEq,reduceIte,h0,h1,htk];done) | (simp (config:={ decide:=true }) only[go_sem,Int.reduceToNat,Nat.reduceAdd,Nat.reduceSub,Nat.reduceMul,Nat.reduceBEq,reduceIte,reduceCtorEq,h0,h1,List.length_append,List.length_cons,List.length_nil];done)
 ·have hlt' : ((1:Int)<(r.length:Int))=False:=by simp only[eq_iff_iff,iff_false];omega
  rw[cellsF_few hlt] at hI1 hI2
  refine HW.ghost (Ghost.absorbHd 1 0 1 (j:=2) rfl rfl rfl rfl (by decide) cls_length.symm cls_nmR) ?_
  refine HW.run 200 (by kernel_rfl) ?_
  simp (config:={ decide:=true }) only[go_sem,Int.reduceToNat,Nat.reduceAdd,Nat.reduceSub,Nat.reduceMul,Nat.reduceBEq,reduceIte,reduceCtorEq,h0,h1,hlt']
  refine endP_p (s:=withInit s acc) ⟨by rw[hI2],?_⟩
  rw[hI1,List.append_nil]
def atomsF:List (List UInt8)→List AT×Bool
 | []=>([],true)
 | x::r=>if (atomB x).2=false then ([],false) else ((atomB x).1::(atomsF r).1,(atomsF r).2)
theorem atomsF_len:∀(w:List (List UInt8)),(atomsF w).1.length≤w.length
 | []=>by simp[atomsF]
 | a::r=>by
  rw[atomsF]
  have:=atomsF_len r
  split <;> simp;omega
set_option maxHeartbeats 8000000 in
theorem pAtoms (s:PS) (w:List (List UInt8)) (hw:∀x∈w,x.length≤1000000) (hn:w.length≤1000000) (hi:s.f.cond.length≤1000000) :
  HCalls Tryz.prog 39 [some zO,some (pO s)] [.pt 1 1 0 0,.sl (strs w)] (fun x H'=>x=.v (.bool (atomsF w).2)∧H'=[some zO,some (pO (withCond s (s.f.cond++(atomsF w).1)))]):=by
 refine HCalls_body (fn:=Tryz.f39) 35 [4] (by kernel_rfl) rfl (by kernel_rfl) (HW.run 400 (by kernel_rfl) ?_)
 simp (config:={ decide:=true }) only[go_sem,Int.reduceToNat,Nat.reduceAdd,Nat.reduceSub,Nat.reduceMul,Nat.reduceBEq,reduceIte,reduceCtorEq]
 refine HW.loopG (fun k T H=>∃(i:Nat) (acc:List AT),k=w.length-i∧i≤w.length∧acc.length≤1000000+i∧s.f.cond++(atomsF w).1=acc++(atomsF (w.drop i)).1∧(atomsF w).2=(atomsF (w.drop i)).2∧T 0=.pt 1 1 0 0∧T 9=.sl (strs w)∧T 10=.v (.int .i64 w.length)∧T 11=.v (.int .i64 i)∧H=[some zO,some (rO s (.ow 44 2 (cls s.f.init)) (.ow 47 1 (towR s.f.thr)) (.hd 2 0 acc.length) (.ow 38 1 (lowR s.lines))),some ⟨53,3,ats acc⟩]) w.length ⟨_,_,Ghost.open 1 0 4,0,s.f.cond,rfl,by omega,by omega,rfl,rfl,rfl,rfl,rfl,rfl,?_⟩ ?_
 ·rw[←ats_length];rfl
 rintro k T H ⟨i,acc,rfl,hil,har,hI1,hI2,h0,h9,h10,h11,rfl⟩
 by_cases hlt:i<w.length
 ·have hlt' : ((i:Int)<(w.length:Int))=True:=by simp only[eq_iff_iff,iff_true];omega
  have hx:w[i]?=some w[i]:=List.getElem?_eq_getElem hlt
  have hdr:w.drop i=w[i]::w.drop (i+1):=List.drop_eq_getElem_cons hlt
  have hb:=hw _ (List.getElem_mem hlt)
  rw[hdr,atomsF] at hI1 hI2
  generalize w[i]=b at hx hb hI1 hI2
  cases hnb:(atomB b).2 with
  | false =>
   rw[if_pos hnb] at hI1 hI2
   refine HW.ghost (Ghost.absorbHd 1 0 4 (j:=2) rfl rfl rfl rfl (by decide) ats_length.symm ats_nmR) ?_
   refine HW.run 200 (by kernel_rfl) ?_
   simp (config:={ decide:=true }) only[go_sem,Int.reduceToNat,Nat.reduceAdd,Nat.reduceSub,Nat.reduceMul,Nat.reduceBEq,reduceIte,reduceCtorEq,h0,h9,h10,h11,hlt',hx]
   refine callX_fn 3 (opsAtom b hb) (by simp only[go_sem]) rfl ?_
   simp (config:={ decide:=true }) only[go_sem,Int.reduceToNat,Nat.reduceAdd,Nat.reduceSub,Nat.reduceMul,Nat.reduceBEq,reduceIte,reduceCtorEq,h0,h9,h10,h11,hnb]
   refine endP_p (s:=withCond s acc) ⟨by rw[hI2],?_⟩
   rw[hI1,List.append_nil]
  | true =>
   rw[if_neg (by simp[hnb])] at hI1 hI2
   refine HW.run 200 (by kernel_rfl) ?_
   simp (config:={ decide:=true }) only[go_sem,Int.reduceToNat,Nat.reduceAdd,Nat.reduceSub,Nat.reduceMul,Nat.reduceBEq,reduceIte,reduceCtorEq,h0,h9,h10,h11,hlt',hx]
   refine callX_fn 3 (opsAtom b hb) (by simp only[go_sem]) rfl ?_
   simp (config:={ decide:=true }) only[go_sem,Int.reduceToNat,Nat.reduceAdd,Nat.reduceSub,Nat.reduceMul,Nat.reduceBEq,reduceIte,reduceCtorEq,h0,h9,h10,h11,hnb]
   refine HW.tree 1 (.light 0 (.light 1 (.light 2 (.light 3 (.light 4 (.light 5 (.light 6 (.heavy 7 [0,1,2,3,4,5] (.heavy 8 [0] (.light 9 (.light 10 (.light 11 (.heavy 12 [] .leaf .stop)))) .stop) .stop)))))))) follows (by kernel_rfl) (by kernel_rfl) ?_
   simp (config:={ decide:=true }) only[go_sem,Int.reduceToNat,Nat.reduceAdd,Nat.reduceSub,Nat.reduceMul,Nat.reduceBEq,reduceIte,reduceCtorEq,h0,h9,h10,h11]
   refine ⟨⟨by omega,by omega⟩,_,_,Ghost.trunc [0,9,10,11] 3 (by omega) ?_ ?_,w.length-(i+1),by omega,i+1,acc++[(atomB b).1],rfl,by omega,by simp only[List.length_append,List.length_cons,List.length_nil];omega,by rw[hI1,List.append_assoc];rfl,hI2,?_,?_,?_,?_,?_⟩
   all_goals first | (simp (config:={ decide:=true }) only[go_sem,Nat.reduceBEq,reduceIte,h0,h9,h10,h11];done) | (simp (config:={ decide:=true }) only[go_sem,Nat.reduceBEq,reduceIte];rw[w64 (by omega) (by omega)];rfl) | (simp (config:={ decide:=true }) only[go_sem,Int.reduceToNat,Nat.reduceAdd,Nat.reduceSub,Nat.reduceMul,Nat.reduceBEq,reduceIte,reduceCtorEq,h0,h9,List.length_append,List.length_cons,List.length_nil];done)
 ·have hlt' : ((i:Int)<(w.length:Int))=False:=by simp only[eq_iff_iff,iff_false];omega
  rw[List.drop_of_length_le (by omega)] at hI1 hI2
  refine HW.ghost (Ghost.absorbHd 1 0 4 (j:=2) rfl rfl rfl rfl (by decide) ats_length.symm ats_nmR) ?_
  refine HW.run 200 (by kernel_rfl) ?_
  simp (config:={ decide:=true }) only[go_sem,Int.reduceToNat,Nat.reduceAdd,Nat.reduceSub,Nat.reduceMul,Nat.reduceBEq,reduceIte,reduceCtorEq,h0,h9,h10,h11,hlt']
  refine endP_p (s:=withCond s acc) ⟨by rw[hI2];rfl,?_⟩
  rw[hI1]
  show _=[some zO,some (pO (withCond s (acc++[])))]
  rw[List.append_nil]
end Go.Proofs.YtmapdjdnnhlpiaaGreatDoor
