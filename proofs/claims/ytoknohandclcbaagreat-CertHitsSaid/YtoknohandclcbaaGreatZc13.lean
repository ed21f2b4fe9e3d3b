/- Parts of the proof: Lk, Cm, HiMq, Cp, Cu, Gu, Gv, Gw, Gk, Gd, Gl, HiDl. -/
import Derived.Shelf.SlIterI.Nil
import Derived.Shelf.SortM.Plain
import Derived.Shelf.SortM.SortNone
import Derived.Shelf.Spec.SlicesGrow
import Derived.Test.YtoknohandclcbaaGreatProg
import Derived.KernelRfl
import Derived.Test.YtoknohandclcbaaGreatZc07
import Derived.Test.YtoknohandclcbaaGreatZc08
import Derived.Test.YtoknohandclcbaaGreatZc10
import Derived.Test.YtoknohandclcbaaGreatZc12
import Derived.Sort.OwnSortedInts
import Derived.Test.YtoknohandclcbaaGreatZc11
open Nat renaming reduceAdd → nA, reduceSub → nS, reduceMul → nM, reduceBEq → nB
open Int renaming reduceToNat → nT
set_option linter.unusedSectionVars false
set_option linter.unusedVariables false
set_option linter.unusedSimpArgs false
namespace Go.Proofs.YtoknohandclcbaaGreat
open Go.Shelf
set_option maxRecDepth 100000
def zKF:Go.Shelf.Ren:=⟨fun | 7=>140 | 10=>168 | n=>n,fun | 23=>93 | 26=>3 | 3=>3 | 28=>174 | 0=>0 | 27=>173 | 33=>128 | 4=>4 | n=>n,fun | n=>n⟩
theorem z2H:Go.Proofs.SlLaysZI.n7 Tryz.prog zKF where
 mixed:=by kernel_rfl
 f7:=⟨"maps.Keys[map[int]int,int,int]",by decide,Tryz.func140.trans (congrArg some (by kernel_rfl))⟩
 f10:=⟨"maps.Keys[map[int]int,int,int]$1",by decide,Tryz.func168.trans (congrArg some (by kernel_rfl))⟩
 t0:=Tryz.underlying0
 a0:=Tryz.isAgg0
 z0:=Tryz.sizeOf0
 v0:=Tryz.zeroValue0
 t4:=Tryz.underlying4
 a4:=Tryz.isAgg4
 z4:=Tryz.sizeOf4
 v4:=Tryz.zeroValue4
 t23:=Tryz.underlying93
 a23:=Tryz.isAgg93
 z23:=Tryz.sizeOf93
 v23:=Tryz.zeroValue93
 t26:=Tryz.underlying3
 a26:=Tryz.isAgg3
 z26:=Tryz.sizeOf3
 v26:=Tryz.zeroValue3
 t27:=Tryz.underlying173
 a27:=Tryz.isAgg173
 z27:=Tryz.sizeOf173
 v27:=Tryz.zeroValue173
 t28:=Tryz.underlying174
 a28:=Tryz.isAgg174
 z28:=Tryz.sizeOf174
 v28:=Tryz.zeroValue174
 t33:=Tryz.underlying128
 a33:=Tryz.isAgg128
 z33:=Tryz.sizeOf128
 v33:=Tryz.zeroValue128
def zFh:Go.Shelf.Ren:=⟨fun | 6=>139 | 8=>167 | 9=>112 | 11=>197 | 13=>143 | 12=>142 | 23=>178 | 24=>179 | 14=>169 | 15=>170 | 16=>171 | 17=>172 | 18=>173 | 19=>174 | 20=>175 | 21=>176 | 22=>177 | 25=>198 | 26=>199 | 27=>200 | 28=>201 | 29=>202 | 30=>203 | 31=>208 | n=>n,fun | 26=>3 | 28=>174 | 24=>22 | 0=>0 | 3=>3 | 37=>178 | 48=>217 | 50=>219 | 4=>4 | 40=>210 | 39=>209 | 45=>140 | 5=>5 | 9=>9 | 51=>234 | 55=>238 | 57=>247 | 58=>248 | 33=>128 | n=>n,fun | n=>n⟩
theorem zYc:Go.Proofs.SlLaysZI.n6 Tryz.prog zFh where
 mixed:=by kernel_rfl
 f6:=⟨"slices.Sorted[int]",by decide,Tryz.func139.trans (congrArg some (by kernel_rfl))⟩
 f8:=⟨"slices.Collect[int]",by decide,Tryz.func167.trans (congrArg some (by kernel_rfl))⟩
 f11:=⟨"slices.AppendSeq[[]int,int]",by decide,Tryz.func197.trans (congrArg some (by kernel_rfl))⟩
 t0:=Tryz.underlying0
 a0:=Tryz.isAgg0
 z0:=Tryz.sizeOf0
 v0:=Tryz.zeroValue0
 t24:=Tryz.underlying22
 a24:=Tryz.isAgg22
 z24:=Tryz.sizeOf22
 v24:=Tryz.zeroValue22
 t26:=Tryz.underlying3
 a26:=Tryz.isAgg3
 z26:=Tryz.sizeOf3
 v26:=Tryz.zeroValue3
 t28:=Tryz.underlying174
 a28:=Tryz.isAgg174
 z28:=Tryz.sizeOf174
 v28:=Tryz.zeroValue174
 i26:=by kernel_rfl
def zRP:Go.Shelf.Ren:=⟨fun | 5=>112 | 8=>143 | 7=>142 | 19=>178 | 20=>179 | 10=>169 | 11=>170 | 12=>171 | 13=>172 | 14=>173 | 15=>174 | 16=>175 | 17=>176 | 18=>177 | 30=>198 | 31=>199 | 32=>200 | 33=>201 | 34=>202 | 35=>203 | 40=>208 | n=>n,fun | 23=>22 | 25=>3 | 3=>3 | 32=>178 | 22=>22 | 0=>0 | 44=>217 | 46=>219 | 4=>4 | 36=>210 | 35=>209 | 41=>140 | 5=>5 | 9=>9 | 53=>234 | 57=>238 | 63=>247 | 64=>248 | n=>n,fun | n=>n⟩
theorem zV2:Go.Proofs.SlLaysM.n5 Tryz.prog zRP where
 mixed:=by kernel_rfl
 f5:=⟨"slices.Sort[[]int,int]",by decide,Tryz.func112.trans (congrArg some (by kernel_rfl))⟩
 f7:=⟨"slices.pdqsortOrdered[int]",by decide,Tryz.func142.trans (congrArg some (by kernel_rfl))⟩
 f8:=Tryz.func143.trans (congrArg some (by kernel_rfl))
 f10:=⟨"slices.insertionSortOrdered[int]",by decide,Tryz.func169.trans (congrArg some (by kernel_rfl))⟩
 f11:=⟨"slices.heapSortOrdered[int]",by decide,Tryz.func170.trans (congrArg some (by kernel_rfl))⟩
 f12:=⟨"slices.breakPatternsOrdered[int]",by decide,Tryz.func171.trans (congrArg some (by kernel_rfl))⟩
 f13:=⟨"slices.choosePivotOrdered[int]",by decide,Tryz.func172.trans (congrArg some (by kernel_rfl))⟩
 f14:=⟨"slices.reverseRangeOrdered[int]",by decide,Tryz.func173.trans (congrArg some (by kernel_rfl))⟩
 f15:=⟨"slices.partialInsertionSortOrdered[int]",by decide,Tryz.func174.trans (congrArg some (by kernel_rfl))⟩
 f16:=⟨"cmp.Less[int]",by decide,Tryz.func175.trans (congrArg some (by kernel_rfl))⟩
 f17:=⟨"slices.partitionEqualOrdered[int]",by decide,Tryz.func176.trans (congrArg some (by kernel_rfl))⟩
 f18:=⟨"slices.partitionOrdered[int]",by decide,Tryz.func177.trans (congrArg some (by kernel_rfl))⟩
 f19:=Tryz.func178.trans (congrArg some (by kernel_rfl))
 f20:=Tryz.func179.trans (congrArg some (by kernel_rfl))
 f30:=⟨"slices.siftDownOrdered[int]",by decide,Tryz.func198.trans (congrArg some (by kernel_rfl))⟩
 f31:=Tryz.func199.trans (congrArg some (by kernel_rfl))
 f32:=Tryz.func200.trans (congrArg some (by kernel_rfl))
 f33:=⟨"slices.medianAdjacentOrdered[int]",by decide,Tryz.func201.trans (congrArg some (by kernel_rfl))⟩
 f34:=⟨"slices.medianOrdered[int]",by decide,Tryz.func202.trans (congrArg some (by kernel_rfl))⟩
 f35:=⟨"cmp.isNaN[int]",by decide,Tryz.func203.trans (congrArg some (by kernel_rfl))⟩
 f40:=⟨"slices.order2Ordered[int]",by decide,Tryz.func208.trans (congrArg some (by kernel_rfl))⟩
 t0:=Tryz.underlying0
 a0:=Tryz.isAgg0
 z0:=Tryz.sizeOf0
 v0:=Tryz.zeroValue0
 t3:=Tryz.underlying3
 a3:=Tryz.isAgg3
 z3:=Tryz.sizeOf3
 v3:=Tryz.zeroValue3
 t4:=Tryz.underlying4
 a4:=Tryz.isAgg4
 z4:=Tryz.sizeOf4
 v4:=Tryz.zeroValue4
 t5:=Tryz.underlying5
 a5:=Tryz.isAgg5
 z5:=Tryz.sizeOf5
 v5:=Tryz.zeroValue5
 t9:=Tryz.underlying9
 a9:=Tryz.isAgg9
 z9:=Tryz.sizeOf9
 v9:=Tryz.zeroValue9
 t22:=Tryz.underlying22
 a22:=Tryz.isAgg22
 z22:=Tryz.sizeOf22
 v22:=Tryz.zeroValue22
 t23:=Tryz.underlying22
 a23:=Tryz.isAgg22
 z23:=Tryz.sizeOf22
 v23:=Tryz.zeroValue22
 t25:=Tryz.underlying3
 a25:=Tryz.isAgg3
 z25:=Tryz.sizeOf3
 v25:=Tryz.zeroValue3
 t32:=Tryz.underlying178
 a32:=Tryz.isAgg178
 z32:=Tryz.sizeOf178
 v32:=Tryz.zeroValue178
 t35:=Tryz.underlying209
 a35:=Tryz.isAgg209
 z35:=Tryz.sizeOf209
 v35:=Tryz.zeroValue209
 t36:=Tryz.underlying210
 a36:=Tryz.isAgg210
 z36:=Tryz.sizeOf210
 v36:=Tryz.zeroValue210
 t41:=Tryz.underlying140
 a41:=Tryz.isAgg140
 z41:=Tryz.sizeOf140
 v41:=Tryz.zeroValue140
 t44:=Tryz.underlying217
 a44:=Tryz.isAgg217
 z44:=Tryz.sizeOf217
 v44:=Tryz.zeroValue217
 t46:=Tryz.underlying219
 a46:=Tryz.isAgg219
 z46:=Tryz.sizeOf219
 v46:=Tryz.zeroValue219
 t53:=Tryz.underlying234
 a53:=Tryz.isAgg234
 z53:=Tryz.sizeOf234
 v53:=Tryz.zeroValue234
 t57:=Tryz.underlying238
 a57:=Tryz.isAgg238
 z57:=Tryz.sizeOf238
 v57:=Tryz.zeroValue238
 t63:=Tryz.underlying247
 a63:=Tryz.isAgg247
 z63:=Tryz.sizeOf247
 v63:=Tryz.zeroValue247
 t64:=Tryz.underlying248
 a64:=Tryz.isAgg248
 z64:=Tryz.sizeOf248
 v64:=Tryz.zeroValue248
def growL_ren:Go.Shelf.Ren:=⟨fun | 4=>141 | n=>n,fun | 22=>22 | 25=>3 | 3=>3 | 4=>4 | 9=>9 | 20=>20 | 0=>0 | n=>n,fun | n=>n⟩
theorem z29:Go.Proofs.Lays8.n4 Tryz.prog growL_ren where
 mixed:=by kernel_rfl
 f4:=⟨"slices.Grow[[]int,int]",by decide,Tryz.func141.trans (congrArg some (by kernel_rfl))⟩
 t0:=Tryz.underlying0
 a0:=Tryz.isAgg0
 z0:=Tryz.sizeOf0
 v0:=Tryz.zeroValue0
 t3:=Tryz.underlying3
 a3:=Tryz.isAgg3
 z3:=Tryz.sizeOf3
 v3:=Tryz.zeroValue3
 t4:=Tryz.underlying4
 a4:=Tryz.isAgg4
 z4:=Tryz.sizeOf4
 v4:=Tryz.zeroValue4
 t9:=Tryz.underlying9
 a9:=Tryz.isAgg9
 z9:=Tryz.sizeOf9
 v9:=Tryz.zeroValue9
 t20:=Tryz.underlying20
 a20:=Tryz.isAgg20
 z20:=Tryz.sizeOf20
 v20:=Tryz.zeroValue20
 t22:=Tryz.underlying22
 a22:=Tryz.isAgg22
 z22:=Tryz.sizeOf22
 v22:=Tryz.zeroValue22
end Go.Proofs.YtoknohandclcbaaGreat
namespace Go.Proofs.YtoknohandclcbaaGreat
open Go.RowKit
set_option maxRecDepth 8000
def zDO (g:List Int):List (Int×Int):=g.foldl (fun kv n=>setM kv n (getM kv n+1)) []
theorem zP1 (g:List Int) (n:Int):zDO (g++[n])=setM (zDO g) n (getM (zDO g) n+1):=by simp[zDO,List.foldl_append]
theorem zTC (kv:List (Int×Int)) (k v j:Int):getM (setM kv k v) j=if j=k then v else getM kv j:=by
 induction kv with
 | nil =>
  simp only[setM,getM,List.find?_cons,List.find?_nil]
  by_cases h:j=k <;> simp[h]
 | cons e r ih =>
  unfold setM
  by_cases h:k=e.1
  ·rw[if_pos h]
   simp only[getM,List.find?_cons]
   by_cases h2:j=k
   ·simp[h2]
   ·simp[h2,h▸h2]
  ·rw[if_neg h]
   simp only[getM,List.find?_cons] at ih⊢
   by_cases h2:j=e.1
   ·have:j≠k:=fun e'=>h (by rw[←e',h2])
    simp[h2,h2▸this]
   ·simp only[h2,decide_false] at ih⊢
    exact ih
theorem zKQ (n:Int):∀(g:List Int) (kv:List (Int×Int)),getM (g.foldl (fun kv n=>setM kv n (getM kv n+1)) kv) n=getM kv n+((g.filter fun x=>decide (x=n)).length:Int)
 | [],kv=>by simp
 | x::g,kv=>by
  rw[List.foldl_cons,zKQ n g,zTC]
  by_cases h:n=x
  ·subst h;simp;omega
  ·simp[h,Ne.symm h]
theorem zHe (g:List Int) (n:Int):getM (zDO g) n=((g.filter fun x=>decide (x=n)).length:Int):=by
 unfold zDO
 rw[zKQ]
 simp[getM]
theorem zHE (g:List Int) (n:Int):(0<getM (zDO g) n)=(n∈g):=by
 rw[zHe]
 simp only[eq_iff_iff]
 rw[show (0:Int)<((g.filter fun x=>decide (x=n)).length:Int)↔0<(g.filter fun x=>decide (x=n)).length by omega,List.length_pos_iff_exists_mem]
 simp
theorem zIc (g:List Int) (n:Int):0≤getM (zDO g) n∧getM (zDO g) n≤g.length:=by
 rw[zHe]
 have:=List.length_filter_le (fun x=>decide (x=n)) g
 omega
abbrev yAF (kv:List (Int×Int)):HV:=.om (.map (esG kI kv) kv.length) []
theorem zUK (g:List Int) (hg:g.length≤100000):HFn Tryz.prog 59 [.sl (ints g)] (yAF (zDO g)):=by
 refine zB (fn:=Tryz.f59) 19 [2] (by kernel_rfl) rfl (by kernel_rfl) (HW.run 400 (by kernel_rfl) ?_)
 simp +decide only[go_sem,nT,nA,nS,nM,nB,reduceIte,reduceCtorEq]
 refine HW.loopG (fun k T H=>∃i:Nat,k=g.length-i∧i≤g.length∧T 3=.mp 0∧T 7=.sl (ints g)∧T 8=.v (.int .i64 g.length)∧T 9=.v (.int .i64 i)∧H=[some (mapI (zDO (g.take i)))]) g.length ⟨_,_,Ghost.refl,0,rfl,by omega,rfl,rfl,rfl,rfl,rfl⟩ ?_
 rintro k T H ⟨i,rfl,hi,h3,h7,h8,h9,rfl⟩
 refine HW.run 200 (by kernel_rfl) ?_
 by_cases hlt:i<g.length
 ·have hlt' : ((i:Int)<(g.length:Int))=True:=by rw[z8];simp[hlt]
  have hx:g[i]?=some g[i]:=List.getElem?_eq_getElem hlt
  have htk:g.take (i+1)=g.take i++[g[i]]:=by rw[List.take_add_one,hx];rfl
  generalize g[i]=x at hx htk
  have hle:=zIc (g.take i) x
  rw[List.length_take] at hle
  have hw:IntKind.i64.wrap (getM (zDO (g.take i)) x+1)=getM (zDO (g.take i)) x+1:=w64 (by omega) (by omega)
  simp +decide only[go_sem,nT,nA,nS,nM,nB,reduceIte,reduceCtorEq,h3,h7,h8,h9,hlt',hx,hw]
  refine ⟨_,_,Ghost.refl,g.length-(i+1),by omega,i+1,rfl,by omega,?_,?_,?_,?_,?_⟩
  iterate 3 simp +decide only[go_sem,nB,reduceIte,h3,h7,h8]
  ·simp +decide only[go_sem,nB,reduceIte];rw[w64 (by omega) (by omega)];rfl
  ·rw[htk,zP1]
 ·have hlt' : ((i:Int)<(g.length:Int))=False:=by rw[z8];simp[hlt]
  have htk:g.take i=g:=List.take_of_length_le (by omega)
  simp +decide only[go_sem,nT,nA,nS,nM,nB,reduceIte,reduceCtorEq,h3,h7,h8,h9,hlt',htk]
  exact ⟨rfl,rfl⟩
end Go.Proofs.YtoknohandclcbaaGreat
namespace Go.Proofs.YtoknohandclcbaaGreat
open Go.RowKit
section
variable {α:Type} [DecidableEq α]
theorem zPf (kv:List (α×Int)) (k:α) (v:Int) (j:α):getM (setM kv k v) j=if j=k then v else getM kv j:=by
 induction kv with
 | nil =>
  simp only[setM,getM,List.find?_cons,List.find?_nil]
  by_cases h:j=k <;> simp[h]
 | cons e r ih =>
  unfold setM
  by_cases h:k=e.1
  ·rw[if_pos h]
   simp only[getM,List.find?_cons]
   by_cases h2:j=k
   ·simp[h2]
   ·simp[h2,h▸h2]
  ·rw[if_neg h]
   simp only[getM,List.find?_cons] at ih⊢
   by_cases h2:j=e.1
   ·have:j≠k:=fun e'=>h (by rw[←e',h2])
    simp[h2,h2▸this]
   ·simp only[h2,decide_false] at ih⊢
    exact ih
theorem zKR (kv:List (α×Int)) (k j:α):getM (entM kv k) j=getM kv j:=by
 unfold entM
 split
 ·rfl
 ·rename_i h
  unfold getM
  rw[List.find?_append]
  cases hf:kv.find? (fun e=>decide (j=e.1)) with
  | some e=>rfl
  | none =>
   simp only[List.find?_cons,List.find?_nil,Option.none_or]
   by_cases hj:j=k <;> simp[hj]
variable {kf:α→Value} (hk:∀x y,keq (kf x) (kf y)=some (decide (x=y)))
theorem zKW (k:α):∀(kv:List (α×Int)) (i:Nat),zC4 k kv i=if inM kv k=true then some (i+idxM kv k,.int .i64 (getM kv k)) else none
 | [],i=>by simp[zC4,inM]
 | e::r,i=>by
  have ih:=zKW k r (i+1)
  by_cases h:k=e.1
  ·have h1:inM (e::r) k=true:=by simp[inM,h]
   have h2:idxM (e::r) k=0:=by simp[idxM,List.findIdx_cons,h]
   have h3:getM (e::r) k=e.2:=by simp[getM,h]
   rw[h1,h2,h3]
   simp[zC4,h]
  ·have h1:inM (e::r) k=inM r k:=by simp[inM,h]
   have h2:idxM (e::r) k=idxM r k+1:=by simp[idxM,List.findIdx_cons,h]
   have h3:getM (e::r) k=getM r k:=by simp[getM,List.find?_cons,h]
   rw[h1,h2,h3]
   simp only[zC4,if_neg h]
   rw[ih,show i+1+idxM r k=i+(idxM r k+1) by omega]
theorem zMQ {kv:List (α×Int)} {k:α} (h:inM kv k=true):idxM kv k<kv.length:=by
 unfold idxM inM at *
 exact List.findIdx_lt_length_of_exists (by simpa [List.any_eq_true] using h)
theorem zMP {kv:List (α×Int)} {k:α} (h:inM kv k=false):idxM kv k=kv.length:=by
 unfold idxM inM at *
 refine List.findIdx_eq_length.2 fun x hx=>?_
 have:=List.any_eq_false.1 h x hx
 simpa using this
theorem zNy:∀(kv:List (α×Int)) (n i:Nat),i<kv.length→((esL kf n kv)[i]?).map (·.born)=some (n+i)
 | [],n,i,h=>by simp at h
 | e::r,n,0,h=>by simp[esL]
 | e::r,n,i+1,h=>by
  simp only[esL,List.getElem?_cons_succ]
  rw[zNy r (n+1) i (by simpa using h)]
  congr 1;omega
theorem zDU (k:α):∀(kv:List (α×Int)) (n i:Nat),(kv[i]?).map (·.1)=some k→(esL kf n kv).modify i (fun e=>{ e with key:=kf k })=esL kf n kv
 | [],n,i,h=>by simp at h
 | e::r,n,0,h=>by
  simp only[List.getElem?_cons_zero,Option.map_some,Option.some.injEq] at h
  simp[esL,h]
 | e::r,n,i+1,h=>by
  simp only[List.getElem?_cons_succ] at h
  simp only[esL,List.modify_succ_cons]
  rw[zDU k r (n+1) i h]
theorem zWb {kv:List (α×Int)} {k:α} (h:inM kv k=true):(kv[idxM kv k]?).map (·.1)=some k:=by
 have hl:=zMQ h
 have:=List.findIdx_getElem (w:=(hl:kv.findIdx (fun e=>decide (k=e.1))<kv.length))
 rw[List.getElem?_eq_getElem hl]
 simp only[decide_eq_true_eq] at this
 simp only[Option.map_some,Option.some.injEq]
 exact this.symm
include hk
theorem zOA (k:α) (kv:List (α×Int)):entO (esG kf kv) kv.length (kf k) (.int .i64 0)=some (.int .i64 (getM kv k),idxM kv k,mapG kf (entM kv k)):=by
 unfold entO
 have e:(esG kf kv).toList=esL kf 0 kv:=by unfold esG;rw[List.toList_toArray]
 rw[e,zEP hk,zKW]
 cases h:inM kv k with
 | true =>
  simp only[if_true,Option.map_some,entV,entE,Nat.zero_add,entM,h]
  have h1:((esG kf kv)[idxM kv k]?).map (·.born)=some (idxM kv k):=by
   rw[←Array.getElem?_toList,e,zNy kv 0 _ (zMQ h),Nat.zero_add]
  rw[h1]
  have h2:(esG kf kv).modify (idxM kv k) (fun e=>{ e with key:=kf k })=esG kf kv:=by
   apply Array.ext'
   rw[Array.toList_modify,e,zDU k kv 0 _ (zWb h)]
  rw[h2];rfl
 | false =>
  have hg:getM kv k=0:=by
   unfold getM
   rw[List.find?_eq_none.2 fun x hx=>by
    have:=List.any_eq_false.1 h x hx
    simpa using this]
   rfl
  simp only[Bool.false_eq_true,if_false,Option.map_some,Option.map_none,entV,entE,entM,h,hg,zMP h]
  have:(esG kf kv).push ⟨kf k,.int .i64 0,kv.length⟩=esG kf (kv++[(k,0)]):=by
   apply Array.ext'
   simp[esG,zEu,esL]
  rw[this]
  unfold mapG
  simp
omit hk
theorem zNx:∀(kv:List (α×Int)) (n i:Nat),i<kv.length→(esL kf n kv).findIdx? (fun e=>((e.born:Int) == ((n+i:Nat):Int)))=some i
 | [],n,i,h=>by simp at h
 | e::r,n,0,h=>by simp[esL,List.findIdx?_cons]
 | e::r,n,i+1,h=>by
  simp only[esL,List.findIdx?_cons]
  have:((n:Int) == ((n+(i+1):Nat):Int))=false:=by
   rw[beq_eq_false_iff_ne];omega
  rw[this]
  have ih:=zNx r (n+1) i (by simpa using h)
  rw[show n+1+i=n+(i+1) by omega] at ih
  simp only[Bool.false_eq_true,if_false]
  rw[ih];rfl
theorem zKj (k:α) (v:Int):∀(kv:List (α×Int)) (n:Nat),inM kv k=true→(esL kf n kv).modify (idxM kv k) (fun e=>{ e with val:=.int .i64 v })=esL kf n (setM kv k v)
 | [],n,h=>by simp[inM] at h
 | e::r,n,h=>by
  unfold setM
  by_cases he:k=e.1
  ·have:idxM (e::r) k=0:=by unfold idxM;simp[List.findIdx_cons,he]
   rw[this,if_pos he]
   simp[esL,he]
  ·have:idxM (e::r) k=idxM r k+1:=by unfold idxM;simp[List.findIdx_cons,he]
   rw[this,if_neg he]
   simp only[esL,List.modify_succ_cons]
   rw[zKj k v r (n+1) (by simpa [inM,he] using h)]
theorem zN3 {k:α} {v:Int}:∀{kv:List (α×Int)},inM kv k=true→(setM kv k v).length=kv.length
 | [],h=>by simp[inM] at h
 | e::r,h=>by
  unfold setM
  by_cases he:k=e.1
  ·rw[if_pos he];simp
  ·rw[if_neg he]
   simp only[List.length_cons]
   rw[zN3 (by simpa [inM,he] using h)]
theorem zWa (kv:List (α×Int)) (k:α):inM (entM kv k) k=true:=by
 unfold entM
 split
 ·assumption
 ·simp[inM]
theorem zSh (kv:List (α×Int)) (k:α):idxM (entM kv k) k=idxM kv k:=by
 unfold entM
 split
 ·rfl
 ·rename_i h
  have h:inM kv k=false:=by simpa using h
  rw[zMP h]
  unfold idxM
  rw[List.findIdx_append]
  have h1:kv.findIdx (fun e=>decide (k=e.1))=kv.length:=zMP h
  rw[h1,if_neg (by omega)]
  simp
theorem zRX (kv:List (α×Int)) (k:α) (v:Int):setM (entM kv k) k v=setM kv k v:=by
 unfold entM
 split
 ·rfl
 ·rename_i h
  have h:inM kv k=false:=by simpa using h
  induction kv with
  | nil=>simp[setM]
  | cons e r ih =>
   simp only[inM,List.any_cons,Bool.or_eq_false_iff,decide_eq_false_iff_not] at h
   simp only[List.cons_append,setM,if_neg h.1]
   rw[ih (by unfold inM;rw[h.2];simp) h.2]
theorem zN0 (k:α) (v:Int) (kv:List (α×Int)):stoO (esG kf (entM kv k)) (entM kv k).length ((idxM kv k:Nat):Int) (.int .i64 v)=some (mapG kf (setM kv k v)):=by
 unfold stoO
 rw[←zSh kv k,←zRX kv k]
 have hin:=zWa kv k
 generalize entM kv k=m at hin
 have e:(esG kf m).toList=esL kf 0 m:=by unfold esG;rw[List.toList_toArray]
 have h1:=zNx (kf:=kf) m 0 (idxM m k) (zMQ hin)
 rw[Nat.zero_add] at h1
 have h3:(esG kf m).findIdx? (fun e=>((e.born:Int) == ((idxM m k:Nat):Int)))=some (idxM m k):=by
  rw[←h1,←e]
  obtain ⟨l⟩:=esG kf m
  simp
 rw[h3]
 simp only[Option.map_some,Option.some.injEq]
 unfold mapG
 rw[zN3 hin]
 have h2:(esG kf m).modify (idxM m k) (fun e=>{ e with val:=.int .i64 v })=esG kf (setM m k v):=by
  apply Array.ext'
  rw[Array.toList_modify,e,zKj k v m 0 hin];simp[esG]
 rw[h2]
end
theorem z3o {kv:List ((Int×Int)×Int)} {a b:Int}:entO (esG kP kv) kv.length (.agg #[.int .i64 a,.int .i64 b]) (.int .i64 0)=some (.int .i64 (getM kv (a,b)),idxM kv (a,b),mapP (entM kv (a,b))):=zOA (kf:=kP) (fun _ _=>zI7) (a,b) kv
theorem z3p {kv:List (Int×Int)} {a:Int}:entO (esG kI kv) kv.length (.int .i64 a) (.int .i64 0)=some (.int .i64 (getM kv a),idxM kv a,mapI (entM kv a)):=zOA (kf:=kI) (fun _ _=>zI6) a kv
theorem z1n {kv:List ((Int×Int)×Int)} {k:Int×Int} {v:Int}:stoO (esG kP (entM kv k)) (entM kv k).length ((idxM kv k:Nat):Int) (.int .i64 v)=some (mapP (setM kv k v)):=zN0 k v kv
theorem z1o {kv:List (Int×Int)} {k:Int} {v:Int}:stoO (esG kI (entM kv k)) (entM kv k).length ((idxM kv k:Nat):Int) (.int .i64 v)=some (mapI (setM kv k v)):=zN0 k v kv
theorem zTD {kv:List ((Int×Int)×Int)} {k j:Int×Int}:getM (entM kv k) j=getM kv j:=zKR kv k j
theorem zTE {kv:List (Int×Int)} {k j:Int}:getM (entM kv k) j=getM kv j:=zKR kv k j
theorem zWX {kv:List (Int×Int)} {m:Nat}:nmR m (mapI kv).rows=true:=rfl
theorem zWW {kv:List ((Int×Int)×Int)} {m:Nat}:nmR m (mapP kv).rows=true:=rfl
attribute [go_sem] zWX zWW z3o z3p z1n z1o zTD zTE
end Go.Proofs.YtoknohandclcbaaGreat
namespace Go.Proofs.YtoknohandclcbaaGreat
open Go.RowKit
set_option maxRecDepth 8000
end Go.Proofs.YtoknohandclcbaaGreat
namespace Go.Proofs.YtoknohandclcbaaGreat
open Go.RowKit
open Go.WideElems (Fit rd rg rd_mk rg_of)
set_option maxRecDepth 8000
theorem Ghost.hole {N L:Nat} {T:Nat→HV} {H:Heap} (e:TypeId) (sz:Nat):Ghost N L T H T (H++[some ⟨e,sz,[]⟩]):=fun B Z G FP ds a w hL hs=>by
 have hinv:=hs.inv.new (w':=w) (o:=⟨e,sz,[]⟩) (g:=⟨none,e,sz,0,0⟩) (fp:=[]) (Nat.le_refl _) (fun _ _=>rfl) ⟨rfl,rfl,rfl,by simp,.inl ⟨rfl,rfl,rfl⟩⟩ (by simp) (by simp)
 have hE:Evo Z FP w Z (fun j=>if j=H.length then [] else FP j) w:=zG7 (hs.inv.nofp _ (by simp)) rfl rfl rfl (Nat.le_refl _) (fun _ _=>rfl) (by simp)
 exact ⟨Z,_,_,hs.evo hinv (GLe.more _) hE,GLt.of hL (GLe.more _),hE⟩
abbrev zJz (id:Nat):HObj:=⟨93,1,[[.mp id]]⟩
theorem zWZ {H:Heap} {id j:Nat} {kv:List (Int×Int)} (hid:H[id]?=some (some (mapI kv))) (hj:H[j]?=some (some ⟨93,1,[]⟩)) :
  HCalls Tryz.prog 140 H [.mp id] (fun r H'=>r=.fn 168 [.pt j 1 0 0]∧H'=H.set j (some (zJz id))):=by
 refine ⟨fun vals w=>enters_of (P:=Tryz.prog) Tryz.func140 (by kernel_rfl) rfl vals w,fun Z G FP w vals hi ha=>?_⟩
 simp only[RL] at ha
 obtain ⟨y,ys,f1,f2,rfl,e1,hv,rfl,rfl⟩:=ha
 obtain ⟨rfl,-⟩:f1=[]∧True:=by simpa using e1
 obtain ⟨r,rfl,hg,hfp,hb⟩:=zH9 hi hid hv
 have hne:id≠j:=fun e=>by rw[e,hj] at hid;simp[mapI,mapG,zAk] at hid
 obtain ⟨gj,hgj,hobj⟩:=hi.live j _ hj
 have hn0:gj.n=0:=hobj.n
 have cK:Calls Tryz.prog 140 #[.map (some r)] w fun e w'=>e=.returned (.func (.func 168) #[] #[.pointer (some ⟨w.heap.size,0,none⟩)])∧w'=w.alloc (.cells #[.map (some r)] 93) :=
  callsIn_wide.1 (AnyZI.keys_in z2H Fence.wide 5 trivial rfl (some r) w)
 refine Calls.mono cK ?_
 rintro e w' ⟨rfl,rfl⟩
 have hnew:=heap_alloc_new w (.cells #[.map (some r)] 93)
 have hold:∀b,b<w.heap.size→(w.alloc (.cells #[.map (some r)] 93)).heap[b]?=w.heap[b]?:=fun b hb=>Below.heap_alloc w _ b hb
 have hlt:j<G.length:=hi.lt hj
 have hset:∀k,k≠j→(G.set j (some (some ⟨some w.heap.size,93,1,1,1⟩:Option OG)).join)[k]?=G[k]?:=fun k hk=>by simp[List.getElem?_set,Ne.symm hk]
 have hmp:RV Z (G.set j (some ⟨some w.heap.size,93,1,1,1⟩)) (w.alloc (.cells #[.map (some r)] 93)) (.mp id) (.map (some r)) []:=by
  simp only[RV]
  refine ⟨trivial,rfl,by rw[List.length_set];exact hi.lt hid,fun g hg'=>?_⟩
  rw[List.getElem?_set_ne (Ne.symm hne),hg] at hg'
  cases hg'
  exact ⟨Nat.le_refl _,fun _ _=>rfl⟩
 have hinv:=hi.turn (w':=w.alloc (.cells #[.map (some r)] 93)) (o':=zJz id) (g':=⟨some w.heap.size,93,1,1,1⟩) (fp':=[w.heap.size]) hj hgj (.inr (by rw[hn0];exact Nat.one_pos)) (by simp) (fun b hb _=>hold b hb)
  ⟨rfl,rfl,rfl,by simp,.inr (.inl ⟨w.heap.size,#[.map (some r)],[],rfl,rfl,hnew,by simp,by simp,by simp[maxLen],by
   simp only[RR,RC]
   refine ⟨[],[],rfl,⟨_,[],[],rfl,?_,rfl,hmp,rfl⟩,rfl⟩
   unfold World.cell?;rw[hnew];rfl⟩)⟩ (by simp) (fun b hb=>by
    obtain rfl:=List.mem_singleton.1 hb
    refine ⟨fun hz=>?_,by simp,fun k _ hc=>?_⟩
    ·have:=hi.zlt _ hz;omega
    ·have:=hi.flt k _ hc;omega)
 refine ⟨_,_,_,_,_,_,[],rfl,⟨rfl,rfl⟩,by simp,hinv,?_,by simp,by simp,by simp,GLe.set hgj (.inr (by rw[hn0];exact Nat.one_pos)),zBw rfl rfl rfl (by simp) (fun b hb _=>hold b hb) (fun b hb=>by
  obtain rfl:=List.mem_singleton.1 hb
  exact .inl (Nat.le_refl _))⟩
 simp only[RV]
 refine ⟨#[.pointer (some ⟨w.heap.size,0,none⟩)],(zKT (by decide) _).symm,?_⟩
 simp only[RL,RV]
 refine ⟨_,_,[],[],rfl,rfl,⟨rfl,rfl,by rw[List.length_set];exact hlt,fun g hg'=>?_⟩,rfl,rfl⟩
 rw[List.getElem?_set_self hlt] at hg'
 cases hg'
 exact ⟨Nat.le_refl _,fun _=>⟨_,rfl,by simp⟩⟩
theorem zLL {Z:Nat→Prop} {w:World} {b:Nat}:∀(xs:List Int) (k:Nat),(∀(i:Nat) x,xs[i]?=some x→w.cell? ⟨b,k+i,none⟩=some (.int .i64 x))→RR Z [] w (ints xs) b k []
 | [],k,_=>by simp[ints,RR]
 | x::xs,k,h=>by
  show RR Z [] w ([.v (.int .i64 x)]::ints xs) b k []
  simp only[RR,RC,RV]
  refine ⟨[],[],rfl,⟨_,[],[],rfl,by have:=h 0 x rfl;simpa using this,rfl,⟨rfl,rfl⟩,rfl⟩,?_⟩
  refine zLL xs (k+1) fun i y hy=>?_
  rw[show k+1+i=k+(i+1) by omega]
  exact h (i+1) y (by simpa using hy)
def zLY:Value→Option (DataW Unit×List MemPlace):=fun _=>some (.nil,[])
theorem zMj {kv:List (Int×Int)} {x:MapEntry}:∀{n:Nat},x∈esL kI n kv→∃e∈kv,x.key=.int .i64 e.1∧n≤x.born∧x.born<n+kv.length:=by
 induction kv with
 | nil=>intro n h;simp[esL] at h
 | cons e r ih =>
  intro n h
  simp only[esL,List.mem_cons] at h
  rcases h with rfl | h
  ·exact ⟨e,by simp,rfl,Nat.le_refl _,by simp⟩
  ·obtain ⟨e',h1,h2,h3,h4⟩:=ih h
   exact ⟨e',by simp[h1],h2,by omega,by simp only[List.length_cons];omega⟩
theorem zMi {kv:List (Int×Int)} (hnd:(kv.map (·.1)).Nodup):∀n,((esL kI n kv).map (·.born)).Nodup∧(esL kI n kv).Pairwise (fun x y=>x.key≠y.key):=by
 induction kv with
 | nil=>intro n;simp[esL]
 | cons e r ih =>
  intro n
  simp only[List.map_cons,List.nodup_cons] at hnd
  obtain ⟨h1,h2⟩:=ih hnd.2 (n+1)
  simp only[esL,List.map_cons,List.nodup_cons,List.pairwise_cons]
  refine ⟨⟨fun hm=>?_,h1⟩,fun y hy hk=>?_,h2⟩
  ·obtain ⟨y,hy,he⟩:=List.mem_map.1 hm
   obtain ⟨_,_,_,h3,_⟩:=zMj hy
   omega
  ·obtain ⟨e',h3,h4,_,_⟩:=zMj hy
   rw[h4] at hk
   simp at hk
   exact hnd.1 (hk▸List.mem_map.2 ⟨e',h3,rfl⟩)
theorem zS4 {kv:List (Int×Int)} (hr:∀e∈kv,-1000000≤e.1∧e.1≤1000000):∀n,(esL kI n kv).map (rg (H:=Unit) Tryz.prog 3 zLY)=kv.map (fun e=>(Lit.int .i64 e.1,DataW.nil))∧∀x∈esL kI n kv,∃y,rd (H:=Unit) Tryz.prog 3 zLY x=some y:=by
 induction kv with
 | nil=>intro n;simp[esL]
 | cons e r ih =>
  intro n
  obtain ⟨h1,h2⟩:=ih (fun e' h=>hr e' (by simp[h])) (n+1)
  have hw:(Lit.int .i64 e.1).wf=true:=by
   have:=hr e (by simp)
   have h1:IntKind.i64.min = -9223372036854775808:=by decide
   have h2:IntKind.i64.max=9223372036854775807:=by decide
   simp only[Lit.wf,h1,h2,Bool.and_eq_true,decide_eq_true_eq]
   omega
  have hk:keyOf Tryz.prog 3 (.int .i64 e.1)=some (.int .i64 e.1):=Go.Maps.keyOf_int_mk Tryz.underlying3 hw
  have hd:rd (H:=Unit) Tryz.prog 3 zLY ⟨.int .i64 e.1,.int .i64 e.2,n⟩=some (.int .i64 e.1,.nil):=rd_mk (yv:=(.nil,[])) hk rfl
  refine ⟨?_,fun x hx=>?_⟩
  ·simp only[esL,List.map_cons,h1]
   rw[rg_of hd]
  ·simp only[esL,List.mem_cons] at hx
   rcases hx with rfl | hx
   ·exact ⟨_,hd⟩
   ·exact h2 x hx
theorem z1p (m:Nat):AnyZI.SortsIn Tryz.prog zFh Fence.wide m :=
  ⟨fun blk off cap ss W hH hblk hsz=>callsIn_wide.2 (AnyM.slices_Sort_int zV2 blk off cap ss W hH hblk hsz),
   fun p cap W=>callsIn_wide.2 (AnyM.slices_Sort_int_none zV2 p cap W)⟩
def zE3 (kv:List (Int×Int)):List Int:=(kv.map (·.1)).mergeSort fun x y=>decide (x≤y)
set_option maxHeartbeats 1000000 in
theorem zJ0 {H:Heap} {id j:Nat} {kv:List (Int×Int)} (hid:H[id]?=some (some (mapI kv))) (hj:H[j]?=some (some (zJz id))) (hnd:(kv.map (·.1)).Nodup) (hr:∀e∈kv,-1000000≤e.1∧e.1≤1000000) (hlen:kv.length≤1000000) :
  HCalls Tryz.prog 139 H [.fn 168 [.pt j 1 0 0]] (fun r H'=>r=zBs (zE3 kv)∧H'=H):=by
 refine ⟨fun vals w=>enters_of (P:=Tryz.prog) Tryz.func139 (by kernel_rfl) rfl vals w,fun Z G FP w vals hi ha=>?_⟩
 simp only[RL] at ha
 obtain ⟨y,ys,f1,f2,rfl,e1,hv,rfl,rfl⟩:=ha
 obtain ⟨rfl,-⟩:f1=[]∧True:=by simpa using e1
 rw[RV] at hv
 obtain ⟨zs,rfl,hv⟩:=hv
 rw[zKT (by decide)]
 obtain ⟨zs⟩:=zs
 simp only[RL] at hv
 obtain ⟨q,ys,f1,f2,rfl,e2,hq,rfl,rfl⟩:=hv
 obtain ⟨rfl,-⟩:f1=[]∧True:=by simpa using e2
 obtain ⟨g,b,cells,f,hg,hob,hgb,hfp,hb,hcs,hc1,hc2,hrr,rfl,_⟩:=zPM hi hj rfl rfl hq
 simp only[RR,RC] at hrr
 obtain ⟨_,_,_,⟨mv,_,_,_,hcell,_,hmv,_⟩,_⟩:=hrr
 have hmv' : RV Z G w (.mp id) mv []:=by
  simp only[RV] at hmv⊢
  exact ⟨trivial,hmv.2⟩
 obtain ⟨r,rfl,_,_,hrb⟩:=zH9 hi hid hmv'
 have hbl:b<w.heap.size:=(Array.getElem?_eq_some_iff.1 hb).1
 obtain ⟨h1,h2⟩:=zS4 hr 0
 have htl:(esG kI kv).toList=esL kI 0 kv:=by unfold esG;rw[List.toList_toArray]
 let D0:DataW Unit:=.map (((esG kI kv).toList.map (rg Tryz.prog 3 zLY)).foldr DataW.insert [])
 have hsz:Go.Maps.size D0=kv.length:=by
  show (((esG kI kv).toList.map (rg Tryz.prog 3 zLY)).foldr DataW.insert []).length=_
  rw[length_sorted,List.length_map,htl,zDI]
 have hown:w.ownsMap Tryz.prog 3 zLY r kv.length D0:=by
  refine ⟨esG kI kv,kv.length,hrb,⟨?_,?_,fun x hx=>h2 x (htl▸hx)⟩,?_,rfl⟩
  ·rw[←Array.length_toList,htl,zDI];unfold maxLen;omega
  ·rw[Go.MapKept.stamped_iff,htl]
   obtain ⟨k1,k2⟩:=zMi hnd 0
   exact ⟨fun x hx=>by obtain ⟨_,_,_,_,k⟩:=zMj hx;omega,k1,k2⟩
  ·rw[←Array.length_toList,htl,zDI];exact Nat.le_refl _
 have hperm:(intKeys D0).Perm (kv.map (·.1)):=by
  show ((((esG kI kv).toList.map (rg Tryz.prog 3 zLY)).foldr DataW.insert []).map fun p=>Go.intOf p.1).Perm _
  refine ((Go.WideShapes.sorted_perm _).map _).trans ?_
  rw[htl,h1,List.map_map]
  exact List.Perm.refl _
 have hcb:w.cell? ⟨b,0,none⟩=some (.map (some r)):=by simpa using hcell
 have hseq:Go.SeqGives Fence.wide 2 Tryz.prog 168 #[.pointer (some ⟨b,0,none⟩)] encZ (fun ss=>ss.Perm (intKeys D0)) (Go.Maps.size D0) w :=
  AnyZI.keys_gives (ρ:=zKF) { z2H with } Fence.wide 2 trivial rfl (by omega) b r kv.length D0 w hbl hcb hown
 have cS:=AnyZI.sorted_in zYc Fence.wide 5 trivial trivial trivial trivial rfl (by omega) (z1p _) (enters_of Tryz.func112 (by kernel_rfl) rfl) 168 #[.pointer (some ⟨b,0,none⟩)] trivial (enters_of Tryz.func168 (by kernel_rfl) rfl) _ _ (by rw[hsz];unfold maxLen;omega) (by rw[hsz];omega) w hseq
 have cS' : Calls Tryz.prog 139 #[.func (.func 168) #[] #[.pointer (some ⟨b,0,none⟩)]] w _:=callsIn_wide.1 cS
 have hy:(Value.pointer (some ⟨b,0*(zJz id).sz+0,none⟩))=.pointer (some ⟨b,0,none⟩):=by simp
 rw[hy]
 refine Calls.mono cS' ?_
 rintro e w' ⟨v,ss,rfl,hS,hrow,hnil,hbw⟩
 have hsort:(ss.mergeSort fun x y=>decide (x≤y))=zE3 kv:=mergeSort_of_perm_i (hS.trans hperm)
 rw[hsort] at hrow
 have hlen2:(zE3 kv).length=ss.length:=by rw[←hsort,List.length_mergeSort]
 have hold:∀k,k<w.heap.size→w'.heap[k]?=w.heap[k]?:=hbw.block
 have hi' : HInv Z G FP H w':=hi.keep hbw.size fun k hk=>hold k (by
  rcases hk with hk | ⟨i,hk⟩
  ·exact hi.zlt k hk
  ·exact hi.flt i k hk)
 have hEv:Evo Z FP w Z FP w':=⟨hbw.os,hbw.tape,hbw.output,hbw.size,fun k hk _=>hold k hk,fun _ h=>h,fun _ h=>.inl h,fun i k hk=>.inr ⟨i,hk⟩⟩
 rcases hrow.2 with ⟨rfl,h0⟩ | ⟨gb,cap,cur,rfl,hbase,hgb',r1,r2,r3,r4⟩
 ·refine ⟨_,_,H,Z,G,FP,[],rfl,⟨rfl,rfl⟩,rfl,hi',?_,by simp,by simp,by simp,GLe.refl _,hEv⟩
  have:zE3 kv=[]:=List.eq_nil_of_length_eq_zero (by omega)
  rw[this]
  simp only[RV]
  exact .inl ⟨rfl,trivial,trivial⟩
 ·have hgl:gb<w'.heap.size:=(Array.getElem?_eq_some_iff.1 hgb').1
  refine ⟨_,_,H,Z,G,FP,[gb],rfl,⟨rfl,rfl⟩,rfl,hi',?_,by simp,fun k hk=>?_,fun k hk=>?_,GLe.refl _,hEv⟩
  ·simp only[RV]
   refine .inr ⟨gb,cap,cur,[],by rw[zAB,hlen2],rfl,hgb',r3,by rw[zAB];omega,r2,fun r hr=>?_,?_⟩
   ·obtain ⟨_,_,rfl⟩:=List.mem_map.1 hr;rfl
   ·refine zLL _ 0 fun i x hx=>?_
    have hil:i<ss.length:=by have:=(List.getElem?_eq_some_iff.1 hx).1;omega
    have:(cur.toList.take (ss.length*1))[i]?=some (.int .i64 x):=by rw[r4,List.getElem?_map,hx];rfl
    rw[List.getElem?_take_of_lt (by omega)] at this
    unfold World.cell?
    rw[hgb',Nat.zero_add]
    simpa using this
  ·obtain rfl:=List.mem_singleton.1 hk
   exact ⟨fun hz=>by have:=hi.zlt _ hz;omega,hgl,fun i hc=>by have:=hi.flt i _ hc;omega⟩
  ·obtain rfl:=List.mem_singleton.1 hk
   exact .inl hbase
end Go.Proofs.YtoknohandclcbaaGreat
namespace Go.Proofs.YtoknohandclcbaaGreat
open Go.RowKit
set_option maxRecDepth 8000
theorem zOR {Z:Nat→Prop} {G:List (Option OG)} {w:World}:∀(l:List Int) (ys:List Value),RL Z G w (ints l).flatten ys []→ys=l.map (Value.int .i64)
 | [],ys,h=>by
  have h:RL Z G w [] ys []:=h
  simp only[RL] at h
  rw[h.1];rfl
 | x::l,ys,h=>by
  have h:RL Z G w (.v (.int .i64 x)::(ints l).flatten) ys []:=h
  simp only[RL,RV] at h
  obtain ⟨y,ys',f1,f2,rfl,e,⟨rfl,rfl⟩,h⟩:=h
  have e2:f2=[]:=by simpa using e
  subst e2
  rw[zOR l ys' h];rfl
def zCA (l:List Int):List Int:=l.mergeSort fun x y=>decide (x≤y)
theorem zAx {l:List Int}:(zCA l).length=l.length:=List.length_mergeSort _
theorem zOO {Z:Nat→Prop} {G:List (Option OG)} {w:World} {b:Nat}:∀(xs:List Int) (k:Nat),(∀(i:Nat) x,xs[i]?=some x→w.cell? ⟨b,k+i,none⟩=some (.int .i64 x))→RR Z G w (ints xs) b k []
 | [],k,_=>by simp[ints,RR]
 | x::xs,k,h=>by
  show RR Z G w ([.v (.int .i64 x)]::ints xs) b k []
  simp only[RR,RC,RV]
  refine ⟨[],[],rfl,⟨_,[],[],rfl,by have:=h 0 x rfl;simpa using this,rfl,⟨rfl,rfl⟩,rfl⟩,?_⟩
  refine zOO xs (k+1) fun i y hy=>?_
  rw[show k+1+i=k+(i+1) by omega]
  exact h (i+1) y (by simpa using hy)
set_option maxHeartbeats 1000000 in
theorem zOk {H:Heap} {id:Nat} {l:List Int} (hid:H[id]?=some (some ⟨3,1,ints l⟩)) (hlen:l.length≤1000000) :
  HCalls Tryz.prog 112 H [.hd id 0 l.length] (fun r H'=>r=.tu []∧H'=H.set id (some ⟨3,1,ints (zCA l)⟩)):=by
 refine ⟨fun vals w=>enters_of (P:=Tryz.prog) Tryz.func112 (by kernel_rfl) rfl vals w,fun Z G FP w vals hi ha=>?_⟩
 simp only[RL] at ha
 obtain ⟨y,ys,f1,f2,rfl,e1,hv,rfl,rfl⟩:=ha
 obtain ⟨rfl,-⟩:f1=[]∧True:=by simpa using e1
 obtain ⟨g,hg,hOB,hview⟩:=zEK hi hid (by simp[zAB]) hv
 have hn:g.n=l.length:=by rw[hOB.n];exact zAB
 unfold View at hview
 split at hview
 ·rename_i hb0
  obtain ⟨rfl,_,h0⟩:=hview
  have hl:l=[]:=List.eq_nil_of_length_eq_zero h0
  subst hl
  have cS:Calls Tryz.prog 112 #[.slice none 0 0] w _:=AnyM.slices_Sort_int_none zV2 none 0 w
  refine Calls.mono cS ?_
  rintro e w' ⟨rfl,rfl⟩
  have hs:H.set id (some ⟨3,1,ints (zCA [])⟩)=H:=by
   rw[show zCA []=[] by simp[zCA]];exact zAI hid
  exact ⟨_,.tu [],H,Z,G,FP,[],rfl,⟨rfl,hs.symm⟩,rfl,hi,by simp[RV,RL],by simp,by simp,by simp,GLe.refl _,Evo.refl _ _ _⟩
 ·rename_i b hb
  obtain ⟨ad,rfl,hA⟩:=hview
  obtain rfl:=hA (.inr rfl)
  obtain ⟨b',cells,f,e1,e2,e3,e4,e5,e6,e7⟩:=hOB.cells_ hb
  rw[hb] at e1;cases e1
  simp only[Nat.zero_mul,Nat.sub_zero]
  have holen:(ints l).flatten.length=l.length:=by rw[zAq _ hOB.len,zAB,Nat.mul_one]
  obtain ⟨k1,k2,k3⟩:=(zCV e3 (ints l) 0 f (Nat.zero_le _)).1 e7
  obtain rfl:f=[]:=zDX _ _ _ zNk k2
  rw[holen,List.drop_zero] at k2
  have hcur:=zOR l _ k2
  rw[holen] at k1
  have hbs:b<w.heap.size:=(Array.getElem?_eq_some_iff.1 e3).1
  have cS:Calls Tryz.prog 112 #[.slice (some ⟨b,0,none⟩) l.length g.cap] w _:=AnyM.slices_Sort_int zV2 b 0 g.cap l w (holds_of_blockI e3 hcur) hbs (by omega)
  refine Calls.mono cS ?_
  rintro e w' ⟨rfl,n,os,rfl⟩
  have hh:=heap_sortedI (n:=n) (os:=os) (zCA l).toArray e3
  have hgb:=grownBy_sortedI (w:=w) (g:=b) (n:=n) (os:=os) (zCA l).toArray
  have htk:=take_putCellsI cells (zCA l) (by rw[zAx];omega)
  show Post Z G FP H w _ _ (Go.Sort.grow (Go.Sort.putRow (Value.int .i64) (Go.Sort.ahead w n) b 0 (zCA l).toArray) os)
  generalize Go.Sort.grow (Go.Sort.putRow (Value.int .i64) (Go.Sort.ahead w n) b 0 (zCA l).toArray) os=w' at hh hgb
  have hcl:(Go.Sort.putCells (Value.int .i64) 0 (zCA l).toArray cells).size=cells.size:=by simp[Go.Sort.putCells]
  generalize Go.Sort.putCells (Value.int .i64) 0 (zCA l).toArray cells=cells' at hh htk hcl
  have hbFP:b∈FP id:=by rw[e2];simp
  have hkeep:∀z,z<w.heap.size→z∉FP id→w'.heap[z]?=w.heap[z]?:=fun z hz hzf=>hgb.block z hz (fun e=>hzf (by cases e;exact hbFP))
  have hsame:G.set id (some g)=G:=zAI hg
  have hOB' : OB Z (G.set id (some g)) w' ⟨3,1,ints (zCA l)⟩ g [b]:=by
   rw[hsame]
   refine ⟨hOB.e,hOB.sz,by show g.n=(ints (zCA l)).length;rw[hn,zAB,zAx],fun r hr=>?_,.inr (.inl ⟨b,cells',[],hb,rfl,hh,by rw[hcl];exact e4,by rw[zAB,zAx];have:=e5;rwa [zAB] at this,e6,?_⟩)⟩
   ·obtain ⟨_,_,rfl⟩:=List.mem_map.1 hr;rfl
   ·refine zOO _ 0 fun i x hx=>?_
    have hil:i<(zCA l).length:=(List.getElem?_eq_some_iff.1 hx).1
    have:(cells'.toList.take (zCA l).length)[i]?=some (.int .i64 x):=by rw[htk,List.getElem?_map,hx];rfl
    rw[List.getElem?_take_of_lt hil] at this
    unfold World.cell?
    rw[hh,Nat.zero_add]
    simpa using this
  have hturn:=hi.turn hid hg (g':=g) (.inl rfl) hgb.size hkeep hOB' (by simp) (fun z hz=>by
   obtain rfl:=List.mem_singleton.1 hz
   exact ⟨hi.zfp id z hbFP,Nat.lt_of_lt_of_le (hi.flt id z hbFP) hgb.size,fun j hj hc=>hj (hi.disj j id z hc hbFP)⟩)
  refine ⟨_,.tu [],_,Z,_,_,[],rfl,⟨rfl,rfl⟩,by simp,hturn,by simp[RV,RL],by simp,by simp,by simp,GLe.set hg (.inl rfl),zBw hgb.os hgb.tape hgb.output hgb.size hkeep (fun z hz=>by
   obtain rfl:=List.mem_singleton.1 hz
   exact .inr ⟨_,hbFP⟩)⟩
theorem zOl (n:Nat) (hn:n≤100000000000):HFn Tryz.prog 141 [.v (.slice none 0 0),.v (.int .i64 n)] (zBs []):=by
 refine ⟨fun vals w=>enters_of (P:=Tryz.prog) Tryz.func141 (by kernel_rfl) rfl vals w,fun Z G FP w vals hi ha=>?_⟩
 simp only[RL,RV] at ha
 obtain ⟨y,ys,f1,f2,rfl,e1,⟨rfl,rfl⟩,y2,ys2,f3,f4,rfl,e2,⟨rfl,rfl⟩,rfl,rfl⟩:=ha
 by_cases h0:n=0
 ·subst h0
  have c:Calls Tryz.prog 141 #[.slice none 0 0,.int .i64 (0:Nat)] w _:=Any8.slices_Grow_room z29 none 0 0 0 w (by omega) (by omega) (by omega) (by omega)
  refine Calls.mono c ?_
  rintro e w' ⟨rfl,rfl⟩
  refine ⟨_,zBs [],[],Z,G,FP,[],rfl,rfl,rfl,hi,?_,by simp,by simp,by simp,GLe.refl _,Evo.refl _ _ _⟩
  simp[zBs,RV,ints]
 ·obtain ⟨td,inf,htd,hinf,hti⟩:=zAe ti3
  have hsz:inf.size=1:=by have:=TI.of_size td inf;rw[←hti] at this;exact this.symm
  have hby:inf.bytes=8:=by have:=TI.of_bytes td inf;rw[←hti] at this;exact this.symm
  have hze:inf.zero=some (.int .i64 0):=by have:=TI.of_zero td inf;rw[←hti] at this;exact this.symm
  have c:Calls Tryz.prog 141 #[.slice none 0 0,.int .i64 n] w _:=Any8.slices_Grow_grow z29 inf _ hinf hze (by omega) none 0 0 n [] w (by omega) (by omega) (by rw[hby];omega) (by omega) (by simp) (fun _=>rfl) (by simp)
  refine Calls.mono c ?_
  rintro e w' ⟨rfl,rfl⟩
  have hge:=grownCap_ge w (0+n) 0 (growL_ren.t 25)
  have hle:=grownCap_le_maxLen w (0+n) 0 (growL_ren.t 25) (by simp only[maxLen];omega)
  generalize grownCap w (0+n) 0 (growL_ren.t 25)=cap at hge hle
  have hcs:(([]:List Value).toArray++Builtin.zeroCells (Value.int .i64 0).cells (0+n-0)++Builtin.zeroCells (Value.int .i64 0).cells (cap-(0+n))).size=cap*1:=by
   have h1:(Value.int .i64 0).cells.size=1:=rfl
   simp only[Array.size_append,size_zeroCells,h1,List.size_toArray,List.length_nil]
   omega
  generalize ([]:List Value).toArray++Builtin.zeroCells (Value.int .i64 0).cells (0+n-0)++Builtin.zeroCells (Value.int .i64 0).cells (cap-(0+n))=cs at hcs
  have hold:∀k,k<w.heap.size→(w.drew.alloc (.cells cs (growL_ren.t 25))).heap[k]?=w.heap[k]?:=fun k hk=>Below.heap_alloc w.drew _ k hk
  have hnew:(w.drew.alloc (.cells cs (growL_ren.t 25))).heap[w.heap.size]?=some (.cells cs (growL_ren.t 25)):=heap_alloc_new w.drew _
  have hsize:(w.drew.alloc (.cells cs (growL_ren.t 25))).heap.size=w.heap.size+1:=by
   show (w.drew.heap.push _).size=_
   rw[Array.size_push];rfl
  have hi' : HInv Z G FP [] (w.drew.alloc (.cells cs (growL_ren.t 25))):=hi.keep (by omega) fun k hk=>hold k (by
   rcases hk with hk | ⟨i,hk⟩
   ·exact hi.zlt k hk
   ·exact hi.flt i k hk)
  refine ⟨_,zBs [],[],Z,G,FP,[w.heap.size],rfl,rfl,rfl,hi',?_,by simp,fun b hb=>?_,fun b hb=>?_,GLe.refl _,⟨rfl,rfl,rfl,by omega,fun k hk _=>hold k hk,fun _ h=>h,fun _ h=>.inl h,fun i k hk=>.inr ⟨i,hk⟩⟩⟩
  ·simp only[zBs,RV]
   exact .inr ⟨w.heap.size,cap,cs,[],rfl,rfl,hnew,hcs,by simp[ints],hle,by simp[ints],by simp[ints,RR]⟩
  ·obtain rfl:=List.mem_singleton.1 hb
   exact ⟨fun hz=>by have:=hi.zlt _ hz;omega,by omega,fun i hc=>by have:=hi.flt i _ hc;omega⟩
  ·obtain rfl:=List.mem_singleton.1 hb
   exact .inl (Nat.le_refl _)
set_option maxHeartbeats 4000000 in
theorem zJ3 (l:List (List Int)) (hl:l.length≤100000) (hr:∀r∈l,r.length≤100000):HFn Tryz.prog 111 [.sl (rws l)] (zBs l.flatten):=by
 have hsum:∀i,(l.take i).flatten.length≤100000*i:=by
  intro i
  induction i with
  | zero=>simp
  | succ i ih =>
   rw[List.take_add_one,List.flatten_append,List.length_append]
   cases hx:l[i]? with
   | none=>simp only[Option.toList_none,List.flatten_nil,List.length_nil];omega
   | some x=>have:=hr x (List.mem_of_getElem? hx);simp only[Option.toList_some,List.flatten_cons,List.flatten_nil,List.append_nil];omega
 refine zB (fn:=Tryz.f111) 36 [2] (by kernel_rfl) rfl (by kernel_rfl) (HW.run 400 (by kernel_rfl) ?_)
 simp +decide only[go_sem,nT,nA,nS,nM,nB,reduceIte,reduceCtorEq]
 refine HW.loopG (fun k T H=>∃i:Nat,k=l.length-i∧i≤l.length∧T 0=.sl (rws l)∧T 3=.v (.int .i64 (l.take i).flatten.length)∧T 9=.sl (rws l)∧T 10=.v (.int .i64 l.length)∧T 11=.v (.int .i64 i)∧H=[]) l.length ⟨_,_,Ghost.refl,0,rfl,by omega,rfl,rfl,rfl,rfl,rfl,rfl⟩ ?_
 rintro k T H ⟨i,rfl,hi,h0,h3,h9,h10,h11,rfl⟩
 refine HW.run 200 (by kernel_rfl) ?_
 by_cases hlt:i<l.length
 ·have hlt' : ((i:Int)<(l.length:Int))=True:=by rw[z8];simp[hlt]
  have hx:l[i]?=some l[i]:=List.getElem?_eq_getElem hlt
  have htk:(l.take (i+1)).flatten=(l.take i).flatten++l[i]:=by rw[List.take_add_one,hx,List.flatten_append];simp
  have hs:=hsum (i+1)
  generalize l[i]=x at hx htk
  rw[htk,List.length_append] at hs
  have w1:IntKind.i64.wrap (((l.take i).flatten.length:Int)+(x.length:Int))=(((l.take i).flatten.length+x.length:Nat):Int):=by rw[w64 (by omega) (by omega)];omega
  have w2:((((l.take i).flatten.length+x.length:Nat):Int)<0)=False:=by simp only[eq_iff_iff,iff_false];omega
  simp +decide only[go_sem,nT,nA,nS,nM,nB,reduceIte,reduceCtorEq,h0,h3,h9,h10,h11,hlt',hx,w1,w2]
  refine ⟨_,_,Ghost.refl,l.length-(i+1),by omega,i+1,rfl,by omega,?_,?_,?_,?_,?_,?_⟩
  all_goals first | (simp +decide only[go_sem,nB,reduceIte,h0,h9,h10];done) | (simp +decide only[go_sem,nB,reduceIte];rw[w64 (by omega) (by omega)];rfl) | (simp +decide only[go_sem,nB,reduceIte];rw[htk,List.length_append];done) | rfl
 ·have hlt' : ((i:Int)<(l.length:Int))=False:=by rw[z8];simp[hlt]
  have e:i=l.length:=by omega
  subst e
  rw[List.take_length] at h3
  have hs:=hsum l.length
  rw[List.take_length] at hs
  simp +decide only[go_sem,nT,nA,nS,nM,nB,reduceIte,reduceCtorEq,h0,h3,h9,h10,h11,hlt']
  refine zD (zOl l.flatten.length (by omega)) rfl rfl ?_
  simp +decide only[go_sem,nT,nA,nS,nM,nB,reduceIte,reduceCtorEq,h0,h3,h9,h10,h11,hlt']
  refine HW.loopG (fun k T H=>∃i:Nat,k=l.length-i∧i≤l.length∧T 6=.hd 0 0 (l.take i).flatten.length∧T 25=.sl (rws l)∧T 26=.v (.int .i64 l.length)∧T 27=.v (.int .i64 i)∧H=[some ⟨3,1,ints (l.take i).flatten⟩]) l.length ⟨_,_,Ghost.refl,0,rfl,by omega,?_,?_,?_,?_,?_⟩ ?_
  iterate 5 first | (simp +decide only[go_sem,nB,reduceIte,h0,h3,h9,h10,h11];done) | exact rfl
  rintro k T H ⟨i,rfl,hi,h6,h25,h26,h27,rfl⟩
  refine HW.run 200 (by kernel_rfl) ?_
  by_cases hlt:i<l.length
  ·have hlt' : ((i:Int)<(l.length:Int))=True:=by rw[z8];simp[hlt]
   have hx:l[i]?=some l[i]:=List.getElem?_eq_getElem hlt
   have htk:(l.take (i+1)).flatten=(l.take i).flatten++l[i]:=by rw[List.take_add_one,hx,List.flatten_append];simp
   have hs:=hsum (i+1)
   generalize l[i]=x at hx htk
   rw[htk,List.length_append] at hs
   simp +decide only[go_sem,nT,nA,nS,nM,nB,reduceIte,reduceCtorEq,h6,h25,h26,h27,hlt',hx]
   repeat (with_reducible refine And.intro ?_ ?_;·(with_reducible and_intros) <;> omega)
   refine ⟨_,_,Ghost.trunc [6,25,26,27] 1 (by omega) ?_ ?_,l.length-(i+1),by omega,i+1,rfl,by omega,?_,?_,?_,?_,?_⟩
   all_goals first | (simp +decide only[go_sem,nB,reduceIte,h6,h25,h26];done) | (simp +decide only[go_sem,nB,reduceIte];rw[w64 (by omega) (by omega)];rfl) | (simp +decide only[go_sem,nT,nA,nS,nM,nB,reduceIte,reduceCtorEq,htk,List.length_append];done)
  ·have hlt' : ((i:Int)<(l.length:Int))=False:=by rw[z8];simp[hlt]
   have e:l.take i=l:=List.take_of_length_le (by omega)
   simp +decide only[go_sem,nT,nA,nS,nM,nB,reduceIte,reduceCtorEq,h6,h25,h26,h27,hlt',e]
end Go.Proofs.YtoknohandclcbaaGreat
namespace Go.Proofs.YtoknohandclcbaaGreat
open Go.RowKit
set_option maxRecDepth 8000
def zGe (a:List Int) (x:Int):List Int:=if a.getLast?=some x then a else a++[x]
def zC5 (l:List Int):List Int:=l.foldl zGe []
theorem zEx {l:List Int} {x:Int}:zC5 (l++[x])=zGe (zC5 l) x:=by simp[zC5]
theorem zQ4 {a:List Int} {x:Int}:(zGe a x).getLast?=some x:=by
 unfold zGe
 split
 ·assumption
 ·simp
theorem zQ5:∀(l:List Int),(zC5 l).getLast?=l.getLast?:=by
 intro l
 rcases List.eq_nil_or_concat l with rfl | ⟨a,x,rfl⟩
 ·rfl
 ·rw[List.concat_eq_append,zEx,zQ4];simp
theorem zHo {l:List Int} {i:Nat} {x y:Int} (hx:l[i+1]?=some x) (hy:l[i]?=some y):zC5 (l.take (i+2))=if y=x then zC5 (l.take (i+1)) else zC5 (l.take (i+1))++[x]:=by
 have h1:l.take (i+2)=l.take (i+1)++[x]:=by rw[List.take_add_one,hx];rfl
 have h2:(l.take (i+1)).getLast?=some y:=by rw[List.take_add_one,hy];simp
 rw[h1,zEx,zGe,zQ5,h2]
 simp only[Option.some.injEq]
theorem zUL:∀(l:List Int),(zC5 l).length≤l.length:=by
 intro l
 generalize h:l.length=n
 induction n generalizing l with
 | zero=>rw[List.eq_nil_of_length_eq_zero h];simp[zC5]
 | succ n ih =>
  rcases List.eq_nil_or_concat l with rfl | ⟨a,x,rfl⟩
  ·simp at h
  ·rw[List.concat_eq_append] at h⊢
   have h2:a.length=n:=by simp at h;exact h
   rw[zEx]
   have:=ih a h2
   unfold zGe
   split
   ·omega
   ·simp;omega
set_option maxHeartbeats 8000000 in
theorem zIG (l:List Int) (hl:l.length≤100000000):HCalls Tryz.prog 113 [some ⟨3,1,ints l⟩] [.hd 0 0 l.length]
  (fun r H'=>(r=.hd 0 0 l.length∧H'=[some ⟨3,1,ints l⟩]∧zC5 l=l)∨(r=zBs (zC5 l)∧H'=[none])):=by
 refine zB (fn:=Tryz.f113) 61 [2] (by kernel_rfl) rfl (by kernel_rfl) (HW.run 400 (by kernel_rfl) ?_)
 by_cases hs:l.length<2
 ·have hs' : ((l.length:Int)<2)=True:=by simp only[eq_iff_iff,iff_true];omega
  have hc:zC5 l=l:=by
   match l,hs with
   | [],_=>rfl
   | [x],_=>rfl
   | _::_::_,h=>simp at h;omega
  simp +decide only[go_sem,nT,nA,nS,nM,nB,reduceIte,reduceCtorEq,hs']
  exact ⟨by simp[nmH,zEI],.inl ⟨rfl,rfl,hc⟩⟩
 have hs' : ((l.length:Int)<2)=False:=by simp only[eq_iff_iff,iff_false];omega
 simp +decide only[go_sem,nT,nA,nS,nM,nB,reduceIte,reduceCtorEq,hs']
 refine HW.loopG (fun q T H=>∃i:Nat,q=l.length-i∧i+1≤l.length∧zC5 (l.take (i+1))=l.take (i+1)∧T 0=.hd 0 0 l.length∧T 3=.v (.int .i64 ((i+1:Nat):Int))∧H=[some ⟨3,1,ints l⟩]) l.length ⟨_,_,Ghost.refl,0,rfl,by omega,?_,rfl,rfl,rfl⟩ ?_
 ·cases l with
  | nil=>rfl
  | cons x l=>rfl
 rintro q T H ⟨i,rfl,hi,hc,h0,h3,rfl⟩
 refine HW.run 200 (by kernel_rfl) ?_
 by_cases hlt:i+1<l.length
 ·have hlt' : (((i+1:Nat):Int)<(l.length:Int))=True:=by simp only[eq_iff_iff,iff_true];omega
  have hlt2:((i:Int)<(l.length:Int))=True:=by simp only[eq_iff_iff,iff_true];omega
  have hx:l[i+1]?=some l[i+1]:=List.getElem?_eq_getElem hlt
  have hy:l[i]?=some (l[i]'(by omega)):=List.getElem?_eq_getElem (by omega)
  generalize l[i+1]=x at hx
  generalize l[i]'(by omega)=y at hy
  have hct:=zHo hx hy
  rw[hc] at hct
  have w1:IntKind.i64.wrap (((i+1:Nat):Int)-1)=(i:Int):=by rw[w64 (by omega) (by omega)];omega
  have w2:IntKind.i64.wrap (((i+1:Nat):Int)+1)=((i+1+1:Nat):Int):=by rw[w64 (by omega) (by omega)];omega
  simp +decide only[go_sem,nT,nA,nS,nM,nB,reduceIte,reduceCtorEq,h0,h3,hlt']
  refine HW.tree 1 (.light 0 (.light 1 (.light 2 (.light 3 (.light 4 (.light 5 (.light 6 (.light 7 (.light 8 (.light 9 .leaf)))))))))) follows (by kernel_rfl) (by kernel_rfl) ?_
  simp +decide only[go_sem,nT,nA,nS,nM,nB,reduceIte,reduceCtorEq,h0,h3,hlt',hlt2,w1,hx,hy]
  by_cases hxy:x=y
  ·rw[if_pos hxy.symm] at hct
   simp +decide only[go_sem,nT,nA,nS,nM,nB,reduceIte,reduceCtorEq,h0,h3,hxy]
   refine ⟨by omega,?_⟩
   refine HW.loopG (fun q T H=>∃(j kk:Nat) (m:List Int),q=l.length-j∧i+1+(j+1)≤l.length∧kk≤i+1+j∧m.length=l.length∧m.take kk=zC5 (l.take (i+1+(j+1)))∧m.drop (i+1+j)=l.drop (i+1+j)∧T 0=.hd 0 0 l.length∧T 3=.v (.int .i64 (kk:Int))∧T 4=.hd 0 (i+1) (l.length-(i+1))∧T 5=.v (.int .i64 ((j+1:Nat):Int))∧H=[some ⟨3,1,ints m⟩]) l.length ⟨_,_,Ghost.refl,0,i+1,l,rfl,by omega,by omega,rfl,hct.symm,rfl,?_,?_,?_,?_,rfl⟩ ?_
   ·simp +decide only[go_sem,nB,reduceIte,h0,h3]
   ·simp +decide only[go_sem,nB,reduceIte,h0,h3]
   ·simp +decide only[go_sem,nT,nA,nS,nM,nB,reduceIte,reduceCtorEq,h0,h3]
   ·simp +decide only[go_sem,nB,reduceIte,h0,h3]
    rfl
   rintro q T H ⟨j,kk,m,rfl,hj,hk,hml,hmt,hmd,h0,h3,h4,h5,rfl⟩
   refine HW.run 200 (by kernel_rfl) ?_
   by_cases hlt3:i+1+(j+1)<l.length
   ·have hlt3' : (((j+1:Nat):Int)<((l.length-(i+1):Nat):Int))=True:=by simp only[eq_iff_iff,iff_true];omega
    have hlt4:((j:Int)<((l.length-(i+1):Nat):Int))=True:=by simp only[eq_iff_iff,iff_true];omega
    have gm:∀n,i+1+j≤n→m[n]?=l[n]?:=fun n hn=>by
     have e1:(m.drop (i+1+j))[n-(i+1+j)]?=(l.drop (i+1+j))[n-(i+1+j)]?:=by rw[hmd]
     rw[List.getElem?_drop,List.getElem?_drop,show i+1+j+(n-(i+1+j))=n by omega] at e1
     exact e1
    have hu:l[i+1+(j+1)]?=some l[i+1+(j+1)]:=List.getElem?_eq_getElem hlt3
    have hv:l[i+1+j]?=some (l[i+1+j]'(by omega)):=List.getElem?_eq_getElem (by omega)
    generalize l[i+1+(j+1)]=u at hu
    generalize l[i+1+j]'(by omega)=v at hv
    have hmu:m[i+1+(j+1)]?=some u:=by rw[gm _ (by omega),hu]
    have hmv:m[i+1+j]?=some v:=by rw[gm _ (by omega),hv]
    have hcu:=zHo (l:=l) (i:=i+1+j) hu hv
    have w3:IntKind.i64.wrap (((j+1:Nat):Int)-1)=(j:Int):=by rw[w64 (by omega) (by omega)];omega
    have w4:IntKind.i64.wrap (((j+1:Nat):Int)+1)=((j+1+1:Nat):Int):=by rw[w64 (by omega) (by omega)];omega
    have w5:IntKind.i64.wrap ((kk:Int)+1)=((kk+1:Nat):Int):=by rw[w64 (by omega) (by omega)];omega
    have hl1:i+1+(l.length-(i+1))=m.length:=by omega
    have hkl:((kk:Int)<(l.length:Int))=True:=by simp only[eq_iff_iff,iff_true];omega
    simp +decide only[go_sem,nT,nA,nS,nM,nB,reduceIte,reduceCtorEq,h0,h3,h4,h5,hlt3',hml]
    repeat (with_reducible refine And.intro ?_ ?_;·(with_reducible and_intros) <;> omega)
    refine HW.tree 1 (.light 0 (.light 1 (.light 2 (.light 3 (.light 4 (.light 5 (.light 6 (.light 7 (.light 8 (.light 9 .leaf)))))))))) follows (by kernel_rfl) (by kernel_rfl) ?_
    simp +decide only[go_sem,nT,nA,nS,nM,nB,reduceIte,reduceCtorEq,h0,h3,h4,h5,hlt3',hlt4,w3,hmu,hmv,hml]
    repeat (with_reducible refine And.intro ?_ ?_;·(with_reducible and_intros) <;> omega)
    by_cases huv:u=v
    ·rw[if_pos huv.symm] at hcu
     simp +decide only[go_sem,nT,nA,nS,nM,nB,reduceIte,reduceCtorEq,h0,h3,h4,h5,huv,w4]
     refine ⟨_,_,Ghost.refl,l.length-(j+1),by omega,j+1,kk,m,rfl,by omega,by omega,hml,?_,?_,?_,?_,?_,?_,rfl⟩
     ·rw[hmt];exact hcu.symm
     ·rw[show i+1+(j+1)=i+1+j+1 by omega,←List.drop_drop,hmd,List.drop_drop]
     all_goals first | (simp +decide only[go_sem,nB,reduceIte,h0,h3,h4];done) | (simp +decide only[go_sem,nB,reduceIte,h0,h3,h4];rfl)
    ·rw[if_neg (fun e=>huv e.symm)] at hcu
     have huv' : (u=v)=False:=eq_false huv
     have hmk:∃z,m[kk]?=some z:=⟨_,List.getElem?_eq_getElem (by omega)⟩
     obtain ⟨z,hmk⟩:=hmk
     simp +decide only[go_sem,nT,nA,nS,nM,nB,reduceIte,reduceCtorEq,h0,h3,h4,h5,huv',w4,hmu,hkl,hmk,hml,w5]
     repeat (with_reducible refine And.intro ?_ ?_;·(with_reducible and_intros) <;> omega)
     refine ⟨_,_,Ghost.refl,l.length-(j+1),by omega,j+1,kk+1,m.set kk u,rfl,by omega,by omega,by simpa using hml,?_,?_,?_,?_,?_,?_,?_⟩
     ·rw[show i+1+(j+1+1)=i+1+j+2 by omega,hcu,←show i+1+(j+1)=i+1+j+1 by omega,←hmt,List.take_add_one,List.getElem?_set_self (by omega),List.take_set_of_le (by omega)]
      rfl
     ·rw[List.drop_set_of_lt (by omega),show i+1+(j+1)=i+1+j+1 by omega,←List.drop_drop,hmd,List.drop_drop]
     all_goals first | (simp +decide only[go_sem,nB,reduceIte,h0,h3,h4];done) | (simp +decide only[go_sem,nB,reduceIte,h0,h3,h4];rfl) | (simp +decide only[go_sem,nT,nA,nS,nM,nB,reduceIte,reduceCtorEq];done)
   ·have hlt3' : (((j+1:Nat):Int)<((l.length-(i+1):Nat):Int))=False:=by simp only[eq_iff_iff,iff_false];omega
    rw[show i+1+(j+1)=l.length by omega,List.take_length] at hmt
    have hcl:(zC5 l).length=kk:=by rw[←hmt,List.length_take];omega
    have htk:List.take kk (zC5 l++List.replicate (l.length-kk) (0:Int))=zC5 l:=List.take_left' hcl
    simp +decide only[go_sem,nT,nA,nS,nM,nB,reduceIte,reduceCtorEq,h0,h3,h4,h5,hlt3',hml,hmt,hcl,htk,List.length_append,List.length_replicate]
    repeat (with_reducible refine And.intro ?_ ?_;·(with_reducible and_intros) <;> omega)
    exact ⟨rfl,.inr ⟨rfl,rfl⟩⟩
  ·rw[if_neg (fun e=>hxy e.symm)] at hct
   have hxy' : (x=y)=False:=eq_false hxy
   simp +decide only[go_sem,nT,nA,nS,nM,nB,reduceIte,reduceCtorEq,h0,h3,hxy',w2]
   refine ⟨_,_,Ghost.refl,l.length-(i+1),by omega,i+1,rfl,by omega,?_,?_,?_,rfl⟩
   ·rw[hct,show i+1+1=i+1+1 from rfl,List.take_add_one (i:=i+1),hx];rfl
   all_goals first | (simp +decide only[go_sem,nB,reduceIte,h0,h3];done) | (simp +decide only[go_sem,nB,reduceIte,h0,h3];rfl)
 ·have hlt' : (((i+1:Nat):Int)<(l.length:Int))=False:=by simp only[eq_iff_iff,iff_false];omega
  rw[List.take_of_length_le (by omega)] at hc
  simp +decide only[go_sem,nT,nA,nS,nM,nB,reduceIte,reduceCtorEq,h0,h3,hlt']
  exact ⟨by simp[nmH,zEI],.inl ⟨rfl,rfl,hc⟩⟩
end Go.Proofs.YtoknohandclcbaaGreat
namespace Go.Proofs.YtoknohandclcbaaGreat
open Go.RowKit
set_option maxRecDepth 8000
def zD6 (pred:Ot→Bool) (l:List Ot):List Ot:=l.filter fun o=>!pred o
theorem zEl {pred:Ot→Bool} {l:List Ot} {i:Nat} {x:Ot} (hx:l[i]?=some x):zD6 pred (l.take (i+1))=if pred x=true then zD6 pred (l.take i) else zD6 pred (l.take i)++[x]:=by
 unfold zD6
 rw[List.take_add_one,hx,List.filter_append]
 cases h:pred x <;> simp[h]
theorem zP6 {pred:Ot→Bool} {l:List Ot}:(idxF pred l = -1∧zD6 pred l=l)∨∃i:Nat,idxF pred l=(i:Int)∧i<l.length∧zD6 pred (l.take (i+1))=l.take i:=by
 unfold idxF
 cases h:l.findIdx? pred with
 | none =>
  rw[List.findIdx?_eq_none_iff] at h
  refine .inl ⟨rfl,?_⟩
  unfold zD6
  rw[List.filter_eq_self]
  intro a ha
  rw[h a ha];rfl
 | some i =>
  rw[List.findIdx?_eq_some_iff_getElem] at h
  obtain ⟨h1,h2,h3⟩:=h
  refine .inr ⟨i,rfl,h1,?_⟩
  rw[zEl (List.getElem?_eq_getElem h1),if_pos h2]
  unfold zD6
  rw[List.filter_eq_self]
  intro a ha
  obtain ⟨j,hj⟩:=List.getElem?_of_mem ha
  have hji:j<i:=by have:=(List.getElem?_eq_some_iff.1 hj).1;simp at this;omega
  rw[List.getElem?_take_of_lt hji,List.getElem?_eq_getElem (by omega)] at hj
  have:=h3 j hji
  rw[←Option.some.inj hj]
  simpa using this
abbrev zZS (b:List Ot):HV:=.fn 106 [.fp [[.sl (ots b)]] 0 0]
abbrev zIW (b:List Ot):HObj:=⟨27,1,[[.sl (ots b)]]⟩
set_option maxHeartbeats 8000000 in
theorem zJ2 (l b:List Ot) (hl:l.length≤1000000) (hb:b.length≤1000000) (hs:SetO b) (hsl:∀x∈l,SmallO x) (hsb:∀x∈b,SmallO x) :
  HCalls Tryz.prog 104 [some (zIW b),some ⟨44,2,ots l⟩] [.hd 1 0 l.length,.fn 106 [.pt 0 1 0 0]]
  (fun r H'=>(r=.hd 1 0 l.length∧H'=[some (zIW b),some ⟨44,2,ots l⟩]∧zD6 (hasO b) l=l)∨(r=.ow 44 2 (ots (zD6 (hasO b) l))∧H'=[some (zIW b),none])):=by
 have hM:∀x∈l,HFn Tryz.prog 106 [otH x,.fp [[.sl (ots b)]] 0 0] (.v (.bool (hasO b x))):=fun x hx=>zPR b x hb hs hsb (hsl x hx)
 have hi:HFn Tryz.prog 133 [.sl (ots l),zZS b] (.v (.int .i64 (idxF (hasO b) l))):=idxO l 106 [.fp [[.sl (ots b)]] 0 0] (hasO b) hl (fun x _=>rfl) (fun i x hx _=>hM x (List.mem_of_getElem? hx))
 have hcs:=zP6 (pred:=hasO b) (l:=l)
 generalize idxF (hasO b) l=q at hi hcs
 refine zB (fn:=Tryz.f104) 42 [4] (by kernel_rfl) rfl (by kernel_rfl) (HW.run 400 (by kernel_rfl) ?_)
 simp +decide only[go_sem,nT,nA,nS,nM,nB,reduceIte,reduceCtorEq]
 refine zO 3 hi (by simp only[go_sem];rfl) rfl ?_
 rcases hcs with ⟨rfl,hk⟩ | ⟨i,rfl,hil,hk⟩
 ·simp +decide only[go_sem,nT,nA,nS,nM,nB,reduceIte,reduceCtorEq]
  exact ⟨by simp[nmH,zSM];rfl,.inl ⟨rfl,rfl,hk⟩⟩
 have hq:((i:Int) = -1)=False:=by simp only[eq_iff_iff,iff_false];omega
 have w0:IntKind.i64.wrap ((i:Int)+1)=((i+1:Nat):Int):=by rw[w64 (by omega) (by omega)];omega
 simp +decide only[go_sem,nT,nA,nS,nM,nB,reduceIte,reduceCtorEq,hq,w0]
 refine HW.loopG (fun q T H=>∃(j kk:Nat) (m:List Ot),q=l.length-j∧j≤l.length∧kk<j∧m.length=l.length∧m.take kk=zD6 (hasO b) (l.take j)∧m.drop j=l.drop j∧T 0=.hd 1 0 l.length∧T 1=.fn 106 [.pt 0 1 0 0]∧T 5=.v (.int .i64 (kk:Int))∧T 6=.v (.int .i64 (j:Int))∧H=[some (zIW b),some ⟨44,2,ots m⟩]) (l.length-(i+1)) ⟨_,_,Ghost.refl,i+1,i,l,by omega,by omega,by omega,rfl,hk.symm,rfl,?_,?_,?_,?_,rfl⟩ ?_
 ·simp +decide only[go_sem,nB,reduceIte]
 ·simp +decide only[go_sem,nB,reduceIte]
 ·simp +decide only[go_sem,nB,reduceIte]
 ·simp +decide only[go_sem,nB,reduceIte]
 rintro q T H ⟨j,kk,m,rfl,hj,hkj,hml,hmt,hmd,h0,h1,h5,h6,rfl⟩
 refine HW.run 200 (by kernel_rfl) ?_
 by_cases hlt:j<l.length
 ·have hlt' : ((j:Int)<(l.length:Int))=True:=by simp only[eq_iff_iff,iff_true];omega
  have hx:l[j]?=some l[j]:=List.getElem?_eq_getElem hlt
  have hmx:m[j]?=l[j]?:=by
   have e1:(m.drop j)[0]?=(l.drop j)[0]?:=by rw[hmd]
   rw[List.getElem?_drop,List.getElem?_drop] at e1
   exact e1
  have hdr:m.drop (j+1)=l.drop (j+1):=by rw[←List.drop_drop,hmd,List.drop_drop]
  rw[hx] at hmx
  have hMx:=hM _ (List.getElem_mem hlt)
  generalize l[j]=x at hx hmx hMx
  have hkt:=zEl (pred:=hasO b) hx
  have w1:IntKind.i64.wrap ((j:Int)+1)=((j+1:Nat):Int):=by rw[w64 (by omega) (by omega)];omega
  have w2:IntKind.i64.wrap ((kk:Int)+1)=((kk+1:Nat):Int):=by rw[w64 (by omega) (by omega)];omega
  simp +decide only[go_sem,nT,nA,nS,nM,nB,reduceIte,reduceCtorEq,h0,h1,h5,h6,hlt',hml,hmx]
  repeat (with_reducible refine And.intro ?_ ?_;·(with_reducible and_intros) <;> omega)
  refine zO 3 hMx (by simp only[go_sem];rfl) rfl ?_
  cases hb:hasO b x with
  | true =>
   rw[if_pos hb] at hkt
   simp +decide only[go_sem,nT,nA,nS,nM,nB,reduceIte,reduceCtorEq,h0,h1,h5,h6,w1,hml]
   refine ⟨_,_,Ghost.trunc [0,1,5,6] 2 (by omega) ?_ ?_,l.length-(j+1),by omega,j+1,kk,m,rfl,by omega,by omega,hml,by rw[hkt,hmt],hdr,?_,?_,?_,?_,?_⟩
   all_goals first | (simp +decide only[go_sem,nB,reduceIte,h0,h1,h5];done) | (simp +decide only[go_sem,nB,reduceIte,h0,h1,h5];rfl) | (simp +decide only[go_sem,nT,nA,nS,nM,nB,reduceIte,reduceCtorEq];done)
  | false =>
   rw[if_neg (by rw[hb];simp)] at hkt
   have hmk:∃z,m[kk]?=some z:=⟨_,List.getElem?_eq_getElem (by omega)⟩
   obtain ⟨z,hmk⟩:=hmk
   have hset:(ots m).set kk [.sl (ints x.mem),.sl (ints x.regs)]=ots (m.set kk x):=zSL
   have hkl:((kk:Int)<(l.length:Int))=True:=by simp only[eq_iff_iff,iff_true];omega
   simp +decide only[go_sem,nT,nA,nS,nM,nB,reduceIte,reduceCtorEq,h0,h1,h5,h6,w1,w2,hml,hmk,hkl,hset]
   repeat (with_reducible refine And.intro ?_ ?_;·(with_reducible and_intros) <;> omega)
   refine ⟨_,_,Ghost.trunc [0,1,5,6] 2 (by omega) ?_ ?_,l.length-(j+1),by omega,j+1,kk+1,m.set kk x,rfl,by omega,by omega,by simpa using hml,?_,?_,?_,?_,?_,?_,?_⟩
   ·simp +decide only[go_sem,nB,reduceIte,h0,h1,h5]
   ·simp +decide only[go_sem,nB,reduceIte]
   ·rw[hkt,←hmt,List.take_add_one,List.getElem?_set_self (by omega),List.take_set_of_le (by omega)]
    rfl
   ·rw[List.drop_set_of_lt (by omega),hdr]
   all_goals first | (simp +decide only[go_sem,nB,reduceIte,h0,h1,h5];done) | (simp +decide only[go_sem,nB,reduceIte,h0,h1,h5];rfl) | (simp +decide only[go_sem,nT,nA,nS,nM,nB,reduceIte,reduceCtorEq];done) | (simp +decide only[go_sem,nT,nA,nS,nM,nB,reduceIte,reduceCtorEq];exact congrArg (fun r=>[some (⟨44,2,r⟩:HObj)]) zSL)
 ·have hlt' : ((j:Int)<(l.length:Int))=False:=by simp only[eq_iff_iff,iff_false];omega
  obtain rfl:j=l.length:=by omega
  rw[List.take_length] at hmt
  have hcl:(zD6 (hasO b) l).length=kk:=by rw[←hmt,List.length_take];omega
  have htk:List.take kk (ots (zD6 (hasO b) l)++List.replicate (l.length-kk) [HV.v (.slice none 0 0),HV.v (.slice none 0 0)])=ots (zD6 (hasO b) l):=List.take_left' (by rw[zH7,hcl])
  simp +decide only[go_sem,nT,nA,nS,nM,nB,reduceIte,reduceCtorEq,h0,h1,h5,h6,hlt',hml,hmt,hcl,htk,List.length_append,List.length_replicate]
  repeat (with_reducible refine And.intro ?_ ?_;·(with_reducible and_intros) <;> omega)
  exact ⟨rfl,.inr ⟨rfl,rfl⟩⟩
set_option maxHeartbeats 4000000 in
theorem zXk (l:List Ot) (hl:l.length≤100000000):HFn Tryz.prog 105 [.sl (ots l)] (.ow 44 2 (ots l)):=by
 refine zO3 (fun hr=>?_) (fun hr a c=>?_)
 ·refine zB (fn:=Tryz.f105) 8 [2] (by kernel_rfl) rfl (by kernel_rfl) (HW.run 400 (by kernel_rfl) ?_)
  simp +decide only[go_sem,nT,nA,nS,nM,nB,reduceIte,reduceCtorEq,hr]
  (with_reducible and_intros) <;> first | omega | rfl
 ·obtain rfl:l=[]:=by cases l with | nil=>rfl | cons a l=>cases hr
  refine HCalls.conv (Q:=fun x _=>x=.v (.slice none 0 0)∨x=.ow 44 2 (ots [])) ?_ ?_
  ·refine zB (fn:=Tryz.f105) 8 [2] (by kernel_rfl) rfl (by kernel_rfl) (HW.run 400 (by kernel_rfl) ?_)
   cases a with
   | none=>simp +decide only[go_sem,nT,nA,nS,nM,nB,reduceIte,reduceCtorEq]
   | some a=>simp +decide only[go_sem,nT,nA,nS,nM,nB,reduceIte,reduceCtorEq]
  ·rintro x H' (rfl | rfl)
   ·exact ⟨_,rfl,.inr ⟨rfl,Conv.nilOw _ _⟩⟩
   ·exact ⟨_,rfl,.inl rfl⟩
theorem zSI (a b:List Ot) (hl:a.length≤1000000) (hb:b.length≤1000000) (hs:SetO b) (hsl:∀x∈a,SmallO x) (hsb:∀x∈b,SmallO x):HFn Tryz.prog 68 [.sl (ots a),.sl (ots b)] (.ow 44 2 (ots (zAm a b))):=by
 have hD:=zJ2 a b hl hb hs hsl hsb
 have e:zD6 (hasO b) a=zAm a b:=rfl
 rw[e] at hD
 refine zB (fn:=Tryz.f68) 9 [4] (by kernel_rfl) rfl (by kernel_rfl) (HW.run 400 (by kernel_rfl) ?_)
 simp +decide only[go_sem,nT,nA,nS,nM,nB,reduceIte,reduceCtorEq]
 refine zD (zXk a (by omega)) rfl rfl ?_
 simp +decide only[go_sem,nT,nA,nS,nM,nB,reduceIte,reduceCtorEq]
 refine ⟨_,hD,fun r H' hq _=>?_⟩
 rcases hq with ⟨rfl,rfl,hk⟩ | ⟨rfl,rfl⟩
 ·simp +decide only[go_sem,nT,nA,nS,nM,nB,reduceIte,reduceCtorEq,hk]
 ·simp +decide only[go_sem,nT,nA,nS,nM,nB,reduceIte,reduceCtorEq]
end Go.Proofs.YtoknohandclcbaaGreat
namespace Go.Proofs.YtoknohandclcbaaGreat
open Go.RowKit
set_option maxRecDepth 8000
theorem zOp {v0 v2:Value} {m:Int} {w:World} {R:Ending→World→Prop}
  (hc:Calls Tryz.prog 145 #[v0,.int .i64 m,.slice none 0 0,v2] (w.alloc (.cells #[.slice none 0 0] 22)) fun e w'=>e=.returned (.tuple #[])∧w'.cell? ⟨w.heap.size,0,none⟩=some (.slice none 0 0)∧w'.frozen? ⟨w.heap.size,0,none⟩=false∧R (.returned (.slice none 0 0)) (w'.setCell ⟨w.heap.size,0,none⟩ (.slice none 0 0))) :
  Calls Tryz.prog 114 #[v0,.int .i64 m,v2] w R:=by
 have hmf:∀(fn:Fn) (first cap:Array Value) (w:World),(Instr.makeFunc fn first cap).run Tryz.prog w=.ok (.func fn first cap) w:=fun _ _ _ _=>rfl
 go_enter_defers Tryz.func114,Tryz.ntmps114
 go_wp2_with (refine Calls.mono hc ?_;rintro e w2 ⟨rfl,hcell,hfro,hR⟩)
 refine leaves_cons (f:=144) (args:=#[.pointer (some ⟨w.heap.size,0,none⟩)]) (by simp) (by simp[go_sem]) ?_
 refine (zUU ⟨w.heap.size,0,none⟩ _).mono ?_
 rintro e u' w'' ⟨rfl,rfl,rfl⟩
 have hc2:(w2.setCell ⟨w.heap.size,0,none⟩ (.slice none 0 0)).cell? ⟨w.heap.size,0,none⟩=some (.slice none 0 0):=by
  simp[go_sem,hcell]
 simp[Leaves,Go.settle,results,Tryz.results114,go_sem,hc2]
 exact hR
theorem zHX {v0 v2:Value} {m:Int} {w:World} {R:Ending→World→Prop}
  (hc:Calls Tryz.prog 145 #[v0,.int .i64 m,.slice none 0 0,v2] (w.alloc (.cells #[.slice none 0 0] 22)) fun e w2=>∃v,e=.panicked [{ v:=v,recovered:=false }]∧
   CallsD Tryz.prog 144 #[.pointer (some ⟨w.heap.size,0,none⟩)] (.panicking [{ v:=v,recovered:=false }]) w2 fun e u' w'=>e=.returned (.tuple #[])∧u'=.panicking [{ v:=v,recovered:=true }]∧∃y,w'.cell? ⟨w.heap.size,0,none⟩=some y∧R (.returned y) w') :
  Calls Tryz.prog 114 #[v0,.int .i64 m,v2] w R:=by
 have hmf:∀(fn:Fn) (first cap:Array Value) (w:World),(Instr.makeFunc fn first cap).run Tryz.prog w=.ok (.func fn first cap) w:=fun _ _ _ _=>rfl
 go_enter_defers Tryz.func114,Tryz.ntmps114
 go_wp2_with (refine Calls.mono hc ?_;rintro e w2 ⟨v,rfl,hR⟩)
 refine leaves_cons (f:=144) (args:=#[.pointer (some ⟨w.heap.size,0,none⟩)]) (by simp) (by simp[go_sem]) ?_
 refine hR.mono ?_
 rintro e u' w'' ⟨rfl,rfl,y,hy,hR⟩
 simp[Leaves,Go.settle,results,Tryz.results114,go_sem,hy]
 exact hR
end Go.Proofs.YtoknohandclcbaaGreat
namespace Go.Proofs.YtoknohandclcbaaGreat
set_option maxRecDepth 8000
theorem zJJ {f:List Int→List Int→Option (List Int)} {row r:List Int}:∀{all:List Int},tryG f row all=some r→∃n rest,n::rest <:+ all∧f rest (row++[n])=some r
 | [],h=>by simp[tryG] at h
 | n::all,h=>by
  rw[tryG] at h
  split at h
  ·rename_i r' e
   exact ⟨n,all,List.suffix_refl _,by rw[e];exact h⟩
  ·obtain ⟨m,rest,h1,h2⟩:=zJJ h
   exact ⟨m,rest,h1.trans (List.suffix_cons _ _),h2⟩
theorem zDl (l:List (List Int)):∀(m:Nat) (all row r:List Int),tryF l m all row=some r→zB2 r l=true∧∃s,r=row++s∧s.length=m∧s.Sublist all
 | 0,all,row,r,h=>by
  unfold tryF at h
  split at h
  ·rename_i hh
   cases h
   exact ⟨hh,[],by simp,rfl,List.nil_sublist _⟩
  ·cases h
 | m+1,all,row,r,h=>by
  obtain ⟨n,rest,h1,h2⟩:=zJJ (f:=tryF l m) h
  obtain ⟨h3,s,rfl,h5,h6⟩:=zDl l m rest _ r h2
  exact ⟨h3,n::s,by simp,by simp[h5],(h6.cons_cons n).trans h1.sublist⟩
theorem zGM {l:List (List Int)} {all r:List Int}:∀(k m:Nat),zEH l all k m=(r,true)→∃n,m≤n∧tryF l n all []=some r∧∀j,m≤j→j<n→tryF l j all []=none
 | 0,m,h=>by simp[zEH] at h
 | k+1,m,h=>by
  unfold zEH at h
  cases ht:tryF l m all [] with
  | some r' =>
   rw[ht] at h
   simp only[Prod.mk.injEq,and_true] at h
   subst h
   exact ⟨m,Nat.le_refl _,ht,fun j h1 h2=>by omega⟩
  | none =>
   rw[ht] at h
   obtain ⟨n,h1,h2,h3⟩:=zGM k (m+1) h
   refine ⟨n,by omega,h2,fun j h4 h5=>?_⟩
   rcases Nat.lt_or_ge m j with hj | hj
   ·exact h3 j hj h5
   ·obtain rfl:j=m:=by omega
    exact ht
theorem zD5 {l:List (List Int)} {r:List Int} (h:zBe l=(r,true)):(∀row∈l,row≠[])∧∃n,tryF l n (allN l) []=some r∧∀j,j<n→tryF l j (allN l) []=none:=by
 unfold zBe at h
 split at h
 ·simp at h
 ·rename_i hn
  obtain ⟨n,h1,h2,h3⟩:=zGM _ _ h
  refine ⟨fun row hr e=>hn ?_,n,h2,fun j hj=>h3 j (Nat.zero_le _) hj⟩
  rw[List.any_eq_true]
  exact ⟨row,hr,by rw[e];rfl⟩
theorem zMM {l:List (List Int)} {r:List Int} (h:zBe l=(r,true)):zB2 r l=true:=by
 obtain ⟨_,n,h1,_⟩:=zD5 h
 exact (zDl l n _ _ _ h1).1
theorem zJy {a b:List Int}:zBL a b=true↔∃n,n∈a∧n∈b:=by
 unfold zBL
 rw[List.any_eq_true]
 simp[hasB]
theorem zSp {g:List Int} {l:List (List Int)}:zB2 g l=true↔∀row∈l,∃n,n∈row∧n∈g:=by
 unfold zB2
 rw[List.all_eq_true]
 exact ⟨fun h row hr=>zJy.1 (h row hr),fun h row hr=>zJy.2 (h row hr)⟩
theorem zPc {g g' : List Int} {l:List (List Int)} (h:zB2 g l=true) (hs:∀n∈g,n∈g'):zB2 g' l=true:=by
 rw[zSp] at h⊢
 intro row hr
 obtain ⟨n,h1,h2⟩:=h row hr
 exact ⟨n,h1,hs n h2⟩
end Go.Proofs.YtoknohandclcbaaGreat
namespace Go.Proofs.YtoknohandclcbaaGreat
open Go.RowKit
set_option maxRecDepth 8000
structure Room (Z:Nat→Prop) (FP:Nat→List Nat) (w:World) (g:OG) (FP1:Nat→List Nat):Prop where
 inv:HInv Z [some g] FP1 [some (zC1 (.v (.slice none 0 0)))] (w.alloc (.cells #[.slice none 0 0] 22))
 evo:Evo Z FP w Z FP1 (w.alloc (.cells #[.slice none 0 0] 22))
 ptr:RV Z [some g] (w.alloc (.cells #[.slice none 0 0] 22)) (.pt 0 1 0 0) (.pointer (some ⟨w.heap.size,0,none⟩)) []
 old:∀b,b<w.heap.size→(w.alloc (.cells #[.slice none 0 0] 22)).heap[b]?=w.heap[b]?
 new:(w.alloc (.cells #[.slice none 0 0] 22)).heap[w.heap.size]?=some (.cells #[.slice none 0 0] 22 (0,0))
theorem room {Z:Nat→Prop} {FP:Nat→List Nat} {w:World} (hi:HInv Z [] FP [] w):∃FP1,Room Z FP w ⟨some w.heap.size,22,1,1,1⟩ FP1:=by
 obtain ⟨FP1,i1,e1,_,p1⟩:=lay (e:=22) (sz:=1) (cap:=1) (rows:=[[.v (.slice none 0 0)]]) (cells:=#[.slice none 0 0]) (w1:=w) hi (.inl rfl) rfl (by simp) (by simp[maxLen]) (by simp)
  (by
   show RL Z [] w [.v (.slice none 0 0)] [.slice none 0 0] []
   simp only[RL,RV]
   exact ⟨_,[],[],[],rfl,rfl,⟨rfl,rfl⟩,rfl,rfl⟩)
  (by
   intro y hy
   simp at hy
   subst hy;rfl)
 have p1:=p1 rfl
 simp only[List.nil_append,List.length_nil,List.length_singleton] at i1 p1
 refine ⟨FP1,i1,e1,p1,fun b hb=>Below.heap_alloc w _ _ hb,heap_alloc_new w _⟩
theorem zL1 {Z:Nat→Prop} {FP FP1:Nat→List Nat} {w:World} {g:OG} {l:List (List Int)} {m:Nat} {all:List Int} {v0 v2:Value} (hi:HInv Z [] FP [] w) (hR:Room Z FP w g FP1) (h0:RV Z [] w (.sl (ints all)) v0 []) (h2:RV Z [] w (.sl (rws l)) v2 []) :
  RL Z [] (w.alloc (.cells #[.slice none 0 0] 22)) (tryA l m all []) [v0,.int .i64 m,.slice none 0 0,v2] []:=by
 have keep:∀{h v},RV Z [] w h v []→RV Z [] (w.alloc (.cells #[.slice none 0 0] 22)) h v []:=fun hr=>RV.nil_keep (fun b hb=>hR.old b (hi.zlt b hb)) (fun _ h=>h) (GLe.refl _) hr
 have hn:RV Z [] (w.alloc (.cells #[.slice none 0 0] 22)) (.sl (ints [])) (.slice none 0 0) []:=by
  simp only[RV]
  exact ⟨trivial,none,0,rfl,Nat.le_refl _,Nat.zero_le _,.inl rfl⟩
 have hv1:RV Z [] (w.alloc (.cells #[.slice none 0 0] 22)) (.v (.int .i64 m)) (.int .i64 m) []:=by
  simp only[RV];exact ⟨trivial,trivial⟩
 simp only[RL]
 exact ⟨v0,_,[],[],rfl,rfl,keep h0,_,_,[],[],rfl,rfl,hv1,_,_,[],[],rfl,rfl,hn,v2,_,[],[],rfl,rfl,keep h2,rfl,rfl⟩
theorem zYe {Z:Nat→Prop} {FP:Nat→List Nat} {w:World} {l:List (List Int)} {m:Nat} {all:List Int} {v0 v2:Value} (ok:TryOk l m all []) (ht:tryF l m all []=none) (hi:HInv Z [] FP [] w) (h0:RV Z [] w (.sl (ints all)) v0 []) (h2:RV Z [] w (.sl (rws l)) v2 []) :
  Calls Tryz.prog 114 #[v0,.int .i64 m,v2] w (Post Z [] FP [] w fun x H'=>H'=[]∧x=.v (.slice none 0 0)):=by
 obtain ⟨FP1,hR⟩:=room hi
 have hfp:∀id,FP id=[]:=fun id=>hi.nofp id (by simp)
 refine zOp ?_
 refine Calls.mono (((zHT l m all [] ok).1 ht).2 Z [] (fun _=>[]) _ _ (HInv.empty hR.inv.zlt hR.inv.glob) (zL1 (m:=m) hi hR h0 h2)) ?_
 rintro e w2 ⟨v,r,H',Z',G',FP',fr,rfl,rfl,hlen,i2,hv,_,_,_,_,E2⟩
 have hsz1:(w.alloc (.cells #[.slice none 0 0] 22)).heap.size=w.heap.size+1:=by simp[go_sem]
 have hk:∀b,b<w.heap.size+1→w2.heap[b]?=(w.alloc (.cells #[.slice none 0 0] 22)).heap[b]?:=fun b hb=>E2.keep b (by omega) (by simp)
 have hb0:w2.heap[w.heap.size]?=some (.cells #[.slice none 0 0] 22 (0,0)):=(hk _ (by omega)).trans hR.new
 have hz0:¬Z' w.heap.size:=fun h=>by
  rcases E2.znew _ h with h | h | ⟨id,h⟩
  ·have:=hi.zlt _ h;omega
  ·omega
  ·simp at h
 have hne:∀b,b≠w.heap.size→(w2.setCell ⟨w.heap.size,0,none⟩ (.slice none 0 0)).heap[b]?=w2.heap[b]?:=fun b hb=>Below.heap_setCell w2 _ _ b hb
 have hss:(w2.setCell ⟨w.heap.size,0,none⟩ (.slice none 0 0)).heap.size=w2.heap.size:=by simp[World.setCell]
 have hv' : v=.tuple #[]:=by
  simp only[RV,RL] at hv
  obtain ⟨ys,rfl,h,_⟩:=hv
  congr 1
  exact Array.toList_inj.1 h
 refine ⟨by rw[hv'],by simp[World.cell?,hb0],by simp[World.frozen?,hb0],?_⟩
 have hgl:Globs Z' (w2.setCell ⟨w.heap.size,0,none⟩ (.slice none 0 0)):=i2.glob.keep (fun _ h=>h) (fun b hb=>hne b (fun e=>hz0 (e▸hb)))
 refine ⟨_,.v (.slice none 0 0),[],Z',[],fun _=>[],[],rfl,⟨rfl,rfl⟩,rfl,HInv.empty (fun b hb=>by rw[hss];exact i2.zlt b hb) hgl,by simp only[RV];exact ⟨trivial,trivial⟩,by simp,by simp,by simp,GLe.refl _,?_⟩
 refine ⟨?_,?_,?_,?_,?_,fun b hb=>E2.zle b hb,?_,by simp⟩
 ·exact E2.os.trans rfl
 ·exact E2.tape.trans rfl
 ·exact E2.output.trans rfl
 ·rw[hss];have:=E2.size;omega
 ·intro b hb _
  rw[hne b (by omega),hk b (by omega),hR.old b hb]
 ·intro b hb
  rcases E2.znew b hb with h | h | ⟨id,h⟩
  ·exact .inl h
  ·exact .inr (.inl (by omega))
  ·simp at h
theorem zUS {Z:Nat→Prop} {g:OG} {G:List (Option OG)} {FP:Nat→List Nat} {w:World} {r:List Int} {b:Nat} (hr:r≠[]) (hb:g.blk=some b) (hn:g.n=1) (hi:HInv Z G FP (zKu r) w) (hG:GLt 1 [some g] G) :
  ∃y,w.cell? ⟨b,0,none⟩=some y∧∃Z' FP',RV Z' [] w (.sl (ints r)) y []∧Evo Z FP w Z' FP' w∧(∀b,Z' b→b<w.heap.size)∧Globs Z' w:=by
 obtain ⟨g0,hg0,hob⟩:=hi.live 0 _ rfl
 have e0:g0=g:=by
  rcases hG.at_ 0 (by omega) with h | h | ⟨g1,g2,h1,h2,h3⟩
  ·rw[hg0] at h;cases h
  ·rw[hg0] at h;cases h;rfl
  ·rw[hg0] at h2;cases h2
   simp at h1;subst h1
   have:=hob.n
   rw[hn] at h3
   simp[zC1] at this
   omega
 subst e0
 obtain ⟨b',cells,f,e1,e2,e3,e4,e5,e6,e7⟩:∃b' cells f,g0.blk=some b'∧FP 0=b'::f∧w.heap[b']?=some (.cells cells 22 (0,0))∧cells.size=g0.cap*1∧1≤g0.cap∧g0.cap≤maxLen∧RR Z G w [[.hd 1 0 r.length]] b' 0 f:=by
  rcases hob.at_ with ⟨h,_⟩ | h | ⟨x,hs,obj,f,h,_⟩
  ·rw[hb] at h;cases h
  ·exact h
  ·rw[hb] at h;cases h
 rw[hb] at e1;cases e1
 simp only[RR,RC] at e7
 obtain ⟨f1,f2,hf,⟨y,f3,f4,hf1,hc,h1c,hy,hf4⟩,hf2⟩:=e7
 refine ⟨y,by simpa using hc,?_⟩
 have hy3:f3=[]:=by simp only[RV] at hy;exact hy.1
 subst hy3
 have hst:St 1 w.heap.size Z G FP [] (fun _=>.hd 1 0 r.length) (zKu r) { tmps:=#[y],defers:=[] } w :=
  ⟨hi,rfl,fun i hi1=>(by
   obtain rfl:i=0:=by omega
   exact hy),rfl,by simp,by simp⟩
 obtain ⟨Z5,G5,FP5,s5,_,E5⟩:=Ghost.freezeHd (N:=1) (L:=0) (T:=fun _=>.hd 1 0 r.length) (H:=zKu r) 0 1 r.length (ob:=⟨3,1,ints r⟩) rfl rfl (by simp only[zAB]) w.heap.size Z G FP [] _ w (by omega) hst
 have h5:=s5.tmps 0 (by omega)
 refine ⟨Z5,FP5,?_,E5,s5.inv.zlt,s5.inv.glob⟩
 have h6:RV Z5 G5 w (.sl (ints r)) y []:=by
  have:upd (fun _=>HV.hd 1 0 r.length) 0 (.sl (fzoR (ints r))) 0=.sl (ints r):=by simp only[upd,if_true,zAU]
  rw[this] at h5
  exact h5
 simpa only[RV] using h6
theorem zYd {Z:Nat→Prop} {FP:Nat→List Nat} {w:World} {l:List (List Int)} {m:Nat} {all r:List Int} {v0 v2:Value} (ok:TryOk l m all []) (ht:tryF l m all []=some r) (hr:r≠[]) (hrl:r.length≤200000) (hi:HInv Z [] FP [] w) (h0:RV Z [] w (.sl (ints all)) v0 []) (h2:RV Z [] w (.sl (rws l)) v2 []) :
  Calls Tryz.prog 114 #[v0,.int .i64 m,v2] w (Post Z [] FP [] w fun x H'=>H'=[]∧x=.sl (ints r)):=by
 obtain ⟨FP1,hR⟩:=room hi
 have hfp:∀id,FP id=[]:=fun id=>hi.nofp id (by simp)
 refine zHX ?_
 refine Calls.mono (((zHT l m all [] ok).2 r ht).2 Z (fun _=>[]) _ _ (HInv.empty hR.inv.zlt hR.inv.glob) (zL1 (m:=m) hi hR h0 h2)) ?_
 rintro e w2 ⟨v,Z',FP',rfl,i2,hv,E2⟩
 refine ⟨v,rfl,?_⟩
 have hsz1:(w.alloc (.cells #[.slice none 0 0] 22)).heap.size=w.heap.size+1:=by simp[go_sem]
 have hk:∀b,b<w.heap.size+1→w2.heap[b]?=(w.alloc (.cells #[.slice none 0 0] 22)).heap[b]?:=fun b hb=>E2.keep b (by omega) (by simp)
 have hznew:∀b,Z' b→Z b∨w.heap.size+1≤b:=fun b hb=>by
  rcases E2.znew _ hb with h | h | ⟨id,h⟩
  ·exact .inl h
  ·exact .inr (by omega)
  ·simp at h
 have i3:HInv Z' [some ⟨some w.heap.size,22,1,1,1⟩] FP1 [some (zC1 (.v (.slice none 0 0)))] w2:=by
  refine (hR.inv.keep E2.size (fun b hb=>hk b ?_)).zmore E2.zle i2.zlt (fun id b hb hz=>?_)
  ·rcases hb with hb | ⟨id,hb⟩
   ·have:=hR.inv.zlt b hb;omega
   ·have:=hR.inv.flt id b hb;omega
  ·rcases hznew b hz with h | h
   ·exact hR.inv.zfp id b hb h
   ·have:=hR.inv.flt id b hb;omega
 have E3:Evo Z FP1 (w.alloc (.cells #[.slice none 0 0] 22)) Z' FP1 w2:=⟨E2.os,E2.tape,E2.output,E2.size,fun b hb _=>hk b (by omega),E2.zle,fun b hb=>(hznew b hb).elim .inl fun h=>.inr (.inl (by omega)),fun id b hb=>.inr ⟨id,hb⟩⟩
 have p3:RV Z' [some ⟨some w.heap.size,22,1,1,1⟩] w2 (.pt 0 1 0 0) (.pointer (some ⟨w.heap.size,0,none⟩)) []:=RV.nil_keep (fun b hb=>hk b (by have:=hR.inv.zlt b hb;omega)) E2.zle (GLe.refl _) hR.ptr
 have hv3:RV Z' [some ⟨some w.heap.size,22,1,1,1⟩] w2 (.ic 179 (.sl (ints r))) v []:=RV.nil_keep (fun _ _=>rfl) (fun _ h=>h) (zBD _) hv
 refine (zXq ⟨w.heap.size,0,none⟩ r v w2 hrl i3 p3 hv3).mono ?_
 rintro e u' w3 ⟨rfl,rfl,Z3,G3,FP3,i4,hG,E4⟩
 obtain ⟨y,hy,Z5,FP5,hry,E5,hzl,hgl⟩:=zUS hr rfl rfl i4 hG
 have hE:=(hR.evo.trans E3).trans (E4.trans E5)
 refine ⟨rfl,rfl,y,hy,_,.sl (ints r),[],Z5,[],fun _=>[],[],rfl,⟨rfl,rfl⟩,rfl,HInv.empty hzl hgl,hry,by simp,by simp,by simp,GLe.refl _,hE.os,hE.tape,hE.output,hE.size,hE.keep,hE.zle,hE.znew,by simp⟩
set_option maxHeartbeats 4000000 in
theorem zQ9 (p:Addr) (a:Option Addr) (c:Nat) (x:Value) (w:World) (hc:(w.alloc (.cells #[] 3)).cell? p=some x) (hz:(w.alloc (.cells #[] 3)).frozen? p=false) :
  CallsD Tryz.prog 144 #[.pointer (some p)] (.panicking [{ v:=.iface 179 (.slice a 0 c),recovered:=false }]) w fun e u' w' =>
   e=.returned (.tuple #[])∧u'=.panicking [{ v:=.iface 179 (.slice a 0 c),recovered:=true }]∧w'=(w.alloc (.cells #[] 3)).setCell p (.slice (some ⟨w.heap.size,0,none⟩) 0 0):=by
 have hf:=zTI
 have hst:∀(ad:Addr) (w:World),(storeCells ad []:Sem Unit).run Tryz.prog w=.ok () w:=fun ad w=>by simp[storeCells]
 refine callsD_of_wpS Tryz.func144 rfl fun c₀ cs hu=>?_
 apply wpS_seq
 apply wpS_region
 simp[wpOpsS,go_sem,recoverD,hu,Tryz.ntmps144,Exit.thenS]
 refine wpS_of_wp ?_
 go_wp2
 ·rename_i hK
  simp only[Sem.run_pure,Result.andThen_ok,hst,Oper.upon]
  refine hK _ _ ?_
  go_wp2
  exact ⟨rfl,_,rfl,.tuple #[],by simp[results,Tryz.results144],rfl,rfl,rfl⟩
 ·rename_i hK
  simp only[Sem.run_pure,Result.andThen_ok,hst,Oper.upon]
  refine hK _ _ ?_
  go_wp2
  exact ⟨rfl,_,rfl,.tuple #[],by simp[results,Tryz.results144],rfl,rfl,rfl⟩
 ·rename_i h1 h2 h3
  cases a with
  | none=>exact (h2 0 c rfl).elim
  | some a=>exact (h1 a 0 c rfl).elim
theorem zYf {Z:Nat→Prop} {FP:Nat→List Nat} {w:World} {l:List (List Int)} {m:Nat} {all:List Int} {v0 v2:Value} (ok:TryOk l m all []) (ht:tryF l m all []=some []) (hi:HInv Z [] FP [] w) (h0:RV Z [] w (.sl (ints all)) v0 []) (h2:RV Z [] w (.sl (rws l)) v2 []) :
  Calls Tryz.prog 114 #[v0,.int .i64 m,v2] w (Post Z [] FP [] w fun x H'=>H'=[]∧∃a,x=.v (.slice (some a) 0 0)):=by
 obtain ⟨FP1,hR⟩:=room hi
 refine zHX ?_
 refine Calls.mono (((zHT l m all [] ok).2 [] ht).2 Z (fun _=>[]) _ _ (HInv.empty hR.inv.zlt hR.inv.glob) (zL1 (m:=m) hi hR h0 h2)) ?_
 rintro e w2 ⟨v,Z',FP',rfl,i2,hv,E2⟩
 have hsz1:(w.alloc (.cells #[.slice none 0 0] 22)).heap.size=w.heap.size+1:=by simp[go_sem]
 have hk:∀b,b<w.heap.size+1→w2.heap[b]?=(w.alloc (.cells #[.slice none 0 0] 22)).heap[b]?:=fun b hb=>E2.keep b (by omega) (by simp)
 have hsz2:w.heap.size+1≤w2.heap.size:=by have:=E2.size;omega
 have hb0:w2.heap[w.heap.size]?=some (.cells #[.slice none 0 0] 22 (0,0)):=(hk _ (by omega)).trans hR.new
 have hz0:¬Z' w.heap.size:=fun h=>by
  rcases E2.znew _ h with h | h | ⟨id,h⟩
  ·have:=hi.zlt _ h;omega
  ·omega
  ·simp at h
 simp only[RV] at hv
 obtain ⟨_,z,rfl,_,a,c,rfl,_⟩:=hv
 refine ⟨_,rfl,?_⟩
 have ha0:(w2.alloc (.cells #[] 3)).heap[w.heap.size]?=some (.cells #[.slice none 0 0] 22 (0,0)):=(Below.heap_alloc w2 _ _ (by omega)).trans hb0
 have hss:(w2.alloc (.cells #[] 3)).heap.size=w2.heap.size+1:=by simp[go_sem]
 refine (zQ9 ⟨w.heap.size,0,none⟩ a c (.slice none 0 0) w2 (by simp[World.cell?,ha0]) (by simp[World.frozen?,ha0])).mono ?_
 rintro e u' w3 ⟨rfl,rfl,rfl⟩
 have hone:=one_setCell (u:=.slice (some ⟨w2.heap.size,0,none⟩) 0 0) ha0
 have hs3:((w2.alloc (.cells #[] 3)).setCell ⟨w.heap.size,0,none⟩ (.slice (some ⟨w2.heap.size,0,none⟩) 0 0)).heap.size=w2.heap.size+1:=by rw[←hss];simp[World.setCell]
 have hne:∀b,b≠w.heap.size→b<w2.heap.size→((w2.alloc (.cells #[] 3)).setCell ⟨w.heap.size,0,none⟩ (.slice (some ⟨w2.heap.size,0,none⟩) 0 0)).heap[b]?=w2.heap[b]?:=fun b hb hlt=>(Below.heap_setCell _ _ _ b hb).trans (Below.heap_alloc w2 _ _ hlt)
 refine ⟨rfl,rfl,.slice (some ⟨w2.heap.size,0,none⟩) 0 0,by simp[World.cell?,hone],?_⟩
 have hgl:Globs Z' ((w2.alloc (.cells #[] 3)).setCell ⟨w.heap.size,0,none⟩ (.slice (some ⟨w2.heap.size,0,none⟩) 0 0)):=i2.glob.keep (fun _ h=>h) (fun b hb=>hne b (fun e=>hz0 (e▸hb)) (i2.zlt b hb))
 refine ⟨_,.v (.slice (some ⟨w2.heap.size,0,none⟩) 0 0),[],Z',[],fun _=>[],[],rfl,⟨rfl,_,rfl⟩,rfl,HInv.empty (fun b hb=>by rw[hs3];have:=i2.zlt b hb;omega) hgl,by simp only[RV];exact ⟨trivial,trivial⟩,by simp,by simp,by simp,GLe.refl _,?_⟩
 refine ⟨?_,?_,?_,?_,?_,fun b hb=>E2.zle b hb,?_,by simp⟩
 ·exact E2.os.trans rfl
 ·exact E2.tape.trans rfl
 ·exact E2.output.trans rfl
 ·rw[hs3];omega
 ·intro b hb _
  rw[hne b (by omega) (by omega),hk b (by omega),hR.old b hb]
 ·intro b hb
  rcases E2.znew b hb with h | h | ⟨id,h⟩
  ·exact .inl h
  ·exact .inr (.inl (by omega))
  ·simp at h
theorem z1Q {P:Program} {f:FuncId} {fn:Func} (hf:P.funcs[f]?=some fn) (hb:fn.body.isSome=true) (hn:(fn.name == "runtime.NumGoroutine")=false) (vals:Array Value) (w:World):(callFunc f vals).run P w=.ok (.enter f vals) w:=by
 obtain ⟨c,hc⟩:=Option.isSome_iff_exists.1 hb
 have hne:¬fn.name = "runtime.NumGoroutine" :=by simpa using hn
 simp[callFunc,hf,hne,hc]
theorem zSq (l:List (List Int)) (m:Nat) (all:List Int) (ok:TryOk l m all []):HCalls Tryz.prog 114 [] [.sl (ints all),.v (.int .i64 m),.sl (rws l)] (fun x H'=>H'=[]∧match tryF l m all [] with
  | none=>x=.v (.slice none 0 0)
  | some r=>(r=[]∧∃a,x=.v (.slice (some a) 0 0))∨(r≠[]∧x=.sl (ints r))):=by
 refine ⟨z1Q (fn:=Tryz.f114) rfl rfl (by kernel_rfl),fun Z G FP w vals hi ha=>?_⟩
 obtain rfl:G=[]:=List.length_eq_zero_iff.1 hi.len
 simp only[RL] at ha
 obtain ⟨v0,_,f1,f2,rfl,hf,h0,v1,_,f3,f4,rfl,hf2,h1,v2,_,f5,f6,rfl,hf3,h2,rfl,hf4⟩:=ha
 obtain ⟨rfl,rfl⟩:=List.append_eq_nil_iff.1 hf.symm
 obtain ⟨rfl,rfl⟩:=List.append_eq_nil_iff.1 hf2.symm
 obtain ⟨rfl,_⟩:=List.append_eq_nil_iff.1 hf3.symm
 have e1:=RV_v h1
 subst e1
 cases ht:tryF l m all [] with
 | none=>exact zYe ok ht hi h0 h2
 | some r =>
  by_cases hr:r=[]
  ·subst hr
   refine Calls.mono (zYf ok ht hi h0 h2) ?_
   rintro e w' ⟨v,r,H',Z',G',FP',fr,he,⟨h1,h2⟩,rest⟩
   exact ⟨v,r,H',Z',G',FP',fr,he,⟨h1,.inl ⟨rfl,h2⟩⟩,rest⟩
  ·have hrl:r.length≤200000:=by
    obtain ⟨_,s,e,hs,hsub⟩:=zDl l m all [] r ht
    rw[List.nil_append] at e
    subst e
    have:=hsub.length_le
    have:=ok.all
    omega
   refine Calls.mono (zYd ok ht hr hrl hi h0 h2) ?_
   rintro e w' ⟨v,r,H',Z',G',FP',fr,he,⟨h1,h2⟩,rest⟩
   exact ⟨v,r,H',Z',G',FP',fr,he,⟨h1,.inr ⟨hr,h2⟩⟩,rest⟩
end Go.Proofs.YtoknohandclcbaaGreat
namespace Go.Proofs.YtoknohandclcbaaGreat
open Go.RowKit
def zUn:List HV→List HV→Prop
 | [],[]=>True
 | x::xs,y::ys=>Conv x y∧zUn xs ys
 | _,_=>False
theorem zIy {Z:Nat→Prop} {G:List (Option OG)} {w:World}:∀{xs xs' : List HV},zUn xs xs'→∀{ys:List Value},RL Z G w xs ys []→RL Z G w xs' ys []
 | [],[],_,ys,h=>h
 | x::xs,x'::xs',hc,ys,h=>by
  simp only[RL] at h⊢
  obtain ⟨y,ys',f1,f2,rfl,e,hv,hl⟩:=h
  obtain ⟨rfl,rfl⟩:=List.append_eq_nil_iff.1 e.symm
  exact ⟨y,ys',[],[],rfl,rfl,hc.1 _ _ _ _ hv,zIy hc.2 hl⟩
 | [],_::_,hc,_,_=>hc.elim
 | _::_,[],hc,_,_=>hc.elim
theorem Conv.refl (x:HV):Conv x x:=fun _ _ _ _ h=>h
theorem Conv.ag {xs ys:List HV} (h:zUn xs ys):Conv (.ag xs) (.ag ys):=fun Z G w y hv=>by
 rw[RV] at hv⊢
 obtain ⟨zs,rfl,hl⟩:=hv
 exact ⟨zs,rfl,zIy h hl⟩
theorem Conv.tu {xs ys:List HV} (h:zUn xs ys):Conv (.tu xs) (.tu ys):=fun Z G w y hv=>by
 rw[RV] at hv⊢
 obtain ⟨zs,rfl,hl⟩:=hv
 exact ⟨zs,rfl,zIy h hl⟩
theorem Conv.someSl (a:Addr):Conv (.v (.slice (some a) 0 0)) (.sl []):=fun Z G w y h=>by
 simp only[RV] at h⊢
 exact ⟨trivial,some a,0,h.2,Nat.le_refl _,by simp[maxLen],.inl trivial⟩
section
variable {P:Program}
theorem HCalls.plainQ {f:FuncId} {args:List HV} {Q:HV→Heap→Prop} {H:Heap} (h:HCalls P f [] args Q) (hnm:nmL 0 args=true):HCalls P f H args (fun r H'=>Q r []∧H'=H):=by
 refine ⟨h.1,fun Z G FP w vals hi ha=>?_⟩
 have ha' : RL Z [] w args vals []:=by
  have:=zAp args 0 G vals [] hnm ha
  simpa using this
 refine Calls.mono (h.2 Z [] _ w vals (HInv.empty hi.zlt hi.glob) ha') ?_
 rintro e w' ⟨v,r,H',Z',G',FP',fr,rfl,hq,hlen,hi',hr,hnd,hfr1,hfr2,hG,hE⟩
 have hk:∀b,b<w.heap.size→w'.heap[b]?=w.heap[b]?:=fun b hb=>hE.keep b hb (by simp)
 have hnew:∀b∈fr,w.heap.size≤b:=fun b hb=>by
  rcases hfr2 b hb with h | ⟨id,h⟩
  ·exact h
  ·simp at h
 have hznew:∀b,Z' b→Z b∨w.heap.size≤b:=fun b hb=>by
  rcases hE.znew b hb with h | h | ⟨id,h⟩
  ·exact .inl h
  ·exact .inr h
  ·simp at h
 have hH' : H'=[]:=List.eq_nil_of_length_eq_zero hlen
 subst hH'
 have hG' : G'=[]:=List.eq_nil_of_length_eq_zero hi'.len
 subst hG'
 refine ⟨v,r,H,Z',G,FP,fr,rfl,⟨hq,rfl⟩,rfl,?_,RV.keep (fun _ _=>rfl) (fun _ h=>h) (zBD G) r v fr (fun _ _=>rfl) hr,hnd,fun b hb=>?_,fun b hb=>.inl (hnew b hb),GLe.refl _,⟨hE.os,hE.tape,hE.output,hE.size,fun b hb _=>hk b hb,hE.zle,fun b hb=>?_,fun id b hb=>.inr ⟨id,hb⟩⟩⟩
 ·refine (hi.keep hE.size (fun b hb=>hk b (by
   rcases hb with hb | ⟨id,hb⟩
   ·exact hi.zlt b hb
   ·exact hi.flt id b hb))).zmore hE.zle hi'.zlt (fun id b hb hz=>?_)
  rcases hznew b hz with h | h
  ·exact hi.zfp id b hb h
  ·have:=hi.flt id b hb;omega
 ·refine ⟨(hfr1 b hb).1,(hfr1 b hb).2.1,fun id hc=>?_⟩
  have:=hi.flt id b hc;have:=hnew b hb;omega
 ·rcases hznew b hb with h | h
  ·exact .inl h
  ·exact .inr (.inl h)
end
section
variable {P:Program} {k:List Item→KS} {all l:List Oper} {d:Option Nat} {r:List Item} {T:Nat→HV} {H:Heap}
theorem zUV {fid:Nat} {args args' : List HV} {Q:HV→Heap→Prop} (spec:HCalls P fid [] args' Q) (hargs:args=args') (hnm:nmL 0 args=true) (h:∀x,Q x []→k (.ops all l::r) (updO T d (zAH x H).1) (zAH x H).2):zFY k P fid H args all d l r T:=by
 subst hargs
 exact ⟨_,HCalls.plainQ spec hnm,fun x H' hx _=>by obtain ⟨hq,rfl⟩:=hx;exact h x hq⟩
end
theorem HCalls.hdGive {P:Program} {f:FuncId} {H:Heap} {k n:Nat} {ob:HObj} {pre post:List HV} {Q:HV→Heap→Prop} (h:HCalls P f [] (pre++.sl (fzoR ob.rows)::post) Q) (hn:nmL 0 (pre++.sl (fzoR ob.rows)::post)=true) (ho:H[k]?=some (some ob)) (hl:n=ob.rows.length):HCalls P f H (pre++.hd k 0 n::post) (fun r H'=>Q r []∧H'=H.set k none):=by
 refine ⟨h.1,fun Z G FP w vals hi ha=>?_⟩
 have hk:=hi.freeze k
 rw[zZ] at ha
 obtain ⟨y1,y2,f1,f2,rfl,hf,ha1,ha2⟩:=ha
 obtain ⟨rfl,rfl⟩:=List.append_eq_nil_iff.1 hf.symm
 simp only[RL] at ha2
 obtain ⟨y,ys,f1,f2,rfl,hf2,h0,h2⟩:=ha2
 obtain ⟨rfl,rfl⟩:=List.append_eq_nil_iff.1 hf2.symm
 have hsl:RV (Zid Z FP k) (G.set k none) w (.sl (fzoR ob.rows)) y []:=by
  obtain ⟨g,hg,hOB,hV⟩:=zEK hi ho (by omega) h0
  unfold View at hV
  rw[RV]
  cases hb:g.blk with
  | none =>
   rw[hb] at hV
   obtain ⟨hy,_,h2⟩:=hV
   have hr:ob.rows=[]:=List.length_eq_zero_iff.1 (by omega)
   refine ⟨rfl,none,0,?_,?_,by simp[maxLen],.inl ?_⟩
   ·rw[hy,hr];rfl
   ·rw[hr];exact Nat.le_refl _
   ·rw[hr];rfl
  | some b =>
   rw[hb] at hV
   obtain ⟨ad,hy,ha⟩:=hV
   obtain ⟨b',cells,f,q1,q2,q3,q4,q5,q6,q7⟩:=hOB.cells_ hb
   rw[hb] at q1
   cases q1
   have ha':=ha (.inr rfl)
   refine ⟨rfl,some ad,g.cap,?_,by rw[zAZ];exact q5,q6,?_⟩
   ·rw[hy,zAZ,hl];rfl
   ·right
    refine ⟨b,0,by rw[ha',Nat.zero_mul],.inr (by rw[q2];simp),?_,?_⟩
    ·refine zBy (sz:=ob.sz) fun r hr=>?_
     rw[zBv] at hr
     obtain ⟨r',hr',rfl⟩:=List.mem_map.1 hr
     rw[zA0];exact hOB.len r' hr'
    ·exact zCN ob.rows G b 0 f ⟨fun b hb=>.inl hb,fun b hb=>.inr (by rw[q2];simp[hb])⟩ q7
 have hkeep:∀l ys,RL Z G w l ys []→RL (Zid Z FP k) (G.set k none) w l ys []:=fun l ys h=>RL.keep (fun _ _=>rfl) (fun b hb=>.inl hb) (GLe.kill k) l ys [] (by simp) h
 refine Calls.mono ((HCalls.plainQ h (H:=H.set k none) hn).2 _ _ _ w _ hk ((zZ _ _ _ _).2 ⟨y1,y::ys,[],[],rfl,rfl,hkeep _ _ ha1,by simp only[RL];exact ⟨y,ys,[],[],rfl,rfl,hsl,hkeep _ _ h2⟩⟩)) ?_
 rintro e w' ⟨v,r,H',Z',G',FP',fr,rfl,⟨hq,rfl⟩,hlen,hi',hr,hnd,hfr1,hfr2,hG,hE⟩
 refine ⟨v,_,_,Z',G',FP',fr,rfl,⟨hq,rfl⟩,by simp,hi',hr,hnd,hfr1,fun b hb=>?_,(GLe.kill k).trans hG,(zDH k).trans hE⟩
 rcases hfr2 b hb with h | ⟨id,h⟩
 ·exact .inl h
 ·by_cases e:id=k
  ·simp[e] at h
  ·simp only[e,if_false] at h
   exact .inr ⟨id,h⟩
theorem HCalls.convB {P:Program} {f:FuncId} {H:Heap} {args args' : List HV} {Q:HV→Heap→Prop} (h:HCalls P f H args' Q) (hc:zUn args args'):HCalls P f H args Q :=
 ⟨h.1,fun Z G FP w vals hi ha=>h.2 Z G FP w vals hi (zIy hc ha)⟩
end Go.Proofs.YtoknohandclcbaaGreat
