/- Parts of the proof: HiMq, HiMs, Na, Nb, HiZb. -/
import Derived.Test.YtmapdjdnnhlpiaaGreatDoorZr09
import Derived.Test.YtmapdjdnnhlpiaaGreatDoorZr08
import Derived.Test.YtmapdjdnnhlpiaaGreatDoorZr04
set_option linter.unusedSectionVars false
set_option linter.unusedVariables false
set_option linter.unusedSimpArgs false
namespace Go.Proofs.YtmapdjdnnhlpiaaGreatDoor
open Go.RowKit
section
variable {α:Type} [DecidableEq α]
theorem getM_setM' (kv:List (α×Int)) (k:α) (v:Int) (j:α):getM (setM kv k v) j=if j=k then v else getM kv j:=by
 induction kv with
 | nil =>
  simp only[setM,getM,List.find?_cons,List.find?_nil]
  by_cases h:j=k <;> simp[h]
 | cons e r ih =>
  unfold setM
  by_cases h:k=e.1
  ·rw[if_pos h]
   simp only[getM,List.find?_cons]
   by_cases h2:j=k
   ·simp[h2]
   ·simp[h2,h▸h2]
  ·rw[if_neg h]
   simp only[getM,List.find?_cons] at ih⊢
   by_cases h2:j=e.1
   ·have:j≠k:=fun e'=>h (by rw[←e',h2])
    simp[h2,h2▸this]
   ·simp only[h2,decide_false] at ih⊢
    exact ih
def foldC (kv:List (α×Int)) (l:List α):List (α×Int):=l.foldl (fun kv n=>setM kv n (getM kv n+1)) kv
theorem foldC_cons (kv:List (α×Int)) (x:α) (l:List α):foldC kv (x::l)=foldC (setM kv x (getM kv x+1)) l:=rfl
theorem getM_foldC (n:α):∀(g:List α) (kv:List (α×Int)),getM (foldC kv g) n=getM kv n+((g.filter fun x=>decide (x=n)).length:Int)
 | [],kv=>by simp[foldC]
 | x::g,kv=>by
  rw[foldC_cons,getM_foldC n g,getM_setM']
  by_cases h:n=x
  ·subst h;simp;omega
  ·simp[h,Ne.symm h]
theorem getM_nil' (n:α):getM ([]:List (α×Int)) n=0:=rfl
theorem getM_entM (kv:List (α×Int)) (k j:α):getM (entM kv k) j=getM kv j:=by
 unfold entM
 split
 ·rfl
 ·rename_i h
  unfold getM
  rw[List.find?_append]
  cases hf:kv.find? (fun e=>decide (j=e.1)) with
  | some e=>rfl
  | none =>
   simp only[List.find?_cons,List.find?_nil,Option.none_or]
   by_cases hj:j=k <;> simp[hj]
variable {kf:α→Value} (hk:∀x y,keq (kf x) (kf y)=some (decide (x=y)))
theorem findI_idx (k:α):∀(kv:List (α×Int)) (i:Nat),findI k kv i=if inM kv k=true then some (i+idxM kv k,.int .i64 (getM kv k)) else none
 | [],i=>by simp[findI,inM]
 | e::r,i=>by
  have ih:=findI_idx k r (i+1)
  by_cases h:k=e.1
  ·have h1:inM (e::r) k=true:=by simp[inM,h]
   have h2:idxM (e::r) k=0:=by simp[idxM,List.findIdx_cons,h]
   have h3:getM (e::r) k=e.2:=by simp[getM,h]
   rw[h1,h2,h3]
   simp[findI,h]
  ·have h1:inM (e::r) k=inM r k:=by simp[inM,h]
   have h2:idxM (e::r) k=idxM r k+1:=by simp[idxM,List.findIdx_cons,h]
   have h3:getM (e::r) k=getM r k:=by simp[getM,List.find?_cons,h]
   rw[h1,h2,h3]
   simp only[findI,if_neg h]
   rw[ih,show i+1+idxM r k=i+(idxM r k+1) by omega]
theorem idxM_lt {kv:List (α×Int)} {k:α} (h:inM kv k=true):idxM kv k<kv.length:=by
 unfold idxM inM at *
 exact List.findIdx_lt_length_of_exists (by simpa [List.any_eq_true] using h)
theorem idxM_no {kv:List (α×Int)} {k:α} (h:inM kv k=false):idxM kv k=kv.length:=by
 unfold idxM inM at *
 refine List.findIdx_eq_length.2 fun x hx=>?_
 have:=List.any_eq_false.1 h x hx
 simpa using this
theorem esL_born:∀(kv:List (α×Int)) (n i:Nat),i<kv.length→((esL kf n kv)[i]?).map (·.born)=some (n+i)
 | [],n,i,h=>by simp at h
 | e::r,n,0,h=>by simp[esL]
 | e::r,n,i+1,h=>by
  simp only[esL,List.getElem?_cons_succ]
  rw[esL_born r (n+1) i (by simpa using h)]
  congr 1;omega
theorem esL_modify_key (k:α):∀(kv:List (α×Int)) (n i:Nat),(kv[i]?).map (·.1)=some k→(esL kf n kv).modify i (fun e=>{ e with key:=kf k })=esL kf n kv
 | [],n,i,h=>by simp at h
 | e::r,n,0,h=>by
  simp only[List.getElem?_cons_zero,Option.map_some,Option.some.injEq] at h
  simp[esL,h]
 | e::r,n,i+1,h=>by
  simp only[List.getElem?_cons_succ] at h
  simp only[esL,List.modify_succ_cons]
  rw[esL_modify_key k r (n+1) i h]
theorem idxM_key {kv:List (α×Int)} {k:α} (h:inM kv k=true):(kv[idxM kv k]?).map (·.1)=some k:=by
 have hl:=idxM_lt h
 have:=List.findIdx_getElem (w:=(hl:kv.findIdx (fun e=>decide (k=e.1))<kv.length))
 rw[List.getElem?_eq_getElem hl]
 simp only[decide_eq_true_eq] at this
 simp only[Option.map_some,Option.some.injEq]
 exact this.symm
include hk
theorem entO_esG (k:α) (kv:List (α×Int)):entO (esG kf kv) kv.length (kf k) (.int .i64 0)=some (.int .i64 (getM kv k),idxM kv k,mapG kf (entM kv k)):=by
 unfold entO
 have e:(esG kf kv).toList=esL kf 0 kv:=by unfold esG;rw[List.toList_toArray]
 rw[e,findV_esL hk,findI_idx]
 cases h:inM kv k with
 | true =>
  simp only[if_true,Option.map_some,entV,entE,Nat.zero_add,entM,h]
  have h1:((esG kf kv)[idxM kv k]?).map (·.born)=some (idxM kv k):=by
   rw[←Array.getElem?_toList,e,esL_born kv 0 _ (idxM_lt h),Nat.zero_add]
  rw[h1]
  have h2:(esG kf kv).modify (idxM kv k) (fun e=>{ e with key:=kf k })=esG kf kv:=by
   apply Array.ext'
   rw[Array.toList_modify,e,esL_modify_key k kv 0 _ (idxM_key h)]
  rw[h2];rfl
 | false =>
  have hg:getM kv k=0:=by
   unfold getM
   rw[List.find?_eq_none.2 fun x hx=>by
    have:=List.any_eq_false.1 h x hx
    simpa using this]
   rfl
  simp only[Bool.false_eq_true,if_false,Option.map_some,Option.map_none,entV,entE,entM,h,hg,idxM_no h]
  have:(esG kf kv).push ⟨kf k,.int .i64 0,kv.length⟩=esG kf (kv++[(k,0)]):=by
   apply Array.ext'
   simp[esG,esL_append,esL]
  rw[this]
  unfold mapG
  simp
omit hk
theorem esL_find:∀(kv:List (α×Int)) (n i:Nat),i<kv.length→(esL kf n kv).findIdx? (fun e=>((e.born:Int) == ((n+i:Nat):Int)))=some i
 | [],n,i,h=>by simp at h
 | e::r,n,0,h=>by simp[esL,List.findIdx?_cons]
 | e::r,n,i+1,h=>by
  simp only[esL,List.findIdx?_cons]
  have:((n:Int) == ((n+(i+1):Nat):Int))=false:=by
   rw[beq_eq_false_iff_ne];omega
  rw[this]
  have ih:=esL_find r (n+1) i (by simpa using h)
  rw[show n+1+i=n+(i+1) by omega] at ih
  simp only[Bool.false_eq_true,if_false]
  rw[ih];rfl
theorem esL_store (k:α) (v:Int):∀(kv:List (α×Int)) (n:Nat),inM kv k=true→(esL kf n kv).modify (idxM kv k) (fun e=>{ e with val:=.int .i64 v })=esL kf n (setM kv k v)
 | [],n,h=>by simp[inM] at h
 | e::r,n,h=>by
  unfold setM
  by_cases he:k=e.1
  ·have:idxM (e::r) k=0:=by unfold idxM;simp[List.findIdx_cons,he]
   rw[this,if_pos he]
   simp[esL,he]
  ·have:idxM (e::r) k=idxM r k+1:=by unfold idxM;simp[List.findIdx_cons,he]
   rw[this,if_neg he]
   simp only[esL,List.modify_succ_cons]
   rw[esL_store k v r (n+1) (by simpa [inM,he] using h)]
theorem setM_len {k:α} {v:Int}:∀{kv:List (α×Int)},inM kv k=true→(setM kv k v).length=kv.length
 | [],h=>by simp[inM] at h
 | e::r,h=>by
  unfold setM
  by_cases he:k=e.1
  ·rw[if_pos he];simp
  ·rw[if_neg he]
   simp only[List.length_cons]
   rw[setM_len (by simpa [inM,he] using h)]
theorem inM_entM (kv:List (α×Int)) (k:α):inM (entM kv k) k=true:=by
 unfold entM
 split
 ·assumption
 ·simp[inM]
theorem idxM_entM (kv:List (α×Int)) (k:α):idxM (entM kv k) k=idxM kv k:=by
 unfold entM
 split
 ·rfl
 ·rename_i h
  have h:inM kv k=false:=by simpa using h
  rw[idxM_no h]
  unfold idxM
  rw[List.findIdx_append]
  have h1:kv.findIdx (fun e=>decide (k=e.1))=kv.length:=idxM_no h
  rw[h1,if_neg (by omega)]
  simp
theorem setM_entM (kv:List (α×Int)) (k:α) (v:Int):setM (entM kv k) k v=setM kv k v:=by
 unfold entM
 split
 ·rfl
 ·rename_i h
  have h:inM kv k=false:=by simpa using h
  induction kv with
  | nil=>simp[setM]
  | cons e r ih =>
   simp only[inM,List.any_cons,Bool.or_eq_false_iff,decide_eq_false_iff_not] at h
   simp only[List.cons_append,setM,if_neg h.1]
   rw[ih (by unfold inM;rw[h.2];simp) h.2]
theorem stoO_esG (k:α) (v:Int) (kv:List (α×Int)):stoO (esG kf (entM kv k)) (entM kv k).length ((idxM kv k:Nat):Int) (.int .i64 v)=some (mapG kf (setM kv k v)):=by
 unfold stoO
 rw[←idxM_entM kv k,←setM_entM kv k]
 have hin:=inM_entM kv k
 generalize entM kv k=m at hin
 have e:(esG kf m).toList=esL kf 0 m:=by unfold esG;rw[List.toList_toArray]
 have h1:=esL_find (kf:=kf) m 0 (idxM m k) (idxM_lt hin)
 rw[Nat.zero_add] at h1
 have h3:(esG kf m).findIdx? (fun e=>((e.born:Int) == ((idxM m k:Nat):Int)))=some (idxM m k):=by
  rw[←h1,←e]
  obtain ⟨l⟩:=esG kf m
  simp
 rw[h3]
 simp only[Option.map_some,Option.some.injEq]
 unfold mapG
 rw[setM_len hin]
 have h2:(esG kf m).modify (idxM m k) (fun e=>{ e with val:=.int .i64 v })=esG kf (setM m k v):=by
  apply Array.ext'
  rw[Array.toList_modify,e,esL_store k v m 0 hin];simp[esG]
 rw[h2]
end
theorem entO_P {kv:List ((Int×Int)×Int)} {a b:Int}:entO (esG kP kv) kv.length (.agg #[.int .i64 a,.int .i64 b]) (.int .i64 0)=some (.int .i64 (getM kv (a,b)),idxM kv (a,b),mapP (entM kv (a,b))):=entO_esG (kf:=kP) (fun _ _=>keq_ag2) (a,b) kv
theorem entO_I {kv:List (Int×Int)} {a:Int}:entO (esG kI kv) kv.length (.int .i64 a) (.int .i64 0)=some (.int .i64 (getM kv a),idxM kv a,mapI (entM kv a)):=entO_esG (kf:=kI) (fun _ _=>keq_int) a kv
theorem stoO_P {kv:List ((Int×Int)×Int)} {k:Int×Int} {v:Int}:stoO (esG kP (entM kv k)) (entM kv k).length ((idxM kv k:Nat):Int) (.int .i64 v)=some (mapP (setM kv k v)):=stoO_esG k v kv
theorem stoO_I {kv:List (Int×Int)} {k:Int} {v:Int}:stoO (esG kI (entM kv k)) (entM kv k).length ((idxM kv k:Nat):Int) (.int .i64 v)=some (mapI (setM kv k v)):=stoO_esG k v kv
theorem getM_entP {kv:List ((Int×Int)×Int)} {k j:Int×Int}:getM (entM kv k) j=getM kv j:=getM_entM kv k j
theorem getM_entI {kv:List (Int×Int)} {k j:Int}:getM (entM kv k) j=getM kv j:=getM_entM kv k j
theorem nmR_mapI {kv:List (Int×Int)} {m:Nat}:nmR m (mapI kv).rows=true:=rfl
theorem nmR_mapP {kv:List ((Int×Int)×Int)} {m:Nat}:nmR m (mapP kv).rows=true:=rfl
attribute [go_sem] nmR_mapI nmR_mapP entO_P entO_I stoO_P stoO_I getM_entP getM_entI
end Go.Proofs.YtmapdjdnnhlpiaaGreatDoor
namespace Go.Proofs.YtmapdjdnnhlpiaaGreatDoor
open Go.RowKit
abbrev kS (x:List UInt8):Value:=str x
def mapS (kv:List (List UInt8×Int)):HObj:=mapG kS kv
theorem keq_strS (x y:List UInt8):keq (kS x) (kS y)=some (decide (x=y)):=rfl
theorem mapOf_S {kv:List (List UInt8×Int)}:mapOf (mapS kv)=some (esG kS kv,kv.length):=rfl
theorem lookV_S {kv:List (List UInt8×Int)} {k:List UInt8}:lookV (esG kS kv) (str k) (.int .i64 0)=some (.int .i64 (getM kv k),inM kv k):=lookV_esG (kf:=kS) keq_strS k kv
theorem putO_S {kv:List (List UInt8×Int)} {k:List UInt8} {v:Int}:putO (esG kS kv) kv.length (str k) (.int .i64 v)=some (mapS (setM kv k v)):=putO_esG (kf:=kS) keq_strS k v kv
theorem entO_S {kv:List (List UInt8×Int)} {a:List UInt8}:entO (esG kS kv) kv.length (str a) (.int .i64 0)=some (.int .i64 (getM kv a),idxM kv a,mapS (entM kv a)):=entO_esG (kf:=kS) keq_strS a kv
theorem stoO_S {kv:List (List UInt8×Int)} {k:List UInt8} {v:Int}:stoO (esG kS (entM kv k)) (entM kv k).length ((idxM kv k:Nat):Int) (.int .i64 v)=some (mapS (setM kv k v)):=stoO_esG k v kv
theorem getM_entS {kv:List (List UInt8×Int)} {k j:List UInt8}:getM (entM kv k) j=getM kv j:=getM_entM kv k j
theorem nmR_mapS {kv:List (List UInt8×Int)} {m:Nat}:nmR m (mapS kv).rows=true:=rfl
attribute [go_sem] nmR_mapS mapOf_S lookV_S putO_S entO_S stoO_S getM_entS
end Go.Proofs.YtmapdjdnnhlpiaaGreatDoor
namespace Go.Proofs.YtmapdjdnnhlpiaaGreatDoor
open Go.RowKit
set_option maxRecDepth 8000
structure Fl where
 name:List UInt8
 init:List (List UInt8×Int)
 thr:List (List LT)
 all:Bool
 cond:List AT
 deriving DecidableEq
def lnrow (x:LT):List HV:=[.v (.int .i64 x.op),.v (str x.rg),.v (str x.loc),.v (str x.lab),.v (.int .i64 x.n)]
def lns (l:List LT):List (List HV):=l.map lnrow
theorem lns_flat:Plain lnrow 5:=⟨fun _=>rfl,fun _=>rfl⟩
theorem lns_nil:lns []=[]:=rfl
theorem lns_append {a b:List LT}:lns a++lns b=lns (a++b):=by simp[lns]
theorem lns_length {l:List LT}:(lns l).length=l.length:=by simp[lns]
theorem lns_get {l:List LT} {i:Nat}:(lns l)[i]?=l[i]?.map lnrow:=by simp[lns]
theorem lns_drop {l:List LT} {i:Nat}:(lns l).drop i=lns (l.drop i):=by simp[lns,List.map_drop]
theorem lns_take {l:List LT} {i:Nat}:(lns l).take i=lns (l.take i):=by simp[lns,List.map_take]
theorem lns_rowsLen {l:List LT}:RowsLen (lns l) 5=True:=lns_flat.rowsLen l
theorem lns_tvs {l:List LT}:tvs (lns l).flatten=true:=lns_flat.tvs l
theorem lns_nmR {l:List LT} {m:Nat}:nmR m (lns l)=true:=lns_flat.nmR l
theorem lns_fz {l:List LT} {k:Nat} {H:Heap}:(lns l).map (fun r=>r.map (fz k H))=lns l:=lns_flat.fz l
theorem lns_fzoR {l:List LT}:fzoR (lns l)=lns l:=lns_flat.fzoR l
theorem lns_nzR {l:List LT}:nzR (lns l)=true:=vals_nzR (fun _=>rfl) l
attribute [go_sem] lns_nil lns_append lns_length lns_get lns_drop lns_take lns_rowsLen lns_tvs lns_nmR lns_fz lns_fzoR lns_nzR lnrow
def crow (x:List UInt8×Int):List HV:=[.v (str x.1),.v (.int .i64 x.2)]
def cls (l:List (List UInt8×Int)):List (List HV):=l.map crow
theorem cls_flat:Plain crow 2:=⟨fun _=>rfl,fun _=>rfl⟩
theorem cls_nil:cls []=[]:=rfl
theorem cls_append {a b:List (List UInt8×Int)}:cls a++cls b=cls (a++b):=by simp[cls]
theorem cls_length {l:List (List UInt8×Int)}:(cls l).length=l.length:=by simp[cls]
theorem cls_get {l:List (List UInt8×Int)} {i:Nat}:(cls l)[i]?=l[i]?.map crow:=by simp[cls]
theorem cls_drop {l:List (List UInt8×Int)} {i:Nat}:(cls l).drop i=cls (l.drop i):=by simp[cls,List.map_drop]
theorem cls_take {l:List (List UInt8×Int)} {i:Nat}:(cls l).take i=cls (l.take i):=by simp[cls,List.map_take]
theorem cls_rowsLen {l:List (List UInt8×Int)}:RowsLen (cls l) 2=True:=cls_flat.rowsLen l
theorem cls_tvs {l:List (List UInt8×Int)}:tvs (cls l).flatten=true:=cls_flat.tvs l
theorem cls_nmR {l:List (List UInt8×Int)} {m:Nat}:nmR m (cls l)=true:=cls_flat.nmR l
theorem cls_fz {l:List (List UInt8×Int)} {k:Nat} {H:Heap}:(cls l).map (fun r=>r.map (fz k H))=cls l:=cls_flat.fz l
theorem cls_fzoR {l:List (List UInt8×Int)}:fzoR (cls l)=cls l:=cls_flat.fzoR l
theorem cls_nzR {l:List (List UInt8×Int)}:nzR (cls l)=true:=vals_nzR (fun _=>rfl) l
attribute [go_sem] cls_nil cls_append cls_length cls_get cls_drop cls_take cls_rowsLen cls_tvs cls_nmR cls_fz cls_fzoR cls_nzR crow
def arow (x:AT):List HV:=[.v (.int .i64 x.th),.v (str x.nm),.v (.int .i64 x.n)]
def ats (l:List AT):List (List HV):=l.map arow
theorem ats_flat:Plain arow 3:=⟨fun _=>rfl,fun _=>rfl⟩
theorem ats_nil:ats []=[]:=rfl
theorem ats_append {a b:List AT}:ats a++ats b=ats (a++b):=by simp[ats]
theorem ats_length {l:List AT}:(ats l).length=l.length:=by simp[ats]
theorem ats_get {l:List AT} {i:Nat}:(ats l)[i]?=l[i]?.map arow:=by simp[ats]
theorem ats_drop {l:List AT} {i:Nat}:(ats l).drop i=ats (l.drop i):=by simp[ats,List.map_drop]
theorem ats_take {l:List AT} {i:Nat}:(ats l).take i=ats (l.take i):=by simp[ats,List.map_take]
theorem ats_rowsLen {l:List AT}:RowsLen (ats l) 3=True:=ats_flat.rowsLen l
theorem ats_tvs {l:List AT}:tvs (ats l).flatten=true:=ats_flat.tvs l
theorem ats_nmR {l:List AT} {m:Nat}:nmR m (ats l)=true:=ats_flat.nmR l
theorem ats_fz {l:List AT} {k:Nat} {H:Heap}:(ats l).map (fun r=>r.map (fz k H))=ats l:=ats_flat.fz l
theorem ats_fzoR {l:List AT}:fzoR (ats l)=ats l:=ats_flat.fzoR l
theorem ats_nzR {l:List AT}:nzR (ats l)=true:=vals_nzR (fun _=>rfl) l
attribute [go_sem] ats_nil ats_append ats_length ats_get ats_drop ats_take ats_rowsLen ats_tvs ats_nmR ats_fz ats_fzoR ats_nzR arow
def irow (x:Int):List HV:=[.v (.int .i64 x)]
def ints (l:List Int):List (List HV):=l.map irow
theorem ints_flat:Plain irow 1:=⟨fun _=>rfl,fun _=>rfl⟩
theorem ints_nil:ints []=[]:=rfl
theorem ints_append {a b:List Int}:ints a++ints b=ints (a++b):=by simp[ints]
theorem ints_length {l:List Int}:(ints l).length=l.length:=by simp[ints]
theorem ints_get {l:List Int} {i:Nat}:(ints l)[i]?=l[i]?.map irow:=by simp[ints]
theorem ints_drop {l:List Int} {i:Nat}:(ints l).drop i=ints (l.drop i):=by simp[ints,List.map_drop]
theorem ints_take {l:List Int} {i:Nat}:(ints l).take i=ints (l.take i):=by simp[ints,List.map_take]
theorem ints_rowsLen {l:List Int}:RowsLen (ints l) 1=True:=ints_flat.rowsLen l
theorem ints_tvs {l:List Int}:tvs (ints l).flatten=true:=ints_flat.tvs l
theorem ints_nmR {l:List Int} {m:Nat}:nmR m (ints l)=true:=ints_flat.nmR l
theorem ints_fz {l:List Int} {k:Nat} {H:Heap}:(ints l).map (fun r=>r.map (fz k H))=ints l:=ints_flat.fz l
theorem ints_fzoR {l:List Int}:fzoR (ints l)=ints l:=ints_flat.fzoR l
theorem ints_nzR {l:List Int}:nzR (ints l)=true:=vals_nzR (fun _=>rfl) l
attribute [go_sem] ints_nil ints_append ints_length ints_get ints_drop ints_take ints_rowsLen ints_tvs ints_nmR ints_fz ints_fzoR ints_nzR irow
def tdrow (x:List LT):List HV:=[.sl (lns x)]
def tds (l:List (List LT)):List (List HV):=l.map tdrow
theorem tds_flat:Plain tdrow 1:=⟨fun _=>rfl,fun _=>rfl⟩
theorem tds_nil:tds []=[]:=rfl
theorem tds_snoc {l:List (List LT)} {x:(List LT)}:tds l++[tdrow x]=tds (l++[x]):=by simp[tds]
theorem tds_append {a b:List (List LT)}:tds a++tds b=tds (a++b):=by simp[tds]
theorem tds_length {l:List (List LT)}:(tds l).length=l.length:=by simp[tds]
theorem tds_get {l:List (List LT)} {i:Nat}:(tds l)[i]?=l[i]?.map tdrow:=by simp[tds]
theorem tds_drop {l:List (List LT)} {i:Nat}:(tds l).drop i=tds (l.drop i):=by simp[tds,List.map_drop]
theorem tds_take {l:List (List LT)} {i:Nat}:(tds l).take i=tds (l.take i):=by simp[tds,List.map_take]
theorem tds_rowsLen {l:List (List LT)}:RowsLen (tds l) 1=True:=tds_flat.rowsLen l
theorem tds_tvs {l:List (List LT)}:tvs (tds l).flatten=true:=tds_flat.tvs l
theorem tds_nmR {l:List (List LT)} {m:Nat}:nmR m (tds l)=true:=tds_flat.nmR l
theorem tds_fz {l:List (List LT)} {k:Nat} {H:Heap}:(tds l).map (fun r=>r.map (fz k H))=tds l:=tds_flat.fz l
theorem tds_fzoR {l:List (List LT)}:fzoR (tds l)=tds l:=tds_flat.fzoR l
attribute [go_sem] tds_nil tds_append tds_length tds_get tds_drop tds_take tds_rowsLen tds_tvs tds_nmR tds_fz tds_fzoR tdrow
abbrev fileH (f:Fl):HV:=.ag [.v (str f.name),.sl (cls f.init),.sl (tds f.thr),.v (.bool f.all),.sl (ats f.cond)]
def noFl:Fl:=⟨[],[],[],false,[]⟩
theorem lns_snocL {l:List LT} {a:Int} {b c d:List UInt8} {e:Int}:lns l++[[.v (.int .i64 a),.v (str b),.v (str c),.v (str d),.v (.int .i64 e)]]=lns (l++[⟨a,b,c,d,e⟩]):=by simp[lns,lnrow]
theorem cls_snocL {l:List (List UInt8×Int)} {a:List UInt8} {b:Int}:cls l++[[.v (str a),.v (.int .i64 b)]]=cls (l++[(a,b)]):=by simp[cls,crow]
theorem ats_snocL {l:List AT} {a:Int} {b:List UInt8} {c:Int}:ats l++[[.v (.int .i64 a),.v (str b),.v (.int .i64 c)]]=ats (l++[⟨a,b,c⟩]):=by simp[ats,arow]
theorem ints_snocL {l:List Int} {x:Int}:ints l++[[.v (.int .i64 x)]]=ints (l++[x]):=by simp[ints,irow]
def lwrow (x:List Int):List HV:=[.sl (ints x)]
def lws (l:List (List Int)):List (List HV):=l.map lwrow
theorem lws_flat:Plain lwrow 1:=⟨fun _=>rfl,fun _=>rfl⟩
theorem lws_nil:lws []=[]:=rfl
theorem lws_snoc {l:List (List Int)} {x:(List Int)}:lws l++[lwrow x]=lws (l++[x]):=by simp[lws]
theorem lws_append {a b:List (List Int)}:lws a++lws b=lws (a++b):=by simp[lws]
theorem lws_length {l:List (List Int)}:(lws l).length=l.length:=by simp[lws]
theorem lws_get {l:List (List Int)} {i:Nat}:(lws l)[i]?=l[i]?.map lwrow:=by simp[lws]
theorem lws_drop {l:List (List Int)} {i:Nat}:(lws l).drop i=lws (l.drop i):=by simp[lws,List.map_drop]
theorem lws_take {l:List (List Int)} {i:Nat}:(lws l).take i=lws (l.take i):=by simp[lws,List.map_take]
theorem lws_rowsLen {l:List (List Int)}:RowsLen (lws l) 1=True:=lws_flat.rowsLen l
theorem lws_tvs {l:List (List Int)}:tvs (lws l).flatten=true:=lws_flat.tvs l
theorem lws_nmR {l:List (List Int)} {m:Nat}:nmR m (lws l)=true:=lws_flat.nmR l
theorem lws_fz {l:List (List Int)} {k:Nat} {H:Heap}:(lws l).map (fun r=>r.map (fz k H))=lws l:=lws_flat.fz l
theorem lws_fzoR {l:List (List Int)}:fzoR (lws l)=lws l:=lws_flat.fzoR l
attribute [go_sem] lws_nil lws_append lws_length lws_get lws_drop lws_take lws_rowsLen lws_tvs lws_nmR lws_fz lws_fzoR lwrow
attribute [go_sem] lns_snocL cls_snocL ats_snocL ints_snocL
end Go.Proofs.YtmapdjdnnhlpiaaGreatDoor
namespace Go.Proofs.YtmapdjdnnhlpiaaGreatDoor
open Go.RowKit
set_option maxRecDepth 8000
def ltS (a b:List UInt8):Bool:=Op.bytesLess a b
def leS (a b:List UInt8):Bool:=Op.bytesLess a b || decide (a=b)
section
variable {P:Program}
theorem binRes_slss {t:TypeId} {c:Bool} {a b:List UInt8}:binRes P .lss t c (.v (str a)) (.v (str b))=some (.bool (ltS a b)):=rfl
theorem binRes_sleq {t:TypeId} {c:Bool} {a b:List UInt8}:binRes P .leq t c (.v (str a)) (.v (str b))=some (.bool (leS a b)):=rfl
end
theorem keyIs_strS {x:List UInt8}:keyIs Tryz.prog 9 (str x)=True:=eq_true (show kindIs Tryz.prog 9 4=true by kernel_rfl)
theorem keqS {x:List UInt8}:(keq (str x) (str x)=some true)=True:=by rw[show keq (str x) (str x)=some (decide (x=x)) from rfl];simp
attribute [go_sem] binRes_slss binRes_sleq keyIs_strS keqS
section
variable {α:Type} [DecidableEq α]
theorem foldC_snoc (kv:List (α×Int)) (l:List α) (x:α):foldC kv (l++[x])=setM (foldC kv l) x (getM (foldC kv l) x+1):=by simp[foldC,List.foldl_append]
theorem getM_foldC0 (l:List α) (x:α):0≤getM (foldC [] l) x∧getM (foldC [] l) x≤l.length:=by
 rw[getM_foldC,getM_nil']
 have:=List.length_filter_le (fun y=>decide (y=x)) l
 omega
theorem setM_keys (k:α) (v:Int) (x:α):∀kv:List (α×Int),x∈(setM kv k v).map (·.1)↔x∈kv.map (·.1)∨x=k
 | []=>by simp[setM]
 | e::r=>by
  unfold setM
  split
  ·rename_i h;subst h;simp;grind
  ·have:=setM_keys k v x r
   simp only[List.map_cons,List.mem_cons,this]
   grind
theorem setM_nodup (k:α) (v:Int):∀kv:List (α×Int),(kv.map (·.1)).Nodup→((setM kv k v).map (·.1)).Nodup
 | [],_=>by simp[setM]
 | e::r,h=>by
  simp only[List.map_cons,List.nodup_cons] at h
  unfold setM
  split
  ·rename_i hk;subst hk;simpa using h
  ·rename_i hk
   simp only[List.map_cons,List.nodup_cons]
   refine ⟨fun hm=>?_,setM_nodup k v r h.2⟩
   rcases (setM_keys k v e.1 r).1 hm with h1 | h1
   ·exact h.1 h1
   ·exact hk h1.symm
theorem foldC_nodup:∀(l:List α) (kv:List (α×Int)),(kv.map (·.1)).Nodup→((foldC kv l).map (·.1)).Nodup
 | [],_,h=>h
 | x::l,kv,h=>by rw[foldC_cons];exact foldC_nodup l _ (setM_nodup x _ kv h)
theorem foldC_keys (x:α):∀(l:List α) (kv:List (α×Int)),x∈(foldC kv l).map (·.1)↔x∈kv.map (·.1)∨x∈l
 | [],kv=>by simp[foldC]
 | y::l,kv=>by
  rw[foldC_cons,foldC_keys x l,setM_keys]
  simp only[List.mem_cons]
  grind
theorem setM_len_le' (k:α) (v:Int):∀kv:List (α×Int),(setM kv k v).length≤kv.length+1
 | []=>by simp[setM]
 | e::r=>by
  unfold setM
  split
  ·simp
  ·have:=setM_len_le' k v r
   simp;omega
theorem foldC_len:∀(l:List α) (kv:List (α×Int)),(foldC kv l).length≤kv.length+l.length
 | [],kv=>by simp[foldC]
 | y::l,kv=>by
  rw[foldC_cons]
  have h1:=foldC_len l (setM kv y (getM kv y+1))
  have h2:=setM_len_le' y (getM kv y+1) kv
  simp only[List.length_cons];omega
end
def labN (s:List UInt8) (l:List LT):Nat:=(l.filter fun x=>decide (x.op=11) && decide (x.lab=s)).length
def mrkN (l:List LT):Nat:=(l.filter fun x=>decide (x.op=11)).length
def fenN (l:List LT):Nat:=(l.filter fun x=>decide (x.op=6)).length
def insN (l:List LT):Nat:=(l.filter fun x=>decide (x.op≠6) && decide (x.op≠11)).length
def fenB (l:List LT):Bool:=match l.getLast? with | some x=>decide (x.op=6) | none=>false
def lineE (a:List LT) (x:LT) (b:List LT):Int :=
 if x.right=false then 11
 else if x.op=11∧0<labN x.lab a then 21
 else if x.op=6∧fenB a=true then 23
 else if 8≤x.op∧x.op≤10∧labN x.lab b=0 then 22
 else if (x.op≠6∧x.op≠11∧8≤insN a)∨(x.op=11∧8≤mrkN a) then 5
 else 0
def thrE (a:List LT):List LT→Option (Nat×Int)
 | []=>none
 | x::b=>if lineE a x b=0 then thrE (a++[x]) b else some (a.length,lineE a x b)
def iniE (last:List UInt8):List (List UInt8×Int)→Int
 | []=>0
 | c::r=>if nameB c.1=false then 22 else if leS c.1 last=true then 21 else iniE c.1 r
def headE (f:Fl):Int :=
 if nameB f.name=false then 22
 else if iniE [] f.init≠0 then iniE [] f.init
 else if f.thr.length<1∨3<f.thr.length then 5 else 0
def conE (n i:Nat):List AT→Option (Nat×Int)
 | []=>none
 | a::r=>if 6≤i then some (i,5) else if askedB a.th a.nm=false then some (i,1) else if (n:Int)≤a.th then some (i,22) else conE n (i+1) r
def locL (f:Fl):List (List UInt8) :=
 f.init.map (·.1)++(f.thr.flatMap fun l=>(l.map (·.loc)).filter fun s=>decide (s≠[]))++((f.cond.filter fun a=>decide (a.th = -1)).map (·.nm))
end Go.Proofs.YtmapdjdnnhlpiaaGreatDoor
namespace Go.Proofs.YtmapdjdnnhlpiaaGreatDoor
open Go.RowKit
section
variable {P:Program} {H:Heap}
theorem rop_congr {T T' : Nat→HV} {op:Op} (h:∀x∈op.operands.toList,hev T x=hev T' x):rop P T H op=rop P T' H op:=by
 have h1:∀x,x∈op.operands→hev T x=hev T' x:=fun x hx=>h x (by simpa using hx)
 clear h
 unfold rop
 split <;> simp only[Op.operands,Call.operands] at h1
 case h_6 t parts =>
  have e:parts.toList.map (fun p=>(p.1,hev T p.2))=parts.toList.map (fun p=>(p.1,hev T' p.2)):=by
   apply List.map_congr_left
   intro p hp
   rw[h1 p.2 (by simp;exact ⟨p.1,by simpa using hp⟩)]
  simp only[e]
 case h_7 t len parts =>
  have hp:∀p∈parts.toList,hev T p.2=hev T' p.2:=fun p hp=>h1 p.2 (by simp;exact ⟨p.1,by simpa using hp⟩)
  have e1:∀n (l:List (Nat×Operand)),(∀p∈l,hev T p.2=hev T' p.2)→PartsOk T n l=PartsOk T' n l:=by
   intro n l
   induction l with
   | nil=>intro _;rfl
   | cons p l ih =>
    intro hp
    simp only[PartsOk]
    rw[hp p (by simp),ih (fun q hq=>hp q (by simp[hq]))]
  have e2:parts.toList.map (fun p=>cellsH (hev T p.2))=parts.toList.map (fun p=>cellsH (hev T' p.2)):=by
   apply List.map_congr_left
   intro p hq
   rw[hp p hq]
  simp only[rbuildSlice,e2,e1 _ _ hp]
 case h_15 f first cs =>
  split
  ·have e:cs.toList.map (hev T)=cs.toList.map (hev T'):=hevs_congr fun x hx=>h1 x (by simp;simpa using hx)
   simp only[e]
  ·rename_i y
   have e:cs.toList.map (hev T)=cs.toList.map (hev T'):=hevs_congr fun x hx=>h1 x (by simp;exact .inr (by simpa using hx))
   simp only[e,h1 y (by simp)]
  ·rfl
 case h_19 t x lo hi _ _ =>
  have e1:lo.map (hev T)=lo.map (hev T'):=by cases lo with
   | none=>rfl
   | some y=>simp only[Option.map_some,h1 y (by simp)]
  have e2:hi.map (hev T)=hi.map (hev T'):=by cases hi with
   | none=>rfl
   | some y=>simp only[Option.map_some,h1 y (by simp)]
  simp only[e1,e2,h1 x (by simp)]
 all_goals first
  | rfl
  | (rename_i x;simp only[h1 x (by simp)];done)
  | (rename_i x _;simp only[h1 x (by simp)];done)
  | (rename_i x y _;simp only[h1 x (by simp),h1 y (by simp)];done)
  | (rename_i x y;simp only[h1 x (by simp),h1 y (by simp)];done)
  | (rename_i x y z;simp only[h1 x (by simp),h1 y (by simp),h1 z (by simp)];done)
  | (rename_i x y _ _;simp only[h1 x (by simp),h1 y (by simp)];done)
  | (rename_i x y z;simp only[h1 y (by simp),h1 z (by simp)];done)
  | (rename_i t x y;simp only[h1 x (by simp),h1 y (by simp)];done)
section step
variable {N L:Nat} {k:List Item→KS} {all l:List Oper} {r:List Item} {T T' : Nat→HV} {o:Oper} {B:Nat} {Z:Nat→Prop} {G:List (Option OG)} {FP:Nat→List Nat} {ds:List Nat} {a:Act} {w:World} {ro:Option Nat} {mm:Nat}
theorem exO_step (hok:operOk N o=true) (hn:noDefer o=true) (hv:∀y∈o.op.operands.toList,hev T y=hev T' y) (h:exO k P all o.dst o.op l r T H) (hB:Bo ro B FP w) (hL:L≤G.length) (hs:St N B Z G FP ds T' H a w)
  {next:Act→World→Prop} {Q' : Exit→Act→World→Prop} (hK:∀x H' Z' G' FP' a' w',k (.ops all l::r) (updO T o.dst x) H'→St N B Z' G' FP' ds (updO T' o.dst x) H' a' w'→GLt L G G'→Evo Z FP w Z' FP' w'→next a' w') :
  o.wpIn (Wd ro) mm P a w next Q':=by
 have hnd:=noDefer_spec hn
 have hdst:∀i,o.dst=some i→i<N:=fun i hi=>by
  have:=hok;simp only[operOk,dstOk,hi,Bool.and_eq_true,decide_eq_true_eq] at this;exact this.1
 have fin:HO P N L o T' H (fun T2 H2=>∃x,T2=updO T' o.dst x∧k (.ops all l::r) (updO T o.dst x) H2)→o.wpIn (Wd ro) mm P a w next Q':=by
  intro hO
  refine hO ro mm B Z G FP ds a w hB hL hs next Q' ?_
  rintro a' w' ⟨T2,H2,Z',G',FP',⟨x,rfl,hk⟩,hs',hG',hE'⟩
  exact hK x H2 Z' G' FP' a' w' hk hs' hG' hE'
 unfold exO at h
 split at h
 ·rename_i f args tys hop
  have e1:hev T f=hev T' f:=hv f (by rw[hop];simp[Op.operands,Call.operands])
  have e2:args.toList.map (hev T)=args.toList.map (hev T'):=hevs_congr fun x hx=>hv x (by rw[hop];simp[Op.operands,Call.operands];exact .inr (by simpa using hx))
  unfold exCall at h
  split at h
  ·rename_i fid caps hf
   obtain ⟨Q',hc,hk⟩:=h
   exact fin (HO_call hop hok (e1▸hf) (e2▸hc) (fun r H' hq hl=>⟨_,rfl,hk r H' hq hl⟩))
  ·rename_i id hf
   obtain ⟨Kb,hc,hk⟩:=h
   exact fin (HO_yield hop hok (e1▸hf) (e2▸hc) (fun b H' hq hl=>⟨_,rfl,hk b H' hq hl⟩))
  ·exact h.elim
 ·rename_i rv name args tys hop
  have e1:hev T rv=hev T' rv:=hv rv (by rw[hop];simp[Op.operands,Call.operands])
  have e2:args.toList.map (hev T)=args.toList.map (hev T'):=hevs_congr fun x hx=>hv x (by rw[hop];simp[Op.operands,Call.operands];exact .inr (by simpa using hx))
  unfold exInv at h
  split at h
  ·rename_i t x hf
   unfold exInv2 at h
   split at h
   ·rename_i fid hm
    obtain ⟨Q',hc,hk⟩:=h
    exact fin (HO_invoke hop hok (e1▸hf) hm (e2▸hc) (fun r H' hq hl=>⟨_,rfl,hk r H' hq hl⟩))
   ·exact h.elim
  ·exact h.elim
 ·refine fin (HO_of_HR hnd hdst (HR_rop hok ?_))
  rw[←rop_congr hv]
  have h' : onR (rop P T H o.op) (fun x H'=>k (.ops all l::r) (updO T o.dst x) H'):=h
  cases hr:rop P T H o.op with
  | none=>rw[hr] at h';exact h'.elim
  | some q =>
   rw[hr] at h'
   obtain ⟨p,x,H'⟩:=q
   exact ⟨h'.1,x,rfl,h'.2⟩
theorem exG_step {j:Nat} (hall:all.all (dstOk N)=true) (hj:all[j]?=some o) (hok:operOk N o=true) (hn:noDefer o=true) (hT:∀t∈seenT all o,T t=T' t) (h:exG k P all o l r T H) (hB:Bo ro B FP w) (hL:L≤G.length) (hs:St N B Z G FP ds T' H a w)
  {next:Act→World→Prop} {Q' : Exit→Act→World→Prop} (hK:∀x H' Z' G' FP' a' w',k (.ops all l::r) (updO T o.dst x) H'→St N B Z' G' FP' ds (updO T' o.dst x) H' a' w'→GLt L G G'→Evo Z FP w Z' FP' w'→next a' w') :
  wpOpIn (Wd ro) mm P all.toArray Q' j next a w:=by
 have hdst:∀i,o.dst=some i→i<N:=fun i hi=>by
  have:=hok;simp only[operOk,dstOk,hi,Bool.and_eq_true,decide_eq_true_eq] at this;exact this.1
 have hv:=seen_hev hT
 unfold wpOpIn
 rw[List.getElem?_toArray,hj]
 dsimp only
 unfold exG at h
 split at h
 ·rename_i hg
  simp only[Region.wanted,hg,if_true]
  exact exO_step hok hn hv h hB hL hs hK
 ·rename_i i b hg
  unfold exB at h
  split at h
  ·rename_i t ht
   have eT:T t=T' t:=hT t (by unfold seenT;rw[hg];simp[ht])
   unfold exB2 at h
   split at h
   ·rename_i c hc
    have hy:yielded all.toArray a.tmps i=some c:=hs.yields hall (by rw[dstAt_gval ht,←eT];exact hc)
    have hw:Region.wanted o (yielded all.toArray a.tmps)=(c == b):=by
     simp only[Region.wanted,hg,hy]
     cases c <;> cases b <;> rfl
    rw[hw]
    by_cases hcb:c=b
    ·rw[if_pos (by simp[hcb])]
     exact exO_step hok hn hv (h.1 hcb) hB hL hs hK
    ·have hc' : c=(!b):=by cases c <;> cases b <;> simp_all
     rw[if_neg (by simp[hcb])]
     exact ⟨fun _ _=>trivial,hK _ _ _ _ _ _ _ (h.2 hc') (hs.drop o.dst hdst) (GLt.refl hL) (Evo.refl _ _ _)⟩
   ·rename_i ts hc
    have hy:yielded all.toArray a.tmps i=none:=hs.yieldsNo hall (by rw[dstAt_gval ht,←eT];exact hc)
    have hw:Region.wanted o (yielded all.toArray a.tmps)=false:=by
     simp only[Region.wanted,hg,hy]
     cases b <;> rfl
    rw[hw,if_neg (by simp)]
    exact ⟨fun _ _=>trivial,hK _ _ _ _ _ _ _ h (hs.drop o.dst hdst) (GLt.refl hL) (Evo.refl _ _ _)⟩
   ·exact h.elim
  ·exact h.elim
end step
def moveOf (o:Oper):Option (Nat×Operand) :=
 match o.guard,o.dst,o.op with
 | none,some d,.move x=>some (d,x)
 | none,some d,.assign x=>some (d,x)
 | _,_,_=>none
def srcOf:Operand→Option Nat
 | .tmp t=>some t
 | _=>none
def lateB (m:Nat) (all:List Oper) (i:Nat):Bool :=
 match (all[i]?).bind moveOf with
 | some (d,x)=>!decide (srcOf x=some d) && (all.zipIdx.all fun (o',j)=>!(decide (i<j) && decide (j<m)) || (match o'.dst with | some d'=>!decide (d'=d) && !decide (srcOf x=some d') | none=>true))
 | none=>false
def anyB2 (N m:Nat) (all:List Oper):Bool :=
 let bs:=befs all []
 (all.all fun o=>operOk N o && noDefer o) &&
 (all.zipIdx.all fun (o,j)=>(o.after.toList.all fun e=>!Region.binds .any e || decide (e.on<j)) &&
  (all.zipIdx.all fun (o',i)=>!decide (i<j) || (!((decide (m≤j) && !(decide (i<m) && lateB m all i)) || confB all o' o)) || mustB bs i j))
structure AnyOk2 (N m:Nat) (all:List Oper):Prop where
 base:AnyOk N all.length all
 tail:∀(i j:Nat) o' o,i<j→all[i]?=some o'→all[j]?=some o→m≤j→(m≤i∨lateB m all i=false)→mustB (befs all []) i j=true
theorem anyB2_spec {N m:Nat} {all:List Oper} (h:anyB2 N m all=true):AnyOk2 N m all:=by
 simp only[anyB2,Bool.and_eq_true] at h
 obtain ⟨h1,h2⟩:=h
 rw[List.all_eq_true] at h1 h2
 have mem:∀{j:Nat} {o:Oper},all[j]?=some o→(o,j)∈all.zipIdx:=fun {j o} hj=>by
  rw[List.mem_zipIdx_iff_getElem?];exact hj
 have key:∀(i j:Nat) o' o,i<j→all[i]?=some o'→all[j]?=some o→((decide (m≤j) && !(decide (i<m) && lateB m all i)) || confB all o' o)=true→mustB (befs all []) i j=true:=by
  intro i j o' o hij hi hj hc
  have:=h2 (o,j) (mem hj)
  simp only[Bool.and_eq_true,List.all_eq_true] at this
  have:=this.2 (o',i) (mem hi)
  simp only[hij,decide_true,Bool.not_true,Bool.false_or] at this
  rw[hc] at this
  simpa using this
 refine ⟨⟨fun j o hj=>?_,fun j o hj e he hb=>?_,fun i j o' o hij hi hj hc=>?_⟩,fun i j o' o hij hi hj hm hc=>?_⟩
 ·have:=h1 o (List.mem_of_getElem? hj)
  simpa using this
 ·have:=h2 (o,j) (mem hj)
  simp only[Bool.and_eq_true,List.all_eq_true] at this
  have:=this.1 e he
  simp only[hb,Bool.not_true,Bool.false_or,decide_eq_true_eq] at this
  exact this
 ·rcases hc with hc | hc
  ·have:=(List.getElem?_eq_some_iff.1 hj).1;omega
  ·exact key i j o' o hij hi hj (by rw[hc];simp)
 ·refine key i j o' o hij hi hj ?_
  rcases hc with hc | hc
  ·simp[hm,show ¬i<m by omega]
  ·simp[hm,hc]
structure Late (all:List Oper) (m:Nat) (listed:Array Bool) (T T' : Nat→HV):Prop where
 eq:∀t,(∀(i:Nat) d x,i<m→listed.getD i false=false→(all[i]?).bind moveOf=some (d,x)→d≠t)→T' t=T t
 mv:∀(i:Nat) d x,i<m→i<all.length→listed.getD i false=false→(all[i]?).bind moveOf=some (d,x)→T d=hev T x
section go
variable {N L m mm B:Nat} {ro:Option Nat} {all:List Oper} {Q:Exit→KS}
theorem moveOf_spec {o:Oper} {d:Nat} {x:Operand} (h:moveOf o=some (d,x)):o.guard=none∧o.dst=some d∧(o.op=.move x∨o.op=.assign x):=by
 unfold moveOf at h
 split at h
 ·cases h;exact ⟨by assumption,by assumption,.inl (by assumption)⟩
 ·cases h;exact ⟨by assumption,by assumption,.inr (by assumption)⟩
 ·cases h
theorem any_late (hA:AnyOk2 N m all) {Z0:Nat→Prop} {G0:List (Option OG)} {FP0:Nat→List Nat} {w0:World} {ds:List Nat}:∀(fuel:Nat) (k n:Nat) (listed:Array Bool) (T T' : Nat→HV) (H:Heap) (Z:Nat→Prop) (G:List (Option OG)) (FP:Nat→List Nat) (a:Act) (w:World),
  listed.size=all.length→left listed≤fuel→Closed all listed→m≤k→k≤all.length→(∀i,m≤i→i<all.length→(listed.getD i false=true↔i<k))→(∀i,i<m→i<all.length→listed.getD i false=false→lateB m all i=true)→
  Late all m listed T T'→ex P N L Q n [.ops all (all.drop k)] T H→Bo ro B FP w→St N B Z G FP ds T' H a w→GLt L G0 G→Evo Z0 FP0 w0 Z FP w→
  wpAnyIn (Wd ro) mm P .any all.toArray (Fin Q N L B Z0 G0 FP0 w0) fuel listed a w:=by
 intro fuel
 induction fuel with
 | zero =>
  intro k n listed T T' H Z G FP a w hsz hf hc hmk hk hl hlate hT hex hB hs hG hE
  have hall:=left_zero (Nat.le_zero.1 hf)
  have hno:Region.ready .any all.toArray listed=[]:=by
   rw[List.eq_nil_iff_forall_not_mem]
   intro i hi
   obtain ⟨h1,o,ho,_⟩:=mem_ready.1 hi
   rw[List.getElem?_toArray] at ho
   have hi':=(List.getElem?_eq_some_iff.1 ho).1
   have h2:=hall i (by omega)
   rw[Array.getD_eq_getD_getElem?,not_listed h1] at h2
   simp at h2
  refine ⟨hno,?_⟩
  have hkk:all.length≤k:=by
   rcases Nat.lt_or_ge k all.length with h | h
   ·have:=(hl k hmk h).1 (hall k (by omega));omega
   ·exact h
  rw[List.drop_eq_nil_of_le hkk] at hex
  have e:T'=T:=by
   funext t
   refine hT.eq t fun i d x hi hli hmo=>?_
   cases hx:all[i]? with
   | none=>rw[hx] at hmo;cases hmo
   | some o=>have:=(List.getElem?_eq_some_iff.1 hx).1;rw[hall i (by omega)] at hli;cases hli
  subst e
  match n,hex with
  | n+1,hex =>
   match n,hex with
   | n+1,hex=>exact ⟨T',H,Z,G,FP,ds,hex,hs,hG,hE⟩
 | succ fuel ih =>
  intro k n listed T T' H Z G FP a w hsz hf hc hmk hk hl hlate hT hex hB hs hG hE
  refine ⟨fun h0=>?_,fun i hi=>?_⟩
  ·
   have hall:∀i,i<all.length→listed.getD i false=true:=by
    intro i hi
    cases hx:listed.getD i false with
    | true=>rfl
    | false =>
     obtain ⟨j,⟨hj1,hj2⟩,hjl⟩:=exists_least (p:=fun i=>i<all.length∧listed.getD i false=false) ⟨i,hi,hx⟩
     have:=ready_least hA.base hsz hj1 hj2 (fun q hq=>by
      cases hy:listed.getD q false with
      | true=>rfl
      | false=>have:=hjl q ⟨by omega,hy⟩;omega)
     rw[h0] at this;simp at this
   have hkk:all.length≤k:=by
    rcases Nat.lt_or_ge k all.length with h | h
    ·have:=(hl k hmk h).1 (hall k (by omega));omega
    ·exact h
   rw[List.drop_eq_nil_of_le hkk] at hex
   have e:T'=T:=by
    funext t
    refine hT.eq t fun i d x hi hli hmo=>?_
    cases hx:all[i]? with
    | none=>rw[hx] at hmo;cases hmo
    | some o=>have:=(List.getElem?_eq_some_iff.1 hx).1;rw[hall i (by omega)] at hli;cases hli
   subst e
   match n,hex with
   | n+1,hex =>
    match n,hex with
    | n+1,hex=>exact ⟨T',H,Z,G,FP,ds,hex,hs,hG,hE⟩
  ·obtain ⟨h1,o,ho,ha⟩:=mem_ready.1 hi
   rw[List.getElem?_toArray] at ho
   have hil:=(List.getElem?_eq_some_iff.1 ho).1
   have hnl:=not_listed h1
   have hnf:listed.getD i false=false:=by rw[Array.getD_eq_getD_getElem?,hnl];rfl
   obtain ⟨hok,hnd⟩:=hA.base.ok i o ho
   have hadd:=left_add hnl
   have hcl:=closed_add (i:=i) hc (fun o' ho' e he hb=>by rw[ho] at ho';cases ho';exact ha e (by simpa using he) hb)
   have hdall:all.all (dstOk N)=true:=by
    rw[List.all_eq_true]
    intro o' ho'
    obtain ⟨j',hj'⟩:=List.mem_iff_getElem?.1 ho'
    have:=(hA.base.ok j' o' hj').1
    simp only[operOk,Bool.and_eq_true] at this
    exact this.1
   by_cases him:i<m
   ·
    have hlt:=hlate i him hil hnf
    unfold lateB at hlt
    rw[ho] at hlt
    simp only[Option.bind_some] at hlt
    split at hlt
    ·rename_i d x hmo
     obtain ⟨hg,hd,hop⟩:=moveOf_spec hmo
     simp only[Bool.and_eq_true,Bool.not_eq_true',decide_eq_false_iff_not] at hlt
     have hTd:=hT.mv i d x him hil hnf (by rw[ho];exact hmo)
     have hopd:opdOk N x=true:=by
      rcases hop with hop | hop <;> exact opds_mem hok (by rw[hop];simp[Op.operands])
     have hsrc:hev T' x=hev T x:=by
      refine hev_congr fun t ht=>hT.eq t fun i' d' x' hi' hli' hmo' hdt=>?_
      subst hdt
      cases hx' : all[i']? with
      | none=>rw[hx'] at hmo';cases hmo'
      | some o' =>
       rw[hx'] at hmo'
       obtain ⟨_,hd',_⟩:=moveOf_spec (by simpa using hmo')
       have hseen:d'∈seenT all o:=by
        unfold seenT
        refine List.mem_append_left _ (List.mem_filterMap.2 ⟨x,?_,by rw[ht]⟩)
        rcases hop with hop | hop <;> rw[hop] <;> simp[Op.operands]
       rcases Nat.lt_trichotomy i' i with h' | h' | h'
       ·have:=ready_must hA.base hc hi (hA.base.ord i' i o' o h' hx' ho (.inr (by unfold confB;rw[hd'];simp[hseen])))
        rw[hli'] at this;cases this
       ·subst h'
        rw[ho] at hx';cases hx'
        rw[hd] at hd';cases hd'
        exact hlt.1 (by rw[ht];rfl)
       ·have hlt2:=List.all_eq_true.1 hlt.2 (o',i') (by rw[List.mem_zipIdx_iff_getElem?];exact hx')
        simp only[h',hi',decide_true,Bool.and_self,Bool.not_true,Bool.false_or,hd',Bool.and_eq_true,Bool.not_eq_true',decide_eq_false_iff_not] at hlt2
        exact hlt2.2 (by rw[ht];rfl)
     have hrun:wpOpIn (Wd ro) mm P all.toArray (Fin Q N L B Z0 G0 FP0 w0) i (wpAnyIn (Wd ro) mm P .any all.toArray (Fin Q N L B Z0 G0 FP0 w0) fuel (listed.setIfInBounds i true)) a w:=by
      refine certG_run (x:=hev T' x) hdall ho hok hnd ?_ hs fun Z' G' FP' a' w' hs' hG' hE'=>?_
      ·unfold CertG;rw[hg]
       refine .inl ⟨True,H,trivial,?_⟩
       rcases hop with hop | hop <;> rw[hop] <;> rfl
      ·refine ih k n (listed.setIfInBounds i true) T _ H Z' G' FP' a' w' (by simpa using hsz) (by omega) hcl hmk hk (fun j hj1 hj2=>?_) (fun j hj1 hj2 hj3=>?_) ?_ hex (hB.evo hE') hs' (hG.trans (GLt.of hG.len hG')) (hE.trans hE')
       ·rw[←hl j hj1 hj2]
        constructor
        ·intro hx;rcases getD_set_listed hx with rfl | hx
         ·omega
         ·exact hx
        ·exact getD_set_keep
       ·refine hlate j hj1 hj2 ?_
        cases hx:listed.getD j false with
        | false=>rfl
        | true=>rw[getD_set_keep hx] at hj3;cases hj3
       ·refine ⟨fun t ht=>?_,fun i' d' x' hi' hil' hli' hmo'=>hT.mv i' d' x' hi' hil' ?_ hmo'⟩
        ·rw[hd]
         simp only[updO,upd]
         by_cases e:t=d
         ·subst e;rw[if_pos rfl,hTd,hsrc]
         ·rw[if_neg e]
          refine hT.eq t fun i' d' x' hi' hli' hmo'=>?_
          by_cases hii:i'=i
          ·subst hii
           rw[ho] at hmo'
           have:(d',x')=(d,x):=by
            have h2:moveOf o=some (d',x'):=by simpa using hmo'
            rw[hmo] at h2;exact (Option.some.inj h2).symm
           cases this
           exact fun h=>e h.symm
          ·refine ht i' d' x' hi' ?_ hmo'
           cases hx:(listed.setIfInBounds i true).getD i' false with
           | false=>rfl
           | true =>
            rcases getD_set_listed hx with h | h
            ·exact absurd h hii
            ·rw[hli'] at h;cases h
        ·cases hx:listed.getD i' false with
         | false=>rfl
         | true=>rw[getD_set_keep hx] at hli';cases hli'
     exact hrun
    ·cases hlt
   ·
    have hik:i=k:=by
     rcases Nat.lt_trichotomy i k with h' | h' | h'
     ·have:=(hl i (by omega) hil).2 h'
      rw[hnf] at this;cases this
     ·exact h'
     ·have hkl:k<all.length:=by omega
      have:=ready_must hA.base hc hi (hA.tail k i _ o h' (List.getElem?_eq_getElem hkl) ho (by omega) (.inl hmk))
      have:=(hl k hmk hkl).1 this;omega
    subst hik
    have hd:all.drop i=o::all.drop (i+1):=by
     rw[List.drop_eq_getElem_cons hil]
     have:=(List.getElem?_eq_some_iff.1 ho).2
     rw[this]
    rw[hd] at hex
    match n,hex with
    | n+1,hex =>
     have hexG:exG (ex P N L Q n) P all o (all.drop (i+1)) [] T H:=hex
     have hconf:∀(i' : Nat) d' x',i' < m→listed.getD i' false=false→(all[i']?).bind moveOf=some (d',x')→d'∉seenT all o∧o.dst≠some d'∧∀t,o.dst=some t→x'≠.tmp t:=by
      intro i' d' x' hi' hli' hmo'
      cases hx' : all[i']? with
      | none=>rw[hx'] at hmo';cases hmo'
      | some o' =>
       rw[hx'] at hmo'
       obtain ⟨_,hd',hop'⟩:=moveOf_spec (by simpa using hmo')
       have no:confB all o' o=true→False:=fun hcf=>by
        have:=ready_must hA.base hc hi (hA.base.ord i' i o' o (by omega) hx' ho (.inr hcf))
        rw[hli'] at this;cases this
       refine ⟨fun h=>no (by unfold confB;rw[hd'];simp[h]),fun h=>no (by unfold confB;rw[hd',h];simp),fun t ht hxt=>no ?_⟩
       have hseen:t∈seenT all o':=by
        unfold seenT
        refine List.mem_append_left _ (List.mem_filterMap.2 ⟨x',?_,by rw[hxt]⟩)
        rcases hop' with hop' | hop' <;> rw[hop'] <;> simp[Op.operands]
       unfold confB;rw[ht];simp[hseen]
     refine exG_step hdall ho hok hnd (fun t ht=>(hT.eq t fun i' d' x' hi' hli' hmo' hdt=>(hconf i' d' x' hi' hli' hmo').1 (hdt▸ht)).symm) hexG hB hG.len hs fun x H' Z' G' FP' a' w' hk' hs' hG' hE'=>?_
     refine ih (i+1) n (listed.setIfInBounds i true) _ _ H' Z' G' FP' a' w' (by simpa using hsz) (by omega) hcl (by omega) (by omega) (fun j hj1 hj2=>?_) (fun j hj1 hj2 hj3=>?_) ?_ hk' (hB.evo hE') hs' (hG.trans hG') (hE.trans hE')
     ·constructor
      ·intro hx;rcases getD_set_listed hx with rfl | hx
       ·omega
       ·have:=(hl j hj1 hj2).1 hx;omega
      ·intro hx
       by_cases e:j=i
       ·subst e;exact getD_set_self (by omega)
       ·exact getD_set_keep ((hl j hj1 hj2).2 (by omega))
     ·refine hlate j hj1 hj2 ?_
      cases hx:listed.getD j false with
      | false=>rfl
      | true=>rw[getD_set_keep hx] at hj3;cases hj3
     ·have hkeep:∀(i' : Nat),i' < m→(listed.setIfInBounds i true).getD i' false=listed.getD i' false:=fun i' hi'=>by
       simp only[Array.getD_eq_getD_getElem?,Array.getElem?_setIfInBounds_ne (show i≠i' by omega)]
      refine ⟨fun t ht=>?_,fun i' d' x' hi' hil' hli' hmo'=>?_⟩
      ·have hTt:T' t=T t:=hT.eq t fun i' d' x' hi' hli' hmo'=>ht i' d' x' hi' (by rw[hkeep i' hi'];exact hli') hmo'
       cases hdo:o.dst with
       | none=>exact hTt
       | some d0=>simp only[updO,upd];split <;> first | rfl | exact hTt
      ·rw[hkeep i' hi'] at hli'
       obtain ⟨_,c2,c3⟩:=hconf i' d' x' hi' hli' hmo'
       have:=hT.mv i' d' x' hi' hil' hli' hmo'
       cases hdo:o.dst with
       | none=>exact this
       | some d0 =>
        have e1:d'≠d0:=fun e=>c2 (by rw[hdo,e])
        have e2:hev (updO T (some d0) x) x'=hev T x':=hev_congr fun t ht=>by
         have:t≠d0:=fun e=>c3 d0 hdo (by rw[ht,e])
         simp[updO,upd,this]
        rw[e2]
        simp[updO,upd,e1,this]
theorem take_dst {m:Nat} {all:List Oper} {j t:Nat} (hj:dstAt (all.take m) j=some t):∃oj,all[j]?=some oj∧oj.dst=some t∧j<m:=by
 unfold dstAt at hj
 cases hx:(all.take m)[j]? with
 | none=>rw[hx] at hj;cases hj
 | some oj =>
  rw[hx] at hj
  have hlt:=(List.getElem?_eq_some_iff.1 hx).1
  rw[List.length_take] at hlt
  rw[List.getElem?_take,if_pos (by omega)] at hx
  exact ⟨oj,hx,hj,by omega⟩
theorem late_mv {T0:Nat→HV} {xs:List HV} {H:Heap} (hc0:CertL P H all (all.take m) T0 xs) {i d:Nat} {x:Operand} (him:i<m) (hil:i<all.length) (hl:lateB m all i=true) (hmo:(all[i]?).bind moveOf=some (d,x)) :
  runM (fun _=>true) 0 (all.take m) xs T0 d=hev (runM (fun _=>true) 0 (all.take m) xs T0) x:=by
 have ho:all[i]?=some all[i]:=List.getElem?_eq_getElem hil
 have hmo' : moveOf all[i]=some (d,x):=by rw[ho] at hmo;simpa using hmo
 obtain ⟨hg,hd,hop⟩:=moveOf_spec hmo'
 unfold lateB at hl
 rw[hmo] at hl
 simp only[Bool.and_eq_true,Bool.not_eq_true',decide_eq_false_iff_not] at hl
 have nob:∀(j:Nat) oj d',i<j→j<m→all[j]?=some oj→oj.dst=some d'→d'≠d∧srcOf x≠some d':=by
  intro j oj d' h1 h2 h3 h4
  have:=List.all_eq_true.1 hl.2 (oj,j) (by rw[List.mem_zipIdx_iff_getElem?];exact h3)
  simp only[h1,h2,decide_true,Bool.and_self,Bool.not_true,Bool.false_or,h4,Bool.and_eq_true,Bool.not_eq_true',decide_eq_false_iff_not] at this
  exact this
 have hoT:(all.take m)[i]?=some all[i]:=by rw[List.getElem?_take,if_pos him];exact ho
 obtain ⟨xv,hxv,hcert⟩:=CertL_at (all.take m) xs 0 i T0 _ hc0 hoT
 have hv:xv=hev (runM (fun k=>decide (k<0+i)) 0 (all.take m) xs T0) x:=by
  unfold CertG at hcert
  rw[hg] at hcert
  rcases hcert with ⟨p,H',_,hr⟩ | ⟨f,args,tys,fid,caps,n,R,args',hop',_⟩ | ⟨rv',name,args,tys,t,y,fid,n,R,args',hop',_⟩ | ⟨t,len,parts,p,H',hop',_⟩
  ·rcases hop with hop | hop <;> rw[hop] at hr
   ·have:some (True,hev (runM (fun k=>decide (k<0+i)) 0 (all.take m) xs T0) x,H)=some (p,xv,H'):=hr
    cases this;rfl
   ·have:some (True,hev (runM (fun k=>decide (k<0+i)) 0 (all.take m) xs T0) x,H)=some (p,xv,H'):=hr
    cases this;rfl
  ·rcases hop with hop | hop <;> rw[hop] at hop' <;> cases hop'
  ·rcases hop with hop | hop <;> rw[hop] at hop' <;> cases hop'
  ·rcases hop with hop | hop <;> rw[hop] at hop' <;> cases hop'
 have e1:runM (fun k=>decide (k<i+1)) 0 (all.take m) xs T0=updO (runM (fun k=>decide (k<0+i)) 0 (all.take m) xs T0) all[i].dst xv:=by
  refine runM_add (all.take m) xs 0 i T0 _ xv hoT hxv ?_ ?_ ?_ ?_
  ·simp
  ·simp
  ·intro k hk
   simp only[Nat.zero_add] at hk⊢
   congr 1
   simp only[eq_iff_iff]
   omega
  ·intro k hk hS
   simp only[Nat.zero_add,decide_eq_true_eq] at hS
   omega
 have e2:runM (fun k=>decide (k<i+1)) 0 (all.take m) xs T0 d=runM (fun _=>true) 0 (all.take m) xs T0 d:=by
  refine runM_at _ _ _ _ _ rfl fun j hj=>?_
  obtain ⟨oj,h1,h2,h3⟩:=take_dst hj
  simp only[Nat.zero_add,decide_eq_true_eq]
  rcases Nat.lt_or_ge i j with h | h
  ·exact absurd rfl (nob j oj d h h3 h1 h2).1
  ·omega
 have e3:hev (runM (fun k=>decide (k<0+i)) 0 (all.take m) xs T0) x=hev (runM (fun _=>true) 0 (all.take m) xs T0) x:=by
  refine hev_congr fun t ht=>runM_at _ _ _ _ _ rfl fun j hj=>?_
  obtain ⟨oj,h1,h2,h3⟩:=take_dst hj
  simp only[Nat.zero_add,decide_eq_true_eq]
  rcases Nat.lt_trichotomy i j with h | h | h
  ·exact absurd (by rw[ht];rfl) (nob j oj t h h3 h1 h2).2
  ·subst h
   rw[ho] at h1;cases h1
   rw[hd] at h2;cases h2
   exact absurd (by rw[ht];rfl) hl.1
  ·exact h
 rw[←e2,e1,hd,←e3,←hv]
 simp[updO,upd]
theorem any_head2 {H:Heap} (hA:AnyOk2 N m all) (hml:m≤all.length) {G0:List (Option OG)} {FP0:Nat→List Nat} {Z0:Nat→Prop} {ds:List Nat} {T0:Nat→HV} {xs:List HV} {w0:World} {n' : Nat} (hc0:CertL P H all (all.take m) T0 xs)
  (hex:ex P N L Q n' [.ops all (all.drop m)] (runM (fun _=>true) 0 (all.take m) xs T0) H) (hB:∀Z FP w,Evo Z0 FP0 w0 Z FP w→Bo ro B FP w) :
  ∀(fuel:Nat) (listed:Array Bool) (Z:Nat→Prop) (G:List (Option OG)) (FP:Nat→List Nat) (a:Act) (w:World),listed.size=all.length→left listed≤fuel→Closed all listed→(∀j,m≤j→j<all.length→listed.getD j false=false)→
  St N B Z G FP ds (runM (fun k=>listed.getD k false) 0 (all.take m) xs T0) H a w→GLt L G0 G→Evo Z0 FP0 w0 Z FP w→wpAnyIn (Wd ro) mm P .any all.toArray (Fin Q N L B Z0 G0 FP0 w0) fuel listed a w:=by
 have go:∀(fuel:Nat) (listed:Array Bool) (Z:Nat→Prop) (G:List (Option OG)) (FP:Nat→List Nat) (a:Act) (w:World),listed.size=all.length→left listed≤fuel→Closed all listed→(∀j,m≤j→j<all.length→listed.getD j false=false)→
   St N B Z G FP ds (runM (fun k=>listed.getD k false) 0 (all.take m) xs T0) H a w→GLt L G0 G→Evo Z0 FP0 w0 Z FP w→(∀k,k<m→listed.getD k false=true∨lateB m all k=true)→wpAnyIn (Wd ro) mm P .any all.toArray (Fin Q N L B Z0 G0 FP0 w0) fuel listed a w:=by
  intro fuel listed Z G FP a w hsz hf hc hm hs hG hE hall
  refine any_late (Q:=Q) (L:=L) hA fuel m n' listed _ _ H Z G FP a w hsz hf hc (Nat.le_refl _) hml (fun i hi hil=>⟨fun hx=>(by rw[hm i hi hil] at hx;cases hx),fun hx=>(by omega)⟩) (fun i hi _ hx=>?_) ⟨fun t ht=>?_,fun i d x hi hil hli hmo=>?_⟩ hex (hB Z FP w hE) hs hG hE
  ·rcases hall i hi with h | h
   ·rw[hx] at h;cases h
   ·exact h
  ·refine runM_at _ _ _ _ _ rfl fun j hj=>?_
   obtain ⟨oj,h1,h2,h3⟩:=take_dst hj
   simp only[Nat.zero_add]
   rcases hall j h3 with h | h
   ·exact h
   ·cases hx:listed.getD j false with
    | true=>rfl
    | false =>
     exfalso
     unfold lateB at h
     split at h
     ·rename_i d x hmo
      have hmo2:moveOf oj=some (d,x):=by rw[h1] at hmo;simpa using hmo
      obtain ⟨_,hd,_⟩:=moveOf_spec hmo2
      rw[h2] at hd;cases hd
      exact ht j t x h3 hx hmo rfl
     ·cases h
  ·rcases hall i hi with h | h
   ·rw[hli] at h;cases h
   ·exact late_mv hc0 hi hil h hmo
 intro fuel
 induction fuel with
 | zero =>
  intro listed Z G FP a w hsz hf hc hm hs hG hE
  refine go 0 listed Z G FP a w hsz hf hc hm hs hG hE fun k hk=>.inl (left_zero (Nat.le_zero.1 hf) k (by omega))
 | succ fuel ih =>
  intro listed Z G FP a w hsz hf hc hm hs hG hE
  by_cases hall:∀k,k<m→listed.getD k false=true∨lateB m all k=true
  ·exact go (fuel+1) listed Z G FP a w hsz hf hc hm hs hG hE hall
  ·have hex2:∃k,k<m∧listed.getD k false=false∧lateB m all k=false:=by
    apply Classical.byContradiction
    intro hn
    refine hall fun k h1=>?_
    cases hx:listed.getD k false with
    | true=>exact .inl rfl
    | false =>
     cases hy:lateB m all k with
     | true=>exact .inr rfl
     | false=>exact absurd ⟨k,h1,hx,hy⟩ hn
   obtain ⟨k0,hk1,hk2,hk3⟩:=hex2
   have hkl0:k0<all.length:=by omega
   obtain ⟨k,⟨hk4,hk5⟩,hkl⟩:=exists_least (p:=fun k=>k<all.length∧listed.getD k false=false) ⟨k0,hkl0,hk2⟩
   have hkr:k∈Region.ready .any all.toArray listed:=ready_least hA.base hsz hk4 hk5 (fun j hj=>by
    cases hx:listed.getD j false with
    | true=>rfl
    | false=>have:=hkl j ⟨by omega,hx⟩;omega)
   refine ⟨fun h0=>by rw[h0] at hkr;simp at hkr,fun i hi=>?_⟩
   obtain ⟨h1,o,ho,ha⟩:=mem_ready.1 hi
   rw[List.getElem?_toArray] at ho
   have hil:=(List.getElem?_eq_some_iff.1 ho).1
   have hnl:=not_listed h1
   have hnf:listed.getD i false=false:=by rw[Array.getD_eq_getD_getElem?,hnl];rfl
   have him:i<m:=by
    rcases Nat.lt_or_ge i m with h' | h'
    ·exact h'
    ·have:=ready_must hA.base hc hi (hA.tail k0 i _ o (by omega) (List.getElem?_eq_getElem hkl0) ho h' (.inr hk3))
     rw[hk2] at this;cases this
   have hoT:(all.take m)[i]?=some o:=by rw[List.getElem?_take,if_pos him];exact ho
   obtain ⟨x,hx,hcert⟩:=CertL_at (all.take m) xs 0 i T0 o hc0 hoT
   obtain ⟨hok,hnd⟩:=hA.base.ok i o ho
   have hsee:∀t∈seenT all o,runM (fun k=>decide (k<0+i)) 0 (all.take m) xs T0 t=runM (fun k=>listed.getD k false) 0 (all.take m) xs T0 t:=by
    intro t ht
    refine runM_at _ _ _ _ _ rfl fun j hj=>?_
    obtain ⟨oj,hoj,hd,hjm⟩:=take_dst hj
    simp only[Nat.zero_add]
    rcases Nat.lt_trichotomy j i with h' | h' | h'
    ·have:=ready_must hA.base hc hi (hA.base.ord j i oj o h' hoj ho (.inr (by simp[confB,hd,ht])))
     rw[this];simp[h']
    ·subst h';rw[hnf];simp
    ·have hjl:=(List.getElem?_eq_some_iff.1 hoj).1
     cases hx:listed.getD j false with
     | false=>simp;omega
     | true =>
      have:=closed_must hA.base hc j i oj hoj (hc j oj hoj hx) (hA.base.ord i j o oj h' ho hoj (.inr (by
       unfold confB
       rw[hd]
       simp[ht])))
      rw[hnf] at this;cases this
   have hcert':=CertG_congr hsee hcert
   have hdall:all.all (dstOk N)=true:=by
    rw[List.all_eq_true]
    intro o' ho'
    obtain ⟨j',hj'⟩:=List.mem_iff_getElem?.1 ho'
    have:=(hA.base.ok j' o' hj').1
    simp only[operOk,Bool.and_eq_true] at this
    exact this.1
   refine certG_run hdall ho hok hnd hcert' hs fun Z' G' FP' a' w' hs' hG' hE'=>?_
   have hadd:=left_add hnl
   refine ih (listed.setIfInBounds i true) Z' G' FP' a' w' (by simpa using hsz) (by omega) (closed_add hc (fun o' ho' e he hb=>by rw[ho] at ho';cases ho';exact ha e (by simpa using he) hb)) (fun j h1 h2=>?_) ?_ (hG.trans (GLt.of hG.len hG')) (hE.trans hE')
   ·cases hx:(listed.setIfInBounds i true).getD j false with
    | false=>rfl
    | true =>
     rcases getD_set_listed hx with rfl | hx
     ·omega
     ·rw[hm j h1 h2] at hx;cases hx
   ·have e:runM (fun k=>(listed.setIfInBounds i true).getD k false) 0 (all.take m) xs T0=updO (runM (fun k=>listed.getD k false) 0 (all.take m) xs T0) o.dst x:=by
     refine runM_add (all.take m) xs 0 i T0 o x hoT hx ?_ ?_ ?_ ?_
     ·simp only[Nat.zero_add];exact getD_set_self (by omega)
     ·simp only[Nat.zero_add];exact hnf
     ·intro k hk
      simp only[Nat.zero_add] at hk
      simp only[Array.getD_eq_getD_getElem?,Array.getElem?_setIfInBounds_ne (Ne.symm hk)]
     ·intro k hk hS t ht hdk
      simp only[Nat.zero_add] at hS
      obtain ⟨ok,hok',hd,_⟩:=take_dst hdk
      have:=closed_must hA.base hc k i ok hok' (hc k ok hok' hS) (hA.base.ord i k o ok hk ho hok' (.inr (by
       unfold confB
       rw[ht]
       simp[hd])))
      rw[hnf] at this;cases this
    rw[e];exact hs'
end go
theorem HW.anyLate {N L:Nat} {Q:Exit→KS} {id:Nat} {all:List Oper} {T:Nat→HV} (n m:Nat) (hm:P.follows .mixedOrders=true) (hB:anyB2 N m all=true) (hml:m≤all.length)
  (h:ex P N L Q n [.quiet all (all.take m),.ops all (all.drop m)] T H):HW P N L (.region id all.toArray true) Q T H:=by
 obtain ⟨xs,n',hc,hex⟩:=ex_cert (all.take m) 0 n T h
 intro ro mm B Z G FP ds a w hB' hL hs
 have hA:=anyB2_spec hB
 have hEv:Evo Z FP w Z FP { w with drawn:=w.drawn+1 }:=⟨rfl,rfl,rfl,Nat.le_refl _,fun _ _ _=>rfl,fun _ h=>h,fun _ h=>.inl h,fun id b hb=>.inr ⟨id,hb⟩⟩
 have hi:HInv Z G FP H { w with drawn:=w.drawn+1 }:=hs.inv.keep (Nat.le_refl _) (fun _ _=>rfl)
 have hs':=hs.evo hi (GLe.refl _) hEv
 refine wpIn_region_any hm ?_
 refine any_head2 (ds:=ds) (w0:=w) hA hml hc hex (fun Z' FP' w' hE=>hB'.evo hE) _ _ Z G FP _ _ (by simp) ?_ ?_ (fun j h1 h2=>?_) ?_ (GLt.refl hL) hEv
 ·have:∀k:Nat,left (Array.replicate k false)=k:=by intro k;simp[left]
  rw[this];simp
 ·intro j o hj hl
  exfalso
  have hjl:=(List.getElem?_eq_some_iff.1 hj).1
  simp[Array.getD_eq_getD_getElem?,hjl] at hl
 ·simp[Array.getD_eq_getD_getElem?,h2]
 ·have e:runM (fun k=>(Array.replicate all.toArray.size false).getD k false) 0 (all.take m) xs T=T:=by
   funext t
   rw[runM_no]
   intro j _
   simp only[Array.getD_eq_getD_getElem?]
   by_cases hlt:0+j<all.toArray.size
   ·have:0+j<all.length:=by simpa using hlt
    rw[Array.getElem?_eq_getElem (by simpa using hlt)]
    simp
   ·rw[Array.getElem?_eq_none (by simpa using hlt)];rfl
  rw[e]
  exact hs'
end
end Go.Proofs.YtmapdjdnnhlpiaaGreatDoor
