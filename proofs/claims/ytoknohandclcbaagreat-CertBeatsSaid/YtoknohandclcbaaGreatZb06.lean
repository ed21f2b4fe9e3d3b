/- Parts of the proof: HiT, HiCr, HiCs, HiDa, HiDb, Da, HiZb. -/
import Derived.Test.YtoknohandclcbaaGreatZb05
import Derived.IntWalk
set_option linter.unusedSectionVars false
set_option linter.unusedVariables false
set_option linter.unusedSimpArgs false
namespace Go.Proofs.YtoknohandclcbaaGreat
open Go.RowKit
theorem zUv {α β:Type} {o:Option α} {g:α→β} {f:β→Res}:zF (o.map g) f=zF o (fun a=>f (g a)):=by cases o <;> rfl
def isV:HV→Bool
 | .v _=>true
 | .sl _=>true
 | .fp _ _ _=>true
 | _=>false
section
variable {α:Type}
structure Plain (f:α→List HV) (n:Nat):Prop where
 len:∀a,(f a).length=n
 isv:∀a,(f a).all isV=true
variable {f:α→List HV} {n:Nat}
theorem z3A {h:HV} (hv:isV h=true):tv h=true:=by cases h <;> simp_all [isV,tv]
theorem z3B {h:HV} {m:Nat} (hv:isV h=true):nm m h=true:=by cases h <;> simp_all [isV,nm]
theorem zTK {h:HV} (hv:isV h=true):fzo h=h:=by cases h <;> simp_all [isV,fzo]
theorem z3C {h:HV} {k:Nat} {H:Heap} (hv:isV h=true):fz k H h=h:=by
 cases k with
 | zero=>unfold fz;exact zTK hv
 | succ k=>cases h <;> simp_all [isV,fz,fzo]
theorem zRY:∀{l:List HV},l.all isV=true→tvs l=true
 | [],_=>rfl
 | h::t,hl=>by
  simp only[List.all_cons,Bool.and_eq_true] at hl
  simp only[tvs,z3A hl.1,zRY hl.2,Bool.and_self]
theorem zH6:∀(a b:List HV),tvs (a++b)=(tvs a && tvs b)
 | [],b=>by simp[tvs]
 | h::t,b=>by simp only[List.cons_append,tvs,zH6 t b,Bool.and_assoc]
theorem zSr {m:Nat}:∀{l:List HV},l.all isV=true→nmL m l=true
 | [],_=>rfl
 | h::t,hl=>by
  simp only[List.all_cons,Bool.and_eq_true] at hl
  simp only[nmL,z3B hl.1,zSr hl.2,Bool.and_self]
theorem zBg {m:Nat}:∀(a b:List (List HV)),nmR m (a++b)=(nmR m a && nmR m b)
 | [],b=>by simp[nmR]
 | h::t,b=>by simp only[List.cons_append,nmR,zBg t b,Bool.and_assoc]
theorem zTe {k:Nat} {H:Heap}:∀{l:List HV},l.all isV=true→l.map (fz k H)=l
 | [],_=>rfl
 | h::t,hl=>by
  simp only[List.all_cons,Bool.and_eq_true] at hl
  simp only[List.map_cons,z3C hl.1,zTe hl.2]
theorem zOV:∀{l:List HV},l.all isV=true→fzoL l=l
 | [],_=>rfl
 | h::t,hl=>by
  simp only[List.all_cons,Bool.and_eq_true] at hl
  simp only[fzoL,zTK hl.1,zOV hl.2]
theorem Plain.rowsLen (h:Plain f n) (l:List α):z2 (l.map f) n=True:=by
 simp only[z2,eq_iff_iff,iff_true]
 intro r hr
 obtain ⟨a,_,rfl⟩:=List.mem_map.1 hr
 exact h.len a
theorem Plain.tvs (h:Plain f n):∀l:List α,Go.Proofs.YtoknohandclcbaaGreat.tvs (l.map f).flatten=true
 | []=>rfl
 | a::l=>by
  simp only[List.map_cons,List.flatten_cons,zH6,zRY (h.isv a),h.tvs l,Bool.and_self]
theorem Plain.nmR {m:Nat} (h:Plain f n):∀l:List α,Go.Proofs.YtoknohandclcbaaGreat.nmR m (l.map f)=true
 | []=>rfl
 | a::l=>by simp only[List.map_cons,Go.Proofs.YtoknohandclcbaaGreat.nmR,zSr (h.isv a),h.nmR l,Bool.and_self]
theorem Plain.fz {k:Nat} {H:Heap} (h:Plain f n) (l:List α):(l.map f).map (fun r=>r.map (Go.Proofs.YtoknohandclcbaaGreat.fz k H))=l.map f:=by
 rw[List.map_map]
 congr 1
 funext a
 exact zTe (h.isv a)
theorem Plain.fzoR (h:Plain f n) (l:List α):Go.Proofs.YtoknohandclcbaaGreat.fzoR (l.map f)=l.map f:=by
 rw[zCB,List.map_map]
 congr 1
 funext a
 exact zOV (h.isv a)
end
section
variable {H:Heap} {k:Nat}
theorem fz_v {x:Value}:fz (k+1) H (.v x)=.v x:=rfl
theorem yBN {rows:List (List HV)}:fz (k+1) H (.sl rows)=.sl rows:=rfl
theorem yBT {rows:List (List HV)} {i o:Nat}:fz (k+1) H (.fp rows i o)=.fp rows i o:=rfl
theorem z3W:fz (k+1) H .any=.any:=rfl
theorem yBV {cs:List HV}:fz (k+1) H (.ag cs)=.ag (cs.map (fz k H)):=rfl
theorem yBU {f:Nat} {cs:List HV}:fz (k+1) H (.fn f cs)=.fn f (cs.map (fz k H)):=rfl
theorem yBR {t:TypeId} {x:HV}:fz (k+1) H (.ic t x)=.ic t (fz k H x):=rfl
theorem yBS {id off len:Nat}:fz (k+1) H (.hd id off len)=(match getO H id with
  | some ob=>if off+len=ob.rows.length then .sl ((ob.rows.drop off).map fun r=>r.map (fz k H)) else .any
  | none=>.any):=by
 simp only[fz,getO]
 cases h:H[id]? with
 | none=>rfl
 | some o'=>cases o' <;> rfl
theorem yBO {id m r o:Nat}:fz (k+1) H (.pt id m r o)=(match getO H id with
  | some ob=>if m=ob.rows.length∧ob.rows.length≠0 then .fp (ob.rows.map fun r=>r.map (fz k H)) r o else .any
  | none=>.any):=by
 simp only[fz,getO]
 cases h:H[id]? with
 | none=>rfl
 | some o'=>cases o' <;> rfl
end
def srow (s:List UInt8):List HV:=[.v (str s)]
def strs (l:List (List UInt8)):List (List HV):=l.map srow
theorem srow_plain:Plain srow 1:=⟨fun _=>rfl,fun _=>rfl⟩
theorem zVn:strs []=[]:=rfl
theorem zRd {l:List (List UInt8)} {s:List UInt8}:strs l++[[.v (str s)]]=strs (l++[s]):=by simp[strs,srow]
theorem zMF {a b:List (List UInt8)}:strs a++strs b=strs (a++b):=by simp[strs]
theorem zME {l:List (List UInt8)}:(strs l).length=l.length:=by simp[strs]
theorem zVo {l:List (List UInt8)} {i:Nat}:(strs l)[i]?=l[i]?.map srow:=by simp[strs]
theorem zRe {l:List (List UInt8)} {i:Nat}:(strs l).drop i=strs (l.drop i):=by simp[strs,List.map_drop]
theorem zRc {l:List (List UInt8)} {i:Nat}:(strs l).take i=strs (l.take i):=by simp[strs,List.map_take]
theorem zJm {l:List (List UInt8)}:z2 (strs l) 1=True:=srow_plain.rowsLen l
theorem zVl {l:List (List UInt8)}:tvs (strs l).flatten=true:=srow_plain.tvs l
theorem zVm {l:List (List UInt8)} {m:Nat}:nmR m (strs l)=true:=srow_plain.nmR l
theorem zZM {l:List (List UInt8)} {k:Nat} {H:Heap}:(strs l).map (fun r=>r.map (fz k H))=strs l:=srow_plain.fz l
theorem zJn {l:List (List UInt8)}:fzoR (strs l)=strs l:=srow_plain.fzoR l
theorem zNp:∀{l:List (List UInt8)},nzR (strs l)=true
 | []=>rfl
 | a::l=>by
  have:nzR (strs l)=true:=zNp
  simp only[strs,List.map_cons,nzR,srow,nzL,nz,Bool.and_self,Bool.true_and] at this⊢
  exact this
def zYr (l:List (List UInt8)):HV:=.ow 9 1 (strs l)
theorem w64 {x:Int} (h1:-9223372036854775808≤x) (h2:x<9223372036854775808):IntKind.i64.wrap x=x:=IntWalk.i64_in x ⟨h1,by omega⟩
theorem z4i {a:List UInt8}:c1 (.v (str a))=true:=rfl
theorem zN0:zB4 []=some []:=rfl
theorem zL2 {z:Int} {t:List (List HV)}:zB4 ([.v (.int .u8 z)]::t)=(zB4 t).map (UInt8.ofNat z.toNat::·):=rfl
theorem z4j {i:IntKind} {z:Int}:c1 (.v (.int i z))=true:=rfl
theorem z1z {b:Bool}:c1 (.v (.bool b))=true:=rfl
theorem zNY:c1 (.v (.slice none 0 0))=true:=rfl
theorem zNZ:c1 (.v .nilIface)=true:=rfl
theorem yBm {rows:List (List HV)}:c1 (.sl rows)=true:=rfl
theorem yBq {i o n:Nat}:c1 (.hd i o n)=true:=rfl
theorem yBn {i n r o:Nat}:c1 (.pt i n r o)=true:=rfl
theorem yBr {rows:List (List HV)} {i o:Nat}:c1 (.fp rows i o)=true:=rfl
theorem yBs {f:Nat} {cs:List HV}:c1 (.fn f cs)=true:=rfl
theorem yBp {t:TypeId} {x:HV}:c1 (.ic t x)=true:=rfl
theorem z2v {n:Nat}:(0≤(n:Int))=True:=by simp
theorem zQM {l:List (List UInt8)}:fzo (zYr l)=.sl (strs l):=by simp only[zYr,fzo,zJn]
attribute [go_sem] zQM
attribute [go_sem] List.all_cons List.all_nil z4i z4j z1z zNY zNZ yBm yBq yBn yBr yBs yBp z2v List.flatten_cons List.flatten_nil List.append_nil List.length_append List.take_length Int.le_refl Nat.le_refl Bool.and_true Bool.true_and Bool.and_self zN0 zL2
attribute [go_sem] zUv fz_v yBN yBT z3W yBV yBU yBR yBS yBO zVn zRd zMF zME zVo zRe zRc zJm zVl zVm zZM zJn zNp srow
end Go.Proofs.YtoknohandclcbaaGreat
namespace Go.Proofs.YtoknohandclcbaaGreat
open Go.RowKit
section
variable {P:Program} {H:Heap} {K:KT}
theorem zMW {t:TypeId} {a:HV} (h:onR (zKO P H t a) K):zMn P H t a K:=by
 unfold zKO at h
 obtain ⟨x,hx,h⟩:=zC h
 unfold zMn;rw[hx]
 unfold zKN at h
 split at h
 ·rename_i id n r o _
  obtain ⟨ob,ho,h⟩:=zC h
  obtain ⟨row,hr,h⟩:=zC h
  have hcl:zCf x H (.pt id n r o)=tvs ((row.drop o).take x.size):=by simp only[zCf,z7 ho,hr]
  unfold zHg at h
  split at h
  ·rename_i ht
   refine ⟨h.1.1,?_⟩
   rw[hcl,ht,if_pos rfl]
   unfold zCk
   simp only[z7 ho,hr]
   exact ⟨h.1.2.1,h.1.2.2,ht,h.2⟩
  ·rename_i ht
   obtain ⟨_,hk,h⟩:=zC h
   have hk' : okTI x=true:=by split at hk;assumption;cases hk
   refine ⟨hk',?_⟩
   rw[hcl,ht,if_neg (by simp)]
   simp only[zGU]
   unfold zKL at h
   unfold zCk
   obtain ⟨ob',ho',h⟩:=zC h
   obtain ⟨row',hr',h⟩:=zC h
   simp only[z7 ho',hr']
   exact ⟨h.1.1,h.1.2.1,h.1.2.2,h.2⟩
 ·rename_i rows i o _
  obtain ⟨row,hr,h⟩:=zC h
  refine ⟨h.1.1,?_⟩
  unfold zCf
  rw[if_pos rfl]
  unfold zCk
  simp only[hr]
  exact ⟨h.1.2.1,h.1.2.2,h.2⟩
 ·exact h.elim
theorem zTY {t:TypeId} {a:HV} {y:Value} {Z:Nat→Prop} {G:List (Option OG)} {FP:Nat→List Nat} {w:World} (hi:HInv Z G FP H w) (ha:RV Z G w a y []) (h:zMn P H t a K) :
  ∃v x H' G' FP',(do loadVar t (←asAddr y)).run P w=.ok v w∧K x H'∧RV Z G' w x v []∧HInv Z G' FP' H' w∧GLe G G'∧Evo Z FP w Z FP' w:=by
 have swap:∀{v:Value},(Instr.loadAt t y).run P w=.ok v w→(do loadVar t (←asAddr y)).run P w=.ok v w:=by
  intro v hv
  unfold Instr.loadAt at hv
  cases y with
  | pointer p=>cases p with
   | some ad=>simpa [Instr.sureAddr,asAddr] using hv
   | none=>simp[Instr.sureAddr] at hv
  | _=>simp[Instr.sureAddr] at hv
 unfold zMn at h
 split at h
 ·rename_i x hx
  obtain ⟨hk,h⟩:=h
  split at h
  ·obtain ⟨v,h',h1,h2,h3⟩:=zCS hx hk hi ha h
   exact ⟨v,h',H,G,FP,swap h1,h2,h3,hi,GLe.refl _,Evo.refl _ _ _⟩
  ·have:∃G' FP',HInv Z G' FP' (zGU x H a) w∧GLe G G'∧Evo Z FP w Z FP' w:=by
    unfold zGU
    split
    ·exact zFD _ _ _ _ _ hi
    ·exact ⟨G,FP,hi,GLe.refl _,Evo.refl _ _ _⟩
   obtain ⟨G',FP',hi',hG,hE⟩:=this
   have ha':=RV.nil_keep (w':=w) (fun _ _=>rfl) (fun _ h=>h) hG ha
   obtain ⟨v,h',h1,h2,h3⟩:=zCS hx hk hi' ha' h
   exact ⟨v,h',_,G',FP',swap h1,h2,h3,hi',hG,hE⟩
 ·exact h.elim
end
def retK (P:Program):List ResultVar→(Nat→HV)→Heap→(List HV→Heap→Prop)→Prop
 | [],_,H,K=>K [] H
 | .tmp i::r,T,H,K=>retK P r T H fun vs H'=>K (T i::vs) H'
 | .cell a t::r,T,H,K=>onR (zKO P H t (T a)) fun x H1=>retK P r T H1 fun vs H'=>K (x::vs) H'
def zDX:List HV→HV
 | [x]=>x
 | l=>.tu l
def endC (P:Program) (rs:List ResultVar) (L:Nat) (Q:HV→Heap→Prop) (e:Exit) (T:Nat→HV) (H:Heap):Prop :=
 match e with
 | .normal=>retK P rs T H fun vs H'=>endP L Q (zAp L (zDX vs) H')
 | .ret=>retK P rs T H fun vs H'=>endP L Q (zAp L (zDX vs) H')
 | _=>False
def zNx:ResultVar→Nat
 | .tmp i=>i
 | .cell a _=>a
section
variable {P:Program}
theorem zFf {N:Nat} {tmps:Array Value} {Z:Nat→Prop} {w:World} {T:Nat→HV}:∀(rs:List ResultVar) (H:Heap) (K:List HV→Heap→Prop) (G:List (Option OG)) (FP:Nat→List Nat),retK P rs T H K→(∀r∈rs,zNx r<N)→HInv Z G FP H w→(∀i,i<N→RV Z G w (T i) (tmps.getD i undef) [])→
  ∃vs ys H' G' FP',(rs.mapM (m:=Sem) fun r=>match r with
   | .tmp t=>pure (tmps.getD t undef)
   | .cell a t=>do loadVar t (←asAddr (tmps.getD a undef))).run P w=.ok ys w∧K vs H'∧RL Z G' w vs ys []∧vs.length=rs.length∧HInv Z G' FP' H' w∧GLe G G'∧Evo Z FP w Z FP' w
 | [],H,K,G,FP,h,_,hi,_=>⟨[],[],H,G,FP,by simp,h,by simp[RL],rfl,hi,GLe.refl _,Evo.refl _ _ _⟩
 | .tmp i::r,H,K,G,FP,h,hok,hi,hs=>by
  obtain ⟨vs,ys,H',G',FP',h1,h2,h3,h4,h5,h6,h7⟩:=zFf r H _ G FP h (fun x hx=>hok x (by simp[hx])) hi hs
  refine ⟨T i::vs,tmps.getD i undef::ys,H',G',FP',?_,h2,?_,by simp[h4],h5,h6,h7⟩
  ·rw[List.mapM_cons]
   simp only[Sem.run_bind,Sem.run_pure,Result.andThen_ok,h1]
  ·simp only[RL]
   exact ⟨_,_,[],[],rfl,rfl,RV.nil_keep (fun _ _=>rfl) (fun _ h=>h) h6 (hs i (hok (.tmp i) (by simp))),h3⟩
 | .cell a t::r,H,K,G,FP,h,hok,hi,hs=>by
  obtain ⟨v,x,H1,G1,FP1,e1,e2,e3,e4,e5,e6⟩:=zTY hi (hs a (hok (.cell a t) (by simp))) (zMW h)
  obtain ⟨vs,ys,H',G',FP',h1,h2,h3,h4,h5,h6,h7⟩:=zFf r H1 _ G1 FP1 e2 (fun x hx=>hok x (by simp[hx])) e4 (fun i hi'=>RV.nil_keep (fun _ _=>rfl) (fun _ h=>h) e5 (hs i hi'))
  refine ⟨x::vs,v::ys,H',G',FP',?_,h2,?_,by simp[h4],h5,e5.trans h6,e6.trans h7⟩
  ·rw[List.mapM_cons]
   simp only[Sem.run_bind] at e1
   simp only[Sem.run_bind,e1,Sem.run_pure,Result.andThen_ok,h1]
  ·simp only[RL]
   exact ⟨_,_,[],[],rfl,rfl,RV.nil_keep (fun _ _=>rfl) (fun _ h=>h) h6 e3,h3⟩
theorem zGA {fn:Func} {rs:List ResultVar} {tmps:Array Value} {w:World} {ys:List Value} {vs:List HV} {Z:Nat→Prop} {G:List (Option OG)} (hres:fn.results.toList=rs) (h:(rs.mapM (m:=Sem) fun r=>match r with
   | .tmp t=>pure (tmps.getD t undef)
   | .cell a t=>do loadVar t (←asAddr (tmps.getD a undef))).run P w=.ok ys w) (hl:RL Z G w vs ys []):∃v,(results fn tmps).run P w=.ok v w∧RV Z G w (zDX vs) v []:=by
 have hrun:(fn.results.mapM (m:=Sem) fun r=>match r with
   | .tmp t=>pure (tmps.getD t undef)
   | .cell a t=>do loadVar t (←asAddr (tmps.getD a undef))).run P w=.ok ys.toArray w:=by
  rw[Array.mapM_eq_mapM_toList,hres]
  simp only[map_eq_pure_bind,Sem.run_bind,h,Result.andThen_ok,Sem.run_pure]
 unfold results
 simp only[Sem.run_bind]
 erw [hrun]
 simp only[Result.andThen_ok,Sem.run_pure]
 refine ⟨_,rfl,?_⟩
 have hlen:=zZ _ _ _ hl
 unfold zDX
 split
 ·rename_i x
  simp only[RL] at hl
  obtain ⟨y,ys',f1,f2,rfl,hf,h1,h2,_⟩:=hl
  obtain ⟨rfl,rfl⟩:=List.append_eq_nil_iff.1 hf.symm
  subst h2
  simpa using h1
 ·rename_i hne
  split
  ·rename_i h1'
   exfalso
   have hl1:vs.length=1:=by rw[←hlen];simpa using h1'
   match vs,hl1,hne with
   | [i],_,hne=>exact hne i rfl
  ·simp only[RV]
   exact ⟨_,rfl,hl⟩
def zX1 (fn:Func) (N:Nat) (rs:List ResultVar) (k:Nat):Bool:=!(fn.name == "runtime.NumGoroutine") && fn.ntmps == N && rs.all (fun r=>decide (zNx r<N)) && Nat.ble k N
theorem zV {f:FuncId} {fn:Func} {c:Code} {H:Heap} {args:List HV} {Q:HV→Heap→Prop} (N:Nat) (rs:List ResultVar) (hf:P.funcs[f]?=some fn) (hb:fn.body=some c) (hres:fn.results.toList=rs) (hok:zX1 fn N rs args.length=true)
  (h:HW P N H.length c (endC P rs H.length Q) (T0 args) H):HCalls P f H args Q:=by
 simp only[zX1,Bool.and_eq_true,beq_iff_eq,Bool.not_eq_true'] at hok
 obtain ⟨⟨⟨hname,hNN⟩,hrlt⟩,hN0⟩:=hok
 subst hNN
 have hN:args.length≤fn.ntmps:=Nat.le_of_ble_eq_true hN0
 have hrlt:∀r∈rs,zNx r<fn.ntmps:=fun i hi=>by simpa using List.all_eq_true.1 hrlt i hi
 have hne:¬fn.name = "runtime.NumGoroutine" :=by simpa using hname
 refine ⟨fun vals w=>by simp[callFunc,hf,hne,hb],fun Z G FP w vals hi ha=>?_⟩
 refine callsIn_wide.1 (callsIn_of_wp_marks (F:=Fence.wide) (n:=0) hf hb trivial ?_)
 have hlen:=zZ _ _ _ ha
 have hsz:(vals.toArray++Array.replicate (fn.ntmps-vals.toArray.size) undef).size=fn.ntmps:=by simp;omega
 have hst:St fn.ntmps w.heap.size Z G FP [] (T0 args) H { tmps:=vals.toArray++Array.replicate (fn.ntmps-vals.toArray.size) undef,defers:=[] } w :=
  ⟨hi,hsz,zHF fn.ntmps ha,rfl,by simp,by simp⟩
 have hlenG:H.length=G.length:=hi.len.symm
 refine wpIn_mono (h none 0 w.heap.size Z G FP [] _ w ⟨Nat.le_refl _,by simp⟩ (by omega) hst) ?_
 rintro e a' w' ⟨T',H',Z',G',FP',ds',hend,hs',hG',hE'⟩
 have he:e=.normal∨e=.ret:=by cases e <;> simp[endC] at hend <;> simp
 have hend' : retK P rs T' H' fun vs H''=>endP H.length Q (zAp H.length (zDX vs) H''):=by rcases he with rfl | rfl <;> exact hend
 have goal:LeavesInM Fence.wide 0 P fn a'.tmps (Post Z G FP H w Q) a'.defers .returning w':=by
  rw[hs'.defers]
  refine zBz (ro:=none) ds' w' hs'.dsn (fun d hd=>(hs'.dsat d hd).2.1) ?_
  intro w2 ho ht hout hsz2 hk
  have hkeep:∀b,(Z' b∨∃id,b∈FP' id)→w2.heap[b]?=w'.heap[b]?:=by
   intro b hb
   refine hk b fun hc=>?_
   obtain ⟨_,_,h3,h4⟩:=hs'.dsat b hc
   rcases hb with hb | ⟨id,hb⟩
   ·exact h3 hb
   ·exact h4 id hb
  have hi2:HInv Z' G' FP' H' w2:=hs'.inv.keep (by omega) hkeep
  obtain ⟨vs,ys,H2,G2,FP2,r1,r2,r3,r4,hi3,hG2,hE3⟩:=zFf rs H' _ G' FP' hend' hrlt hi2 (fun i hi'=>RV.nil_keep (fun b hb=>hkeep b (.inl hb)) (fun _ h=>h) (GLe.refl _) (hs'.tmps i hi'))
  obtain ⟨hnm,hQ⟩:=r2
  obtain ⟨v,hrun,hv⟩:=zGA (fn:=fn) hres r1 r3
  refine ⟨v,hrun,?_⟩
  obtain ⟨G3,FP3,fr,hp,hrv⟩:=zEq (L:=H.length) (zDX vs) G2 FP2 H2 v hi3 hv
  have hL3:H.length≤G3.length:=by have:=hp.le.len;have:=hG'.len;have:=hG2.len;omega
  have i4:=hp.inv.trunc H.length hnm
  have hE2:Evo Z FP w Z' FP2 w2:=by
   have:Evo Z FP w Z' FP' w2:=by
    refine ⟨ho.trans hE'.os,ht.trans hE'.tape,hout.trans hE'.output,by rw[hsz2];exact hE'.size,fun b hb hf=>?_,hE'.zle,hE'.znew,hE'.fnew⟩
    rw[hk b (fun hc=>by have:=(hs'.dsat b hc).1;omega)]
    exact hE'.keep b hb hf
   exact this.trans hE3
  refine ⟨v,_,_,Z',G3.take H.length,_,fr,rfl,hQ,?_,i4,hrv,hp.nodup,fun b hb=>?_,fun b hb=>?_,?_,?_⟩
  ·rw[List.length_take,←hp.inv.len];omega
  ·obtain ⟨⟨id,h1⟩,h2⟩:=hp.fr b hb
   refine ⟨hi3.zfp id b h1,hi3.flt id b h1,fun j hj=>?_⟩
   split at hj
   ·exact h2 j hj
   ·simp at hj
  ·obtain ⟨⟨id,h1⟩,h2⟩:=hp.fr b hb
   exact hE2.fnew id b h1
  ·refine ⟨by simp;omega,fun id hid=>?_⟩
   have hid' : id<H.length:=by omega
   rw[zAV hid']
   have hG3:GLt H.length G' G3:=GLt.of hG'.len (hG2.trans hp.le)
   exact (hG'.trans hG3).at_ id hid'
  ·refine ⟨hE2.os,hE2.tape,hE2.output,hE2.size,hE2.keep,hE2.zle,hE2.znew,fun id b hb=>?_⟩
   split at hb
   ·exact hE2.fnew id b (hp.fp id b hb)
   ·simp at hb
 rcases he with rfl | rfl <;> exact goal
end
section
variable {P:Program} {L:Nat} {T:Nat→HV} {H:Heap} {Q:HV→Heap→Prop} {K:List HV→Heap→Prop}
theorem zYQ {rs:List ResultVar}:endC P rs L Q .ret T H=retK P rs T H fun vs H'=>endP L Q (zAp L (zDX vs) H'):=rfl
theorem zNP {rs:List ResultVar}:endC P rs L Q .normal T H=retK P rs T H fun vs H'=>endP L Q (zAp L (zDX vs) H'):=rfl
theorem zWU:retK P [] T H K=K [] H:=rfl
theorem zWT {i:Nat} {r:List ResultVar}:retK P (.tmp i::r) T H K=retK P r T H fun vs H'=>K (T i::vs) H':=rfl
def retL (P:Program) (res:Res) (r:List ResultVar) (T:Nat→HV) (K:List HV→Heap→Prop):Prop:=onR res fun x H1=>retK P r T H1 fun vs H'=>K (x::vs) H'
theorem zSV {a:Nat} {t:TypeId} {r:List ResultVar}:retK P (.cell a t::r) T H K=retL P (zKO P H t (T a)) r T K:=rfl
theorem zZ9 {p:Prop} {x:HV} {r:List ResultVar}:retL P (rv H p x) r T K=(p∧retK P r T H fun vs H'=>K (x::vs) H'):=rfl
theorem zSU {p:Prop} {x:HV} {r:List ResultVar}:retL P (some (p,x,H)) r T K=(p∧retK P r T H fun vs H'=>K (x::vs) H'):=rfl
theorem zP6 {res res' : Res} {r:List ResultVar} (h:res=res'):retL P res r T K=retL P res' r T K:=by rw[h]
theorem zSS {x:HV}:zDX [x]=x:=rfl
theorem zP5 {x y:HV} {l:List HV}:zDX (x::y::l)=.tu (x::y::l):=rfl
end
attribute [congr] zP6
attribute [go_sem] zWU zWT zSV zZ9 zSU zSS zP5
attribute [go_sem] Int.toNat_zero Int.toNat_one
attribute [go_sem ↓] zYQ zNP
end Go.Proofs.YtoknohandclcbaaGreat
namespace Go.Proofs.YtoknohandclcbaaGreat
open Go.RowKit
section
variable {P:Program} {H:Heap} {k:List Item→KS} {all l:List Oper} {d:Option Nat} {r:List Item} {T:Nat→HV}
theorem zTu {t:TypeId} {c:Bool} {a b:List UInt8}:exRq k (zF (zBJ P .add t c (.v (str a)) (.v (str b))) fun v=>rv H True (.v v)) all d l r T H=(a.length+b.length≤9223372036854775807∧k (.quiet all l::r) (updO T d (.v (str (a++b)))) H):=by
 have e1:(⟨a.toArray⟩:ByteArray).size=a.length:=by simp[ByteArray.size]
 have e2:(⟨b.toArray⟩:ByteArray).size=b.length:=by simp[ByteArray.size]
 have e3:(⟨a.toArray⟩:ByteArray)++(⟨b.toArray⟩:ByteArray)=⟨(a++b).toArray⟩:=by
  apply ByteArray.ext
  apply Array.ext'
  simp[ByteArray.data_append]
 have e4:zBJ P .add t c (.v (str a)) (.v (str b))=if a.length+b.length≤9223372036854775807 then some (str (a++b)) else none:=by
  show (if (⟨a.toArray⟩:ByteArray).size+(⟨b.toArray⟩:ByteArray).size≤9223372036854775807 then some (Value.string ((⟨a.toArray⟩:ByteArray)++(⟨b.toArray⟩:ByteArray))) else none)=_
  rw[e1,e2,e3];rfl
 rw[e4]
 by_cases h:a.length+b.length≤9223372036854775807
 ·simp only[h,if_true,zDS,true_and]
  show (True∧_)=_
  simp
 ·simp only[h,if_false,zFM,false_and]
  rfl
end
attribute [go_sem] zTu
end Go.Proofs.YtoknohandclcbaaGreat
namespace Go.Proofs.YtoknohandclcbaaGreat
open Go.RowKit
section
variable {P:Program}
theorem HCalls.shut {f:FuncId} {H:Heap} {args:List HV} {Q:HV→Heap→Prop} (h:HCalls P f H args Q) (hnm:∀r H',Q r H'→H=[]∧H'=[]):HCalls P f H args (fun r H'=>∃r0,Q r0 H'∧r=fzo r0):=by
 refine ⟨h.1,fun Z G FP w vals hi ha=>Calls.mono (h.2 Z G FP w vals hi ha) ?_⟩
 rintro e w' ⟨v,r,H',Z',G',FP',fr,rfl,hQ,hlen,hi',hr,hnd,hfr1,hfr2,hG,hE⟩
 obtain ⟨rfl,rfl⟩:=hnm r H' hQ
 refine ⟨v,fzo r,[],fun b=>Z' b∨b∈fr,G',FP',[],rfl,⟨r,hQ,rfl⟩,rfl,?_,?_,by simp,by simp,by simp,hG,⟨hE.os,hE.tape,hE.output,hE.size,hE.keep,fun b h=>.inl (hE.zle b h),fun b hb=>?_,hE.fnew⟩⟩
 ·refine hi'.zmore (fun b hb=>.inl hb) (fun b hb=>?_) (fun id b hb hz=>?_)
  ·rcases hb with hb | hb
   ·exact hi'.zlt b hb
   ·exact (hfr1 b hb).2.1
  ·rcases hz with hz | hz
   ·exact hi'.zfp id b hb hz
   ·exact (hfr1 b hz).2.2 id hb
 ·exact RV.nil_keep (fun _ _=>rfl) (fun _ h=>h) (zBI G') (zBW (Z':=fun b=>Z' b∨b∈fr) r G' v fr ⟨fun b hb=>.inl hb,fun b hb=>.inr hb⟩ hr)
 ·rcases hb with hb | hb
  ·exact hE.znew b hb
  ·rcases hfr2 b hb with h | h
   ·exact .inr (.inl h)
   ·exact .inr (.inr h)
theorem HFn.shut {f:FuncId} {args:List HV} {R R' : HV} (h:HFn P f args R) (hR:fzo R=R'):HFn P f args R':=by
 subst hR
 have h' : HFn P f args R:=h
 refine ⟨h'.1,fun Z G FP w vals hi ha=>Calls.mono (h'.2 Z G FP w vals hi ha) ?_⟩
 rintro e w' ⟨v,r,H',Z',G',FP',fr,rfl,rfl,hlen,hi',hr,hnd,hfr1,hfr2,hG,hE⟩
 refine ⟨v,fzo r,H',fun b=>Z' b∨b∈fr,G',FP',[],rfl,rfl,hlen,?_,?_,by simp,by simp,by simp,hG,⟨hE.os,hE.tape,hE.output,hE.size,hE.keep,fun b h=>.inl (hE.zle b h),fun b hb=>?_,hE.fnew⟩⟩
 ·refine hi'.zmore (fun b hb=>.inl hb) (fun b hb=>?_) (fun id b hb hz=>?_)
  ·rcases hb with hb | hb
   ·exact hi'.zlt b hb
   ·exact (hfr1 b hb).2.1
  ·rcases hz with hz | hz
   ·exact hi'.zfp id b hb hz
   ·exact (hfr1 b hz).2.2 id hb
 ·exact RV.nil_keep (fun _ _=>rfl) (fun _ h=>h) (zBI G') (zBW (Z':=fun b=>Z' b∨b∈fr) r G' v fr ⟨fun b hb=>.inl hb,fun b hb=>.inr hb⟩ hr)
 ·rcases hb with hb | hb
  ·exact hE.znew b hb
  ·rcases hfr2 b hb with h | h
   ·exact .inr (.inl h)
   ·exact .inr (.inr h)
theorem HCalls.plain {f:FuncId} {args:List HV} {R:HV} {H:Heap} (h:HFn P f args R) (hnm:nmL 0 args=true):HCalls P f H args (fun r H'=>r=R∧H'=H):=by
 refine ⟨h.1,fun Z G FP w vals hi ha=>?_⟩
 have ha' : RL Z [] w args vals []:=by
  have:=zAs args 0 G vals [] hnm ha
  simpa using this
 refine Calls.mono (h.2 Z [] _ w vals (HInv.empty hi.zlt hi.glob) ha') ?_
 rintro e w' ⟨v,r,H',Z',G',FP',fr,rfl,rfl,hlen,hi',hr,hnd,hfr1,hfr2,hG,hE⟩
 have hk:∀b,b<w.heap.size→w'.heap[b]?=w.heap[b]?:=fun b hb=>hE.keep b hb (by simp)
 have hnew:∀b∈fr,w.heap.size≤b:=fun b hb=>by
  rcases hfr2 b hb with h | ⟨id,h⟩
  ·exact h
  ·simp at h
 have hznew:∀b,Z' b→Z b∨w.heap.size≤b:=fun b hb=>by
  rcases hE.znew b hb with h | h | ⟨id,h⟩
  ·exact .inl h
  ·exact .inr h
  ·simp at h
 have hH' : H'=[]:=List.eq_nil_of_length_eq_zero hlen
 subst hH'
 have hG' : G'=[]:=List.eq_nil_of_length_eq_zero hi'.len
 subst hG'
 refine ⟨v,r,H,Z',G,FP,fr,rfl,⟨rfl,rfl⟩,rfl,?_,RV.keep (fun _ _=>rfl) (fun _ h=>h) (zBI G) r v fr (fun _ _=>rfl) hr,hnd,fun b hb=>?_,fun b hb=>.inl (hnew b hb),GLe.refl _,⟨hE.os,hE.tape,hE.output,hE.size,fun b hb _=>hk b hb,hE.zle,fun b hb=>?_,fun id b hb=>.inr ⟨id,hb⟩⟩⟩
 ·refine (hi.keep hE.size (fun b hb=>hk b (by
   rcases hb with hb | ⟨id,hb⟩
   ·exact hi.zlt b hb
   ·exact hi.flt id b hb))).zmore hE.zle hi'.zlt (fun id b hb hz=>?_)
  rcases hznew b hz with h | h
  ·exact hi.zfp id b hb h
  ·have:=hi.flt id b hb;omega
 ·refine ⟨(hfr1 b hb).1,(hfr1 b hb).2.1,fun id hc=>?_⟩
  have:=hi.flt id b hc;have:=hnew b hb;omega
 ·rcases hznew b hb with h | h
  ·exact .inl h
  ·exact .inr (.inl h)
section
variable {k:List Item→KS} {all l:List Oper} {d:Option Nat} {r:List Item} {T:Nat→HV} {H:Heap}
theorem zD {fid:Nat} {args args' : List HV} {R:HV} (spec:HFn P fid args' R) (hargs:args=args') (hnm:nmL 0 args=true) (h:k (.ops all l::r) (updO T d (zAO R H).1) (zAO R H).2):zFb k P fid H args all d l r T:=by
 subst hargs
 exact ⟨_,HCalls.plain spec hnm,fun x H' hx _=>by obtain ⟨rfl,rfl⟩:=hx;exact h⟩
end
def endF (P:Program) (rs:List ResultVar) (m:Nat) (Q:HV→Prop) (e:Exit) (T:Nat→HV) (H:Heap):Prop :=
 match e with
 | .normal=>retK P rs T H fun vs H'=>Q (fz m H' (zDX vs))
 | .ret=>retK P rs T H fun vs H'=>Q (fz m H' (zDX vs))
 | _=>False
theorem zAk {f:FuncId} {fn:Func} {c:Code} {args:List HV} {R:HV} (m:Nat) (N:Nat) (rs:List ResultVar) (hf:P.funcs[f]?=some fn) (hb:fn.body=some c) (hres:fn.results.toList=rs) (hok:zX1 fn N rs args.length=true)
  (h:HW P N 0 c (endF P rs m (fun x=>x=R)) (T0 args) []):HFn P f args R:=by
 simp only[zX1,Bool.and_eq_true,beq_iff_eq,Bool.not_eq_true'] at hok
 obtain ⟨⟨⟨hname,hNN⟩,hrlt⟩,hN0⟩:=hok
 subst hNN
 have hN:args.length≤fn.ntmps:=Nat.le_of_ble_eq_true hN0
 have hrlt:∀r∈rs,zNx r<fn.ntmps:=fun i hi=>by simpa using List.all_eq_true.1 hrlt i hi
 have hne:¬fn.name = "runtime.NumGoroutine" :=by simpa using hname
 refine ⟨fun vals w=>by simp[callFunc,hf,hne,hb],fun Z G FP w vals hi ha=>?_⟩
 refine callsIn_wide.1 (callsIn_of_wp_marks (F:=Fence.wide) (n:=0) hf hb trivial ?_)
 have hlen:=zZ _ _ _ ha
 have hsz:(vals.toArray++Array.replicate (fn.ntmps-vals.toArray.size) undef).size=fn.ntmps:=by simp;omega
 have hst:St fn.ntmps w.heap.size Z G FP [] (T0 args) [] { tmps:=vals.toArray++Array.replicate (fn.ntmps-vals.toArray.size) undef,defers:=[] } w :=
  ⟨hi,hsz,zHF fn.ntmps ha,rfl,by simp,by simp⟩
 have hG0:G=[]:=List.eq_nil_of_length_eq_zero hi.len
 refine wpIn_mono (h none 0 w.heap.size Z G FP [] _ w ⟨Nat.le_refl _,by simp⟩ (by omega) hst) ?_
 rintro e a' w' ⟨T',H',Z',G',FP',ds',hend,hs',hG',hE'⟩
 have he:e=.normal∨e=.ret:=by cases e <;> simp[endF] at hend <;> simp
 have hend' : retK P rs T' H' fun vs H''=>fz m H'' (zDX vs)=R:=by rcases he with rfl | rfl <;> exact hend
 have goal:LeavesInM Fence.wide 0 P fn a'.tmps (Post Z G FP [] w (fun r _=>r=R)) a'.defers .returning w':=by
  rw[hs'.defers]
  refine zBz (ro:=none) ds' w' hs'.dsn (fun d hd=>(hs'.dsat d hd).2.1) ?_
  intro w2 ho ht hout hsz2 hk
  have hkeep:∀b,(Z' b∨∃id,b∈FP' id)→w2.heap[b]?=w'.heap[b]?:=by
   intro b hb
   refine hk b fun hc=>?_
   obtain ⟨_,_,h3,h4⟩:=hs'.dsat b hc
   rcases hb with hb | ⟨id,hb⟩
   ·exact h3 hb
   ·exact h4 id hb
  have hi2:HInv Z' G' FP' H' w2:=hs'.inv.keep (by omega) hkeep
  obtain ⟨vs,ys,H2,G2,FP2,r1,r2,r3,r4,hi3,hG2,hE3⟩:=zFf rs H' _ G' FP' hend' hrlt hi2 (fun i hi'=>RV.nil_keep (fun b hb=>hkeep b (.inl hb)) (fun _ h=>h) (GLe.refl _) (hs'.tmps i hi'))
  obtain ⟨v,hrun,hv⟩:=zGA (fn:=fn) hres r1 r3
  refine ⟨v,hrun,?_⟩
  have hE2:Evo Z FP w Z' FP2 w2:=by
   have:Evo Z FP w Z' FP' w2:=by
    refine ⟨ho.trans hE'.os,ht.trans hE'.tape,hout.trans hE'.output,by rw[hsz2];exact hE'.size,fun b hb hf=>?_,hE'.zle,hE'.znew,hE'.fnew⟩
    rw[hk b (fun hc=>by have:=(hs'.dsat b hc).1;omega)]
    exact hE'.keep b hb hf
   exact this.trans hE3
  have hzlt:∀b,Zall Z' FP2 b→b<w2.heap.size:=by
   rintro b (hb | ⟨id,hb⟩)
   ·exact hi3.zlt b hb
   ·exact hi3.flt id b hb
  have hfz:=zJC hi3 m _ v [] (by simp) hv
  refine ⟨v,_,[],Zall Z' FP2,[],fun _=>[],[],rfl,r2,rfl,HInv.empty hzlt (hi3.glob.keep (fun b hb=>.inl hb) (fun _ _=>rfl)),hfz,by simp,by simp,by simp,?_,?_⟩
  ·subst hG0;exact GLe.refl _
  ·refine ⟨hE2.os,hE2.tape,hE2.output,hE2.size,hE2.keep,fun b hb=>.inl (hE2.zle b hb),fun b hb=>?_,fun id b hb=>by simp at hb⟩
   rcases hb with hb | ⟨id,hb⟩
   ·exact hE2.znew b hb
   ·rcases hE2.fnew id b hb with h | h
    ·exact .inr (.inl h)
    ·exact .inr (.inr h)
 rcases he with rfl | rfl <;> exact goal
section
variable {L:Nat} {T:Nat→HV} {H:Heap} {Q:HV→Prop} {m:Nat} {rs:List ResultVar}
theorem zYP:endF P rs m Q .ret T H=retK P rs T H fun vs H'=>Q (fz m H' (zDX vs)):=rfl
theorem zNO:endF P rs m Q .normal T H=retK P rs T H fun vs H'=>Q (fz m H' (zDX vs)):=rfl
end
end
attribute [go_sem] zYP zNO
end Go.Proofs.YtoknohandclcbaaGreat
namespace Go.Proofs.YtoknohandclcbaaGreat
open Go.RowKit
def isW:HV→Bool
 | .v _=>true
 | _=>false
section
variable {α:Type} {f:α→List HV} {n:Nat}
theorem zOJ:∀{l:List HV},l.all isW=true→nzL l=true
 | [],_=>rfl
 | h::t,hl=>by
  simp only[List.all_cons,Bool.and_eq_true] at hl
  have:nz h=true:=by
   cases h <;> first | rfl | (have:=hl.1;simp[isW] at this)
  simp only[nzL,this,zOJ hl.2,Bool.and_self]
theorem zDx (h:∀a,(f a).all isW=true):∀l:List α,nzR (l.map f)=true
 | []=>rfl
 | a::t=>by simp only[List.map_cons,nzR,zOJ (h a),zDx h t,Bool.and_self]
theorem yBM {k:Nat} {H:Heap} {cs:List HV}:fz (k+1) H (.tu cs)=.tu (cs.map (fz k H)):=rfl
end
attribute [go_sem] yBM
end Go.Proofs.YtoknohandclcbaaGreat
namespace Go.Proofs.YtoknohandclcbaaGreat
open Go.RowKit
set_option maxRecDepth 8000
structure Stp where
 op:Int
 reg:Int
 loc:Int
 n:Int
 to:Int
 deriving DecidableEq,Inhabited
structure Prg where
 init:List Int
 thr:List (List Stp)
structure Thd where
 pc:Int
 regs:List Int
 eq:Bool
 buf:List (Int×Int)
structure Sta where
 mem:List Int
 ths:List Thd
structure Pck where
 th:Int
 dr:Bool
 deriving DecidableEq,Inhabited
def irow (x:Int):List HV:=[.v (.int .i64 x)]
def ints (l:List Int):List (List HV):=l.map irow
theorem ints_flat:Plain irow 1:=⟨fun _=>rfl,fun _=>rfl⟩
theorem zXD:ints []=[]:=rfl
theorem zMe {a b:List Int}:ints a++ints b=ints (a++b):=by simp[ints]
theorem zAG {l:List Int}:(ints l).length=l.length:=by simp[ints]
theorem zXE {l:List Int} {i:Nat}:(ints l)[i]?=l[i]?.map irow:=by simp[ints]
theorem zTP {l:List Int} {i:Nat}:(ints l).drop i=ints (l.drop i):=by simp[ints,List.map_drop]
theorem zTN {l:List Int} {i:Nat}:(ints l).take i=ints (l.take i):=by simp[ints,List.map_take]
theorem zFU {l:List Int}:z2 (ints l) 1=True:=ints_flat.rowsLen l
theorem zON {l:List Int}:tvs (ints l).flatten=true:=ints_flat.tvs l
theorem zET {l:List Int} {m:Nat}:nmR m (ints l)=true:=ints_flat.nmR l
theorem z0D {l:List Int} {k:Nat} {H:Heap}:(ints l).map (fun r=>r.map (fz k H))=ints l:=ints_flat.fz l
theorem zAZ {l:List Int}:fzoR (ints l)=ints l:=ints_flat.fzoR l
theorem zOO {l:List Int}:nzR (ints l)=true:=zDx (fun _=>rfl) l
attribute [go_sem] zXD zMe zAG zXE zTP zTN zFU zON zET z0D zAZ zOO irow
def zPE (x:Stp):List HV:=[.v (.int .i64 x.op),.v (.int .i64 x.reg),.v (.int .i64 x.loc),.v (.int .i64 x.n),.v (.int .i64 x.to)]
def stps (l:List Stp):List (List HV):=l.map zPE
theorem stps_flat:Plain zPE 5:=⟨fun _=>rfl,fun _=>rfl⟩
theorem zVs:stps []=[]:=rfl
theorem zMH {a b:List Stp}:stps a++stps b=stps (a++b):=by simp[stps]
theorem zMG {l:List Stp}:(stps l).length=l.length:=by simp[stps]
theorem zVt {l:List Stp} {i:Nat}:(stps l)[i]?=l[i]?.map zPE:=by simp[stps]
theorem zRh {l:List Stp} {i:Nat}:(stps l).drop i=stps (l.drop i):=by simp[stps,List.map_drop]
theorem zRg {l:List Stp} {i:Nat}:(stps l).take i=stps (l.take i):=by simp[stps,List.map_take]
theorem zJo {l:List Stp}:z2 (stps l) 5=True:=stps_flat.rowsLen l
theorem zVp {l:List Stp}:tvs (stps l).flatten=true:=stps_flat.tvs l
theorem zVr {l:List Stp} {m:Nat}:nmR m (stps l)=true:=stps_flat.nmR l
theorem zZN {l:List Stp} {k:Nat} {H:Heap}:(stps l).map (fun r=>r.map (fz k H))=stps l:=stps_flat.fz l
theorem zJp {l:List Stp}:fzoR (stps l)=stps l:=stps_flat.fzoR l
theorem zVq {l:List Stp}:nzR (stps l)=true:=zDx (fun _=>rfl) l
attribute [go_sem] zVs zMH zMG zVt zRh zRg zJo zVp zVr zZN zJp zVq zPE
def trow (x:List Stp):List HV:=[.sl (stps x)]
def thrs (l:List (List Stp)):List (List HV):=l.map trow
theorem thrs_flat:Plain trow 1:=⟨fun _=>rfl,fun _=>rfl⟩
theorem zVa:thrs []=[]:=rfl
theorem zLz {a b:List (List Stp)}:thrs a++thrs b=thrs (a++b):=by simp[thrs]
theorem zLy {l:List (List Stp)}:(thrs l).length=l.length:=by simp[thrs]
theorem zVb {l:List (List Stp)} {i:Nat}:(thrs l)[i]?=l[i]?.map trow:=by simp[thrs]
theorem zR2 {l:List (List Stp)} {i:Nat}:(thrs l).drop i=thrs (l.drop i):=by simp[thrs,List.map_drop]
theorem zR1 {l:List (List Stp)} {i:Nat}:(thrs l).take i=thrs (l.take i):=by simp[thrs,List.map_take]
theorem zJf {l:List (List Stp)}:z2 (thrs l) 1=True:=thrs_flat.rowsLen l
theorem zV9 {l:List (List Stp)}:tvs (thrs l).flatten=true:=thrs_flat.tvs l
theorem zNn {l:List (List Stp)} {m:Nat}:nmR m (thrs l)=true:=thrs_flat.nmR l
theorem zZJ {l:List (List Stp)} {k:Nat} {H:Heap}:(thrs l).map (fun r=>r.map (fz k H))=thrs l:=thrs_flat.fz l
theorem zFo {l:List (List Stp)}:fzoR (thrs l)=thrs l:=thrs_flat.fzoR l
attribute [go_sem] zVa zLz zLy zVb zR2 zR1 zJf zV9 zNn zZJ zFo trow
def wrow (x:Int×Int):List HV:=[.v (.int .i64 x.1),.v (.int .i64 x.2)]
def wrts (l:List (Int×Int)):List (List HV):=l.map wrow
theorem wrts_flat:Plain wrow 2:=⟨fun _=>rfl,fun _=>rfl⟩
theorem zVZ:wrts []=[]:=rfl
theorem zLr {a b:List (Int×Int)}:wrts a++wrts b=wrts (a++b):=by simp[wrts]
theorem zLq {l:List (Int×Int)}:(wrts l).length=l.length:=by simp[wrts]
theorem zV0 {l:List (Int×Int)} {i:Nat}:(wrts l)[i]?=l[i]?.map wrow:=by simp[wrts]
theorem zRT {l:List (Int×Int)} {i:Nat}:(wrts l).drop i=wrts (l.drop i):=by simp[wrts,List.map_drop]
theorem zRR {l:List (Int×Int)} {i:Nat}:(wrts l).take i=wrts (l.take i):=by simp[wrts,List.map_take]
theorem zJc {l:List (Int×Int)}:z2 (wrts l) 2=True:=wrts_flat.rowsLen l
theorem zVX {l:List (Int×Int)}:tvs (wrts l).flatten=true:=wrts_flat.tvs l
theorem zVY {l:List (Int×Int)} {m:Nat}:nmR m (wrts l)=true:=wrts_flat.nmR l
theorem zZG {l:List (Int×Int)} {k:Nat} {H:Heap}:(wrts l).map (fun r=>r.map (fz k H))=wrts l:=wrts_flat.fz l
theorem zFn {l:List (Int×Int)}:fzoR (wrts l)=wrts l:=wrts_flat.fzoR l
theorem zNk {l:List (Int×Int)}:nzR (wrts l)=true:=zDx (fun _=>rfl) l
attribute [go_sem] zVZ zLr zLq zV0 zRT zRR zJc zVX zVY zZG zFn zNk wrow
def zFp (x:Thd):List HV:=[.v (.int .i64 x.pc),.sl (ints x.regs),.v (.bool x.eq),.sl (wrts x.buf)]
def thds (l:List Thd):List (List HV):=l.map zFp
theorem thds_flat:Plain zFp 4:=⟨fun _=>rfl,fun _=>rfl⟩
theorem zVe:thds []=[]:=rfl
theorem zBX {x:Thd} {l:List Thd}:thds (x::l)=[.v (.int .i64 x.pc),.sl (ints x.regs),.v (.bool x.eq),.sl (wrts x.buf)]::thds l:=rfl
theorem zMB {a b:List Thd}:thds a++thds b=thds (a++b):=by simp[thds]
theorem zMA {l:List Thd}:(thds l).length=l.length:=by simp[thds]
theorem zVf {l:List Thd} {i:Nat}:(thds l)[i]?=l[i]?.map zFp:=by simp[thds]
theorem zR7 {l:List Thd} {i:Nat}:(thds l).drop i=thds (l.drop i):=by simp[thds,List.map_drop]
theorem zR4 {l:List Thd} {i:Nat}:(thds l).take i=thds (l.take i):=by simp[thds,List.map_take]
theorem zJi {l:List Thd}:z2 (thds l) 4=True:=thds_flat.rowsLen l
theorem zVd {l:List Thd}:tvs (thds l).flatten=true:=thds_flat.tvs l
theorem zNo {l:List Thd} {m:Nat}:nmR m (thds l)=true:=thds_flat.nmR l
theorem zZK {l:List Thd} {k:Nat} {H:Heap}:(thds l).map (fun r=>r.map (fz k H))=thds l:=thds_flat.fz l
theorem zR6 {l:List Thd}:fzoR (thds l)=thds l:=thds_flat.fzoR l
attribute [go_sem] zVe zMB zMA zVf zR7 zR4 zJi zVd zNo zZK zR6 zFp
def prow (x:Pck):List HV:=[.v (.int .i64 x.th),.v (.bool x.dr)]
def pcks (l:List Pck):List (List HV):=l.map prow
theorem pcks_flat:Plain prow 2:=⟨fun _=>rfl,fun _=>rfl⟩
theorem zWk:pcks []=[]:=rfl
theorem zKT {l:List Pck} {x:Pck}:pcks l++[prow x]=pcks (l++[x]):=by simp[pcks]
theorem zM4 {a b:List Pck}:pcks a++pcks b=pcks (a++b):=by simp[pcks]
theorem zM3 {l:List Pck}:(pcks l).length=l.length:=by simp[pcks]
theorem zWl {l:List Pck} {i:Nat}:(pcks l)[i]?=l[i]?.map prow:=by simp[pcks]
theorem zSd {l:List Pck} {i:Nat}:(pcks l).drop i=pcks (l.drop i):=by simp[pcks,List.map_drop]
theorem zSc {l:List Pck} {i:Nat}:(pcks l).take i=pcks (l.take i):=by simp[pcks,List.map_take]
theorem zKU {l:List Pck}:z2 (pcks l) 2=True:=pcks_flat.rowsLen l
theorem zWh {l:List Pck}:tvs (pcks l).flatten=true:=pcks_flat.tvs l
theorem zWj {l:List Pck} {m:Nat}:nmR m (pcks l)=true:=pcks_flat.nmR l
theorem zZn {l:List Pck} {k:Nat} {H:Heap}:(pcks l).map (fun r=>r.map (fz k H))=pcks l:=pcks_flat.fz l
theorem zEL {l:List Pck}:fzoR (pcks l)=pcks l:=pcks_flat.fzoR l
theorem zWi {l:List Pck}:nzR (pcks l)=true:=zDx (fun _=>rfl) l
attribute [go_sem] zWk zM4 zM3 zWl zSd zSc zKU zWh zWj zZn zEL zWi prow
abbrev prgH (p:Prg):HV:=.ag [.sl (ints p.init),.sl (thrs p.thr)]
abbrev staH (s:Sta):HV:=.ag [.sl (ints s.mem),.sl (thds s.ths)]
abbrev pckH (k:Pck):HV:=.ag [.v (.int .i64 k.th),.v (.bool k.dr)]
abbrev zBn (l:List Int):HV:=.ow 3 1 (ints l)
abbrev zSf (l:List Pck):HV:=.ow 74 2 (pcks l)
theorem zQA {l:List Int} {x:Int}:ints l++[[.v (.int .i64 x)]]=ints (l++[x]):=by simp[ints,irow]
theorem zTO {l:List Int} {i:Nat} {x:Int}:(ints l).set i [.v (.int .i64 x)]=ints (l.set i x):=by simp[ints,irow,List.map_set]
theorem zXC {n:Nat} {x:Int}:List.replicate n [HV.v (.int .i64 x)]=ints (List.replicate n x):=by simp[ints,irow]
theorem zOt {l:List (Int×Int)} {x y:Int}:wrts l++[[.v (.int .i64 x),.v (.int .i64 y)]]=wrts (l++[(x,y)]):=by simp[wrts,wrow]
theorem zRS {l:List (Int×Int)} {i:Nat} {x y:Int}:(wrts l).set i [.v (.int .i64 x),.v (.int .i64 y)]=wrts (l.set i (x,y)):=by simp[wrts,wrow,List.map_set]
theorem zPi {l:List Pck} {x:Int} {b:Bool}:pcks l++[[.v (.int .i64 x),.v (.bool b)]]=pcks (l++[⟨x,b⟩]):=by simp[pcks,prow]
theorem zPF {l:List Stp} {a b c d e:Int}:stps l++[[.v (.int .i64 a),.v (.int .i64 b),.v (.int .i64 c),.v (.int .i64 d),.v (.int .i64 e)]]=stps (l++[⟨a,b,c,d,e⟩]):=by simp[stps,zPE]
theorem zOw {l:List (List Stp)} {x:List Stp}:thrs l++[[.sl (stps x)]]=thrs (l++[x]):=by simp[thrs,trow]
theorem zOz {l:List Thd} {a:Int} {r:List Int} {e:Bool} {b:List (Int×Int)}:thds l++[[.v (.int .i64 a),.sl (ints r),.v (.bool e),.sl (wrts b)]]=thds (l++[⟨a,r,e,b⟩]):=by simp[thds,zFp]
theorem zR5 {l:List Thd} {i:Nat} {a:Int} {r:List Int} {e:Bool} {b:List (Int×Int)}:(thds l).set i [.v (.int .i64 a),.sl (ints r),.v (.bool e),.sl (wrts b)]=thds (l.set i ⟨a,r,e,b⟩):=by simp[thds,zFp,List.map_set]
attribute [go_sem] zQA zTO zXC zOt zRS zPi zPF zOw zOz zR5
end Go.Proofs.YtoknohandclcbaaGreat
namespace Go.Proofs.YtoknohandclcbaaGreat
open Go.RowKit
section
variable {P:Program} {H:Heap}
theorem zGG {T T' : Nat→HV} {op:Op} (h:∀x∈op.operands.toList,hev T x=hev T' x):rop P T H op=rop P T' H op:=by
 have h1:∀x,x∈op.operands→hev T x=hev T' x:=fun x hx=>h x (by simpa using hx)
 clear h
 unfold rop
 split <;> simp only[Op.operands,Call.operands] at h1
 case h_6 t parts =>
  have e:parts.toList.map (fun p=>(p.1,hev T p.2))=parts.toList.map (fun p=>(p.1,hev T' p.2)):=by
   apply List.map_congr_left
   intro p hp
   rw[h1 p.2 (by simp;exact ⟨p.1,by simpa using hp⟩)]
  simp only[e]
 case h_7 t len parts =>
  have hp:∀p∈parts.toList,hev T p.2=hev T' p.2:=fun p hp=>h1 p.2 (by simp;exact ⟨p.1,by simpa using hp⟩)
  have e1:∀n (l:List (Nat×Operand)),(∀p∈l,hev T p.2=hev T' p.2)→zAz T n l=zAz T' n l:=by
   intro n l
   induction l with
   | nil=>intro _;rfl
   | cons p l ih =>
    intro hp
    simp only[zAz]
    rw[hp p (by simp),ih (fun q hq=>hp q (by simp[hq]))]
  have e2:parts.toList.map (fun p=>zY (hev T p.2))=parts.toList.map (fun p=>zY (hev T' p.2)):=by
   apply List.map_congr_left
   intro p hq
   rw[hp p hq]
  simp only[zAx,e2,e1 _ _ hp]
 case h_15 f first cs =>
  split
  ·have e:cs.toList.map (hev T)=cs.toList.map (hev T'):=zAN fun x hx=>h1 x (by simp;simpa using hx)
   simp only[e]
  ·rename_i y
   have e:cs.toList.map (hev T)=cs.toList.map (hev T'):=zAN fun x hx=>h1 x (by simp;exact .inr (by simpa using hx))
   simp only[e,h1 y (by simp)]
  ·rfl
 case h_19 t x lo hi _ _ =>
  have e1:lo.map (hev T)=lo.map (hev T'):=by cases lo with
   | none=>rfl
   | some y=>simp only[Option.map_some,h1 y (by simp)]
  have e2:hi.map (hev T)=hi.map (hev T'):=by cases hi with
   | none=>rfl
   | some y=>simp only[Option.map_some,h1 y (by simp)]
  simp only[e1,e2,h1 x (by simp)]
 all_goals first
  | rfl
  | (rename_i x;simp only[h1 x (by simp)];done)
  | (rename_i x _;simp only[h1 x (by simp)];done)
  | (rename_i x y _;simp only[h1 x (by simp),h1 y (by simp)];done)
  | (rename_i x y;simp only[h1 x (by simp),h1 y (by simp)];done)
  | (rename_i x y z;simp only[h1 x (by simp),h1 y (by simp),h1 z (by simp)];done)
  | (rename_i x y _ _;simp only[h1 x (by simp),h1 y (by simp)];done)
  | (rename_i x y z;simp only[h1 y (by simp),h1 z (by simp)];done)
  | (rename_i t x y;simp only[h1 x (by simp),h1 y (by simp)];done)
section step
variable {N L:Nat} {k:List Item→KS} {all l:List Oper} {r:List Item} {T T' : Nat→HV} {o:Oper} {B:Nat} {Z:Nat→Prop} {G:List (Option OG)} {FP:Nat→List Nat} {ds:List Nat} {a:Act} {w:World} {ro:Option Nat} {mm:Nat}
theorem zOY (hok:zH N o=true) (hn:zAD o=true) (hv:∀y∈o.op.operands.toList,hev T y=hev T' y) (h:exO k P all o.dst o.op l r T H) (hB:Bo ro B FP w) (hL:L≤G.length) (hs:St N B Z G FP ds T' H a w)
  {next:Act→World→Prop} {Q' : Exit→Act→World→Prop} (hK:∀x H' Z' G' FP' a' w',k (.ops all l::r) (updO T o.dst x) H'→St N B Z' G' FP' ds (updO T' o.dst x) H' a' w'→GLt L G G'→Evo Z FP w Z' FP' w'→next a' w') :
  o.wpIn (Wd ro) mm P a w next Q':=by
 have hnd:=zBC hn
 have hdst:∀i,o.dst=some i→i<N:=fun i hi=>by
  have:=hok;simp only[zH,zBR,hi,Bool.and_eq_true,decide_eq_true_eq] at this;exact this.1
 have fin:HO P N L o T' H (fun T2 H2=>∃x,T2=updO T' o.dst x∧k (.ops all l::r) (updO T o.dst x) H2)→o.wpIn (Wd ro) mm P a w next Q':=by
  intro hO
  refine hO ro mm B Z G FP ds a w hB hL hs next Q' ?_
  rintro a' w' ⟨T2,H2,Z',G',FP',⟨x,rfl,hk⟩,hs',hG',hE'⟩
  exact hK x H2 Z' G' FP' a' w' hk hs' hG' hE'
 unfold exO at h
 split at h
 ·rename_i f args tys hop
  have e1:hev T f=hev T' f:=hv f (by rw[hop];simp[Op.operands,Call.operands])
  have e2:args.toList.map (hev T)=args.toList.map (hev T'):=zAN fun x hx=>hv x (by rw[hop];simp[Op.operands,Call.operands];exact .inr (by simpa using hx))
  unfold zCz at h
  split at h
  ·rename_i fid caps hf
   obtain ⟨Q',hc,hk⟩:=h
   exact fin (zJ9 hop hok (e1▸hf) (e2▸hc) (fun r H' hq hl=>⟨_,rfl,hk r H' hq hl⟩))
  ·rename_i id hf
   obtain ⟨Kb,hc,hk⟩:=h
   exact fin (zJ8 hop hok (e1▸hf) (e2▸hc) (fun b H' hq hl=>⟨_,rfl,hk b H' hq hl⟩))
  ·exact h.elim
 ·rename_i rv name args tys hop
  have e1:hev T rv=hev T' rv:=hv rv (by rw[hop];simp[Op.operands,Call.operands])
  have e2:args.toList.map (hev T)=args.toList.map (hev T'):=zAN fun x hx=>hv x (by rw[hop];simp[Op.operands,Call.operands];exact .inr (by simpa using hx))
  unfold zJP at h
  split at h
  ·rename_i t x hf
   unfold zE2 at h
   split at h
   ·rename_i fid hm
    obtain ⟨Q',hc,hk⟩:=h
    exact fin (zEd hop hok (e1▸hf) hm (e2▸hc) (fun r H' hq hl=>⟨_,rfl,hk r H' hq hl⟩))
   ·exact h.elim
  ·exact h.elim
 ·refine fin (zDU hnd hdst (zLl hok ?_))
  rw[←zGG hv]
  have h' : onR (rop P T H o.op) (fun x H'=>k (.ops all l::r) (updO T o.dst x) H'):=h
  cases hr:rop P T H o.op with
  | none=>rw[hr] at h';exact h'.elim
  | some q =>
   rw[hr] at h'
   obtain ⟨p,x,H'⟩:=q
   exact ⟨h'.1,x,rfl,h'.2⟩
theorem zYA {j:Nat} (hall:all.all (zBR N)=true) (hj:all[j]?=some o) (hok:zH N o=true) (hn:zAD o=true) (hT:∀t∈zBY all o,T t=T' t) (h:exG k P all o l r T H) (hB:Bo ro B FP w) (hL:L≤G.length) (hs:St N B Z G FP ds T' H a w)
  {next:Act→World→Prop} {Q' : Exit→Act→World→Prop} (hK:∀x H' Z' G' FP' a' w',k (.ops all l::r) (updO T o.dst x) H'→St N B Z' G' FP' ds (updO T' o.dst x) H' a' w'→GLt L G G'→Evo Z FP w Z' FP' w'→next a' w') :
  wpOpIn (Wd ro) mm P all.toArray Q' j next a w:=by
 have hdst:∀i,o.dst=some i→i<N:=fun i hi=>by
  have:=hok;simp only[zH,zBR,hi,Bool.and_eq_true,decide_eq_true_eq] at this;exact this.1
 have hv:=zEG hT
 unfold wpOpIn
 rw[List.getElem?_toArray,hj]
 dsimp only
 unfold exG at h
 split at h
 ·rename_i hg
  simp only[Region.wanted,hg,if_true]
  exact zOY hok hn hv h hB hL hs hK
 ·rename_i i b hg
  unfold exB at h
  split at h
  ·rename_i t ht
   have eT:T t=T' t:=hT t (by unfold zBY;rw[hg];simp[ht])
   unfold exB2 at h
   split at h
   ·rename_i c hc
    have hy:yielded all.toArray a.tmps i=some c:=hs.yields hall (by rw[zAd ht,←eT];exact hc)
    have hw:Region.wanted o (yielded all.toArray a.tmps)=(c == b):=by
     simp only[Region.wanted,hg,hy]
     cases c <;> cases b <;> rfl
    rw[hw]
    by_cases hcb:c=b
    ·rw[if_pos (by simp[hcb])]
     exact zOY hok hn hv (h.1 hcb) hB hL hs hK
    ·have hc' : c=(!b):=by cases c <;> cases b <;> simp_all
     rw[if_neg (by simp[hcb])]
     exact ⟨fun _ _=>trivial,hK _ _ _ _ _ _ _ (h.2 hc') (hs.drop o.dst hdst) (GLt.refl hL) (Evo.refl _ _ _)⟩
   ·rename_i ts hc
    have hy:yielded all.toArray a.tmps i=none:=hs.yieldsNo hall (by rw[zAd ht,←eT];exact hc)
    have hw:Region.wanted o (yielded all.toArray a.tmps)=false:=by
     simp only[Region.wanted,hg,hy]
     cases b <;> rfl
    rw[hw,if_neg (by simp)]
    exact ⟨fun _ _=>trivial,hK _ _ _ _ _ _ _ h (hs.drop o.dst hdst) (GLt.refl hL) (Evo.refl _ _ _)⟩
   ·exact h.elim
  ·exact h.elim
end step
def zD3 (o:Oper):Option (Nat×Operand) :=
 match o.guard,o.dst,o.op with
 | none,some d,.move x=>some (d,x)
 | none,some d,.assign x=>some (d,x)
 | _,_,_=>none
def zZP:Operand→Option Nat
 | .tmp t=>some t
 | _=>none
def zF8 (m:Nat) (all:List Oper) (i:Nat):Bool :=
 match (all[i]?).bind zD3 with
 | some (d,x)=>!decide (zZP x=some d) && (all.zipIdx.all fun (o',j)=>!(decide (i<j) && decide (j<m)) || (match o'.dst with | some d'=>!decide (d'=d) && !decide (zZP x=some d') | none=>true))
 | none=>false
def z2F (N m:Nat) (all:List Oper):Bool :=
 let bs:=befs all []
 (all.all fun o=>zH N o && zAD o) &&
 (all.zipIdx.all fun (o,j)=>(o.after.toList.all fun e=>!Region.binds .any e || decide (e.on<j)) &&
  (all.zipIdx.all fun (o',i)=>!decide (i<j) || (!((decide (m≤j) && !(decide (i<m) && zF8 m all i)) || zBT all o' o)) || zAa bs i j))
structure AnyOk2 (N m:Nat) (all:List Oper):Prop where
 base:AnyOk N all.length all
 tail:∀(i j:Nat) o' o,i<j→all[i]?=some o'→all[j]?=some o→m≤j→(m≤i∨zF8 m all i=false)→zAa (befs all []) i j=true
theorem zRJ {N m:Nat} {all:List Oper} (h:z2F N m all=true):AnyOk2 N m all:=by
 simp only[z2F,Bool.and_eq_true] at h
 obtain ⟨h1,h2⟩:=h
 rw[List.all_eq_true] at h1 h2
 have mem:∀{j:Nat} {o:Oper},all[j]?=some o→(o,j)∈all.zipIdx:=fun {j o} hj=>by
  rw[List.mem_zipIdx_iff_getElem?];exact hj
 have key:∀(i j:Nat) o' o,i<j→all[i]?=some o'→all[j]?=some o→((decide (m≤j) && !(decide (i<m) && zF8 m all i)) || zBT all o' o)=true→zAa (befs all []) i j=true:=by
  intro i j o' o hij hi hj hc
  have:=h2 (o,j) (mem hj)
  simp only[Bool.and_eq_true,List.all_eq_true] at this
  have:=this.2 (o',i) (mem hi)
  simp only[hij,decide_true,Bool.not_true,Bool.false_or] at this
  rw[hc] at this
  simpa using this
 refine ⟨⟨fun j o hj=>?_,fun j o hj e he hb=>?_,fun i j o' o hij hi hj hc=>?_⟩,fun i j o' o hij hi hj hm hc=>?_⟩
 ·have:=h1 o (List.mem_of_getElem? hj)
  simpa using this
 ·have:=h2 (o,j) (mem hj)
  simp only[Bool.and_eq_true,List.all_eq_true] at this
  have:=this.1 e he
  simp only[hb,Bool.not_true,Bool.false_or,decide_eq_true_eq] at this
  exact this
 ·rcases hc with hc | hc
  ·have:=(List.getElem?_eq_some_iff.1 hj).1;omega
  ·exact key i j o' o hij hi hj (by rw[hc];simp)
 ·refine key i j o' o hij hi hj ?_
  rcases hc with hc | hc
  ·simp[hm,show ¬i<m by omega]
  ·simp[hm,hc]
structure Late (all:List Oper) (m:Nat) (listed:Array Bool) (T T' : Nat→HV):Prop where
 eq:∀t,(∀(i:Nat) d x,i<m→listed.getD i false=false→(all[i]?).bind zD3=some (d,x)→d≠t)→T' t=T t
 mv:∀(i:Nat) d x,i<m→i<all.length→listed.getD i false=false→(all[i]?).bind zD3=some (d,x)→T d=hev T x
section go
variable {N L m mm B:Nat} {ro:Option Nat} {all:List Oper} {Q:Exit→KS}
theorem zBo {o:Oper} {d:Nat} {x:Operand} (h:zD3 o=some (d,x)):o.guard=none∧o.dst=some d∧(o.op=.move x∨o.op=.assign x):=by
 unfold zD3 at h
 split at h
 ·cases h;exact ⟨by assumption,by assumption,.inl (by assumption)⟩
 ·cases h;exact ⟨by assumption,by assumption,.inr (by assumption)⟩
 ·cases h
theorem zY8 (hA:AnyOk2 N m all) {Z0:Nat→Prop} {G0:List (Option OG)} {FP0:Nat→List Nat} {w0:World} {ds:List Nat}:∀(fuel:Nat) (k n:Nat) (listed:Array Bool) (T T' : Nat→HV) (H:Heap) (Z:Nat→Prop) (G:List (Option OG)) (FP:Nat→List Nat) (a:Act) (w:World),
  listed.size=all.length→left listed≤fuel→zCD all listed→m≤k→k≤all.length→(∀i,m≤i→i<all.length→(listed.getD i false=true↔i<k))→(∀i,i<m→i<all.length→listed.getD i false=false→zF8 m all i=true)→
  Late all m listed T T'→ex P N L Q n [.ops all (all.drop k)] T H→Bo ro B FP w→St N B Z G FP ds T' H a w→GLt L G0 G→Evo Z0 FP0 w0 Z FP w→
  wpAnyIn (Wd ro) mm P .any all.toArray (Fin Q N L B Z0 G0 FP0 w0) fuel listed a w:=by
 intro fuel
 induction fuel with
 | zero =>
  intro k n listed T T' H Z G FP a w hsz hf hc hmk hk hl hlate hT hex hB hs hG hE
  have hall:=zBp (Nat.le_zero.1 hf)
  have hno:Region.ready .any all.toArray listed=[]:=by
   rw[List.eq_nil_iff_forall_not_mem]
   intro i hi
   obtain ⟨h1,o,ho,_⟩:=mem_ready.1 hi
   rw[List.getElem?_toArray] at ho
   have hi':=(List.getElem?_eq_some_iff.1 ho).1
   have h2:=hall i (by omega)
   rw[Array.getD_eq_getD_getElem?,zAJ h1] at h2
   simp at h2
  refine ⟨hno,?_⟩
  have hkk:all.length≤k:=by
   rcases Nat.lt_or_ge k all.length with h | h
   ·have:=(hl k hmk h).1 (hall k (by omega));omega
   ·exact h
  rw[List.drop_eq_nil_of_le hkk] at hex
  have e:T'=T:=by
   funext t
   refine hT.eq t fun i d x hi hli hmo=>?_
   cases hx:all[i]? with
   | none=>rw[hx] at hmo;cases hmo
   | some o=>have:=(List.getElem?_eq_some_iff.1 hx).1;rw[hall i (by omega)] at hli;cases hli
  subst e
  match n,hex with
  | n+1,hex =>
   match n,hex with
   | n+1,hex=>exact ⟨T',H,Z,G,FP,ds,hex,hs,hG,hE⟩
 | succ fuel ih =>
  intro k n listed T T' H Z G FP a w hsz hf hc hmk hk hl hlate hT hex hB hs hG hE
  refine ⟨fun h0=>?_,fun i hi=>?_⟩
  ·
   have hall:∀i,i<all.length→listed.getD i false=true:=by
    intro i hi
    cases hx:listed.getD i false with
    | true=>rfl
    | false =>
     obtain ⟨j,⟨hj1,hj2⟩,hjl⟩:=zU (p:=fun i=>i<all.length∧listed.getD i false=false) ⟨i,hi,hx⟩
     have:=zAh hA.base hsz hj1 hj2 (fun q hq=>by
      cases hy:listed.getD q false with
      | true=>rfl
      | false=>have:=hjl q ⟨by omega,hy⟩;omega)
     rw[h0] at this;simp at this
   have hkk:all.length≤k:=by
    rcases Nat.lt_or_ge k all.length with h | h
    ·have:=(hl k hmk h).1 (hall k (by omega));omega
    ·exact h
   rw[List.drop_eq_nil_of_le hkk] at hex
   have e:T'=T:=by
    funext t
    refine hT.eq t fun i d x hi hli hmo=>?_
    cases hx:all[i]? with
    | none=>rw[hx] at hmo;cases hmo
    | some o=>have:=(List.getElem?_eq_some_iff.1 hx).1;rw[hall i (by omega)] at hli;cases hli
   subst e
   match n,hex with
   | n+1,hex =>
    match n,hex with
    | n+1,hex=>exact ⟨T',H,Z,G,FP,ds,hex,hs,hG,hE⟩
  ·obtain ⟨h1,o,ho,ha⟩:=mem_ready.1 hi
   rw[List.getElem?_toArray] at ho
   have hil:=(List.getElem?_eq_some_iff.1 ho).1
   have hnl:=zAJ h1
   have hnf:listed.getD i false=false:=by rw[Array.getD_eq_getD_getElem?,hnl];rfl
   obtain ⟨hok,hnd⟩:=hA.base.ok i o ho
   have hadd:=zC9 hnl
   have hcl:=zBD (i:=i) hc (fun o' ho' e he hb=>by rw[ho] at ho';cases ho';exact ha e (by simpa using he) hb)
   have hdall:all.all (zBR N)=true:=by
    rw[List.all_eq_true]
    intro o' ho'
    obtain ⟨j',hj'⟩:=List.mem_iff_getElem?.1 ho'
    have:=(hA.base.ok j' o' hj').1
    simp only[zH,Bool.and_eq_true] at this
    exact this.1
   by_cases him:i<m
   ·
    have hlt:=hlate i him hil hnf
    unfold zF8 at hlt
    rw[ho] at hlt
    simp only[Option.bind_some] at hlt
    split at hlt
    ·rename_i d x hmo
     obtain ⟨hg,hd,hop⟩:=zBo hmo
     simp only[Bool.and_eq_true,Bool.not_eq_true',decide_eq_false_iff_not] at hlt
     have hTd:=hT.mv i d x him hil hnf (by rw[ho];exact hmo)
     have hopd:zBK N x=true:=by
      rcases hop with hop | hop <;> exact zE hok (by rw[hop];simp[Op.operands])
     have hsrc:hev T' x=hev T x:=by
      refine zEV fun t ht=>hT.eq t fun i' d' x' hi' hli' hmo' hdt=>?_
      subst hdt
      cases hx' : all[i']? with
      | none=>rw[hx'] at hmo';cases hmo'
      | some o' =>
       rw[hx'] at hmo'
       obtain ⟨_,hd',_⟩:=zBo (by simpa using hmo')
       have hseen:d'∈zBY all o:=by
        unfold zBY
        refine List.mem_append_left _ (List.mem_filterMap.2 ⟨x,?_,by rw[ht]⟩)
        rcases hop with hop | hop <;> rw[hop] <;> simp[Op.operands]
       rcases Nat.lt_trichotomy i' i with h' | h' | h'
       ·have:=z6 hA.base hc hi (hA.base.ord i' i o' o h' hx' ho (.inr (by unfold zBT;rw[hd'];simp[hseen])))
        rw[hli'] at this;cases this
       ·subst h'
        rw[ho] at hx';cases hx'
        rw[hd] at hd';cases hd'
        exact hlt.1 (by rw[ht];rfl)
       ·have hlt2:=List.all_eq_true.1 hlt.2 (o',i') (by rw[List.mem_zipIdx_iff_getElem?];exact hx')
        simp only[h',hi',decide_true,Bool.and_self,Bool.not_true,Bool.false_or,hd',Bool.and_eq_true,Bool.not_eq_true',decide_eq_false_iff_not] at hlt2
        exact hlt2.2 (by rw[ht];rfl)
     have hrun:wpOpIn (Wd ro) mm P all.toArray (Fin Q N L B Z0 G0 FP0 w0) i (wpAnyIn (Wd ro) mm P .any all.toArray (Fin Q N L B Z0 G0 FP0 w0) fuel (listed.setIfInBounds i true)) a w:=by
      refine zE8 (x:=hev T' x) hdall ho hok hnd ?_ hs fun Z' G' FP' a' w' hs' hG' hE'=>?_
      ·unfold zDw;rw[hg]
       refine .inl ⟨True,H,trivial,?_⟩
       rcases hop with hop | hop <;> rw[hop] <;> rfl
      ·refine ih k n (listed.setIfInBounds i true) T _ H Z' G' FP' a' w' (by simpa using hsz) (by omega) hcl hmk hk (fun j hj1 hj2=>?_) (fun j hj1 hj2 hj3=>?_) ?_ hex (hB.evo hE') hs' (hG.trans (GLt.of hG.len hG')) (hE.trans hE')
       ·rw[←hl j hj1 hj2]
        constructor
        ·intro hx;rcases zT hx with rfl | hx
         ·omega
         ·exact hx
        ·exact zAA
       ·refine hlate j hj1 hj2 ?_
        cases hx:listed.getD j false with
        | false=>rfl
        | true=>rw[zAA hx] at hj3;cases hj3
       ·refine ⟨fun t ht=>?_,fun i' d' x' hi' hil' hli' hmo'=>hT.mv i' d' x' hi' hil' ?_ hmo'⟩
        ·rw[hd]
         simp only[updO,upd]
         by_cases e:t=d
         ·subst e;rw[if_pos rfl,hTd,hsrc]
         ·rw[if_neg e]
          refine hT.eq t fun i' d' x' hi' hli' hmo'=>?_
          by_cases hii:i'=i
          ·subst hii
           rw[ho] at hmo'
           have:(d',x')=(d,x):=by
            have h2:zD3 o=some (d',x'):=by simpa using hmo'
            rw[hmo] at h2;exact (Option.some.inj h2).symm
           cases this
           exact fun h=>e h.symm
          ·refine ht i' d' x' hi' ?_ hmo'
           cases hx:(listed.setIfInBounds i true).getD i' false with
           | false=>rfl
           | true =>
            rcases zT hx with h | h
            ·exact absurd h hii
            ·rw[hli'] at h;cases h
        ·cases hx:listed.getD i' false with
         | false=>rfl
         | true=>rw[zAA hx] at hli';cases hli'
     exact hrun
    ·cases hlt
   ·
    have hik:i=k:=by
     rcases Nat.lt_trichotomy i k with h' | h' | h'
     ·have:=(hl i (by omega) hil).2 h'
      rw[hnf] at this;cases this
     ·exact h'
     ·have hkl:k<all.length:=by omega
      have:=z6 hA.base hc hi (hA.tail k i _ o h' (List.getElem?_eq_getElem hkl) ho (by omega) (.inl hmk))
      have:=(hl k hmk hkl).1 this;omega
    subst hik
    have hd:all.drop i=o::all.drop (i+1):=by
     rw[List.drop_eq_getElem_cons hil]
     have:=(List.getElem?_eq_some_iff.1 ho).2
     rw[this]
    rw[hd] at hex
    match n,hex with
    | n+1,hex =>
     have hexG:exG (ex P N L Q n) P all o (all.drop (i+1)) [] T H:=hex
     have hconf:∀(i' : Nat) d' x',i' < m→listed.getD i' false=false→(all[i']?).bind zD3=some (d',x')→d'∉zBY all o∧o.dst≠some d'∧∀t,o.dst=some t→x'≠.tmp t:=by
      intro i' d' x' hi' hli' hmo'
      cases hx' : all[i']? with
      | none=>rw[hx'] at hmo';cases hmo'
      | some o' =>
       rw[hx'] at hmo'
       obtain ⟨_,hd',hop'⟩:=zBo (by simpa using hmo')
       have no:zBT all o' o=true→False:=fun hcf=>by
        have:=z6 hA.base hc hi (hA.base.ord i' i o' o (by omega) hx' ho (.inr hcf))
        rw[hli'] at this;cases this
       refine ⟨fun h=>no (by unfold zBT;rw[hd'];simp[h]),fun h=>no (by unfold zBT;rw[hd',h];simp),fun t ht hxt=>no ?_⟩
       have hseen:t∈zBY all o':=by
        unfold zBY
        refine List.mem_append_left _ (List.mem_filterMap.2 ⟨x',?_,by rw[hxt]⟩)
        rcases hop' with hop' | hop' <;> rw[hop'] <;> simp[Op.operands]
       unfold zBT;rw[ht];simp[hseen]
     refine zYA hdall ho hok hnd (fun t ht=>(hT.eq t fun i' d' x' hi' hli' hmo' hdt=>(hconf i' d' x' hi' hli' hmo').1 (hdt▸ht)).symm) hexG hB hG.len hs fun x H' Z' G' FP' a' w' hk' hs' hG' hE'=>?_
     refine ih (i+1) n (listed.setIfInBounds i true) _ _ H' Z' G' FP' a' w' (by simpa using hsz) (by omega) hcl (by omega) (by omega) (fun j hj1 hj2=>?_) (fun j hj1 hj2 hj3=>?_) ?_ hk' (hB.evo hE') hs' (hG.trans hG') (hE.trans hE')
     ·constructor
      ·intro hx;rcases zT hx with rfl | hx
       ·omega
       ·have:=(hl j hj1 hj2).1 hx;omega
      ·intro hx
       by_cases e:j=i
       ·subst e;exact zAH (by omega)
       ·exact zAA ((hl j hj1 hj2).2 (by omega))
     ·refine hlate j hj1 hj2 ?_
      cases hx:listed.getD j false with
      | false=>rfl
      | true=>rw[zAA hx] at hj3;cases hj3
     ·have hkeep:∀(i' : Nat),i' < m→(listed.setIfInBounds i true).getD i' false=listed.getD i' false:=fun i' hi'=>by
       simp only[Array.getD_eq_getD_getElem?,Array.getElem?_setIfInBounds_ne (show i≠i' by omega)]
      refine ⟨fun t ht=>?_,fun i' d' x' hi' hil' hli' hmo'=>?_⟩
      ·have hTt:T' t=T t:=hT.eq t fun i' d' x' hi' hli' hmo'=>ht i' d' x' hi' (by rw[hkeep i' hi'];exact hli') hmo'
       cases hdo:o.dst with
       | none=>exact hTt
       | some d0=>simp only[updO,upd];split <;> first | rfl | exact hTt
      ·rw[hkeep i' hi'] at hli'
       obtain ⟨_,c2,c3⟩:=hconf i' d' x' hi' hli' hmo'
       have:=hT.mv i' d' x' hi' hil' hli' hmo'
       cases hdo:o.dst with
       | none=>exact this
       | some d0 =>
        have e1:d'≠d0:=fun e=>c2 (by rw[hdo,e])
        have e2:hev (updO T (some d0) x) x'=hev T x':=zEV fun t ht=>by
         have:t≠d0:=fun e=>c3 d0 hdo (by rw[ht,e])
         simp[updO,upd,this]
        rw[e2]
        simp[updO,upd,e1,this]
theorem zB9 {m:Nat} {all:List Oper} {j t:Nat} (hj:zA8 (all.take m) j=some t):∃oj,all[j]?=some oj∧oj.dst=some t∧j<m:=by
 unfold zA8 at hj
 cases hx:(all.take m)[j]? with
 | none=>rw[hx] at hj;cases hj
 | some oj =>
  rw[hx] at hj
  have hlt:=(List.getElem?_eq_some_iff.1 hx).1
  rw[List.length_take] at hlt
  rw[List.getElem?_take,if_pos (by omega)] at hx
  exact ⟨oj,hx,hj,by omega⟩
theorem zZz {T0:Nat→HV} {xs:List HV} {H:Heap} (hc0:zNj P H all (all.take m) T0 xs) {i d:Nat} {x:Operand} (him:i<m) (hil:i<all.length) (hl:zF8 m all i=true) (hmo:(all[i]?).bind zD3=some (d,x)) :
  runM (fun _=>true) 0 (all.take m) xs T0 d=hev (runM (fun _=>true) 0 (all.take m) xs T0) x:=by
 have ho:all[i]?=some all[i]:=List.getElem?_eq_getElem hil
 have hmo' : zD3 all[i]=some (d,x):=by rw[ho] at hmo;simpa using hmo
 obtain ⟨hg,hd,hop⟩:=zBo hmo'
 unfold zF8 at hl
 rw[hmo] at hl
 simp only[Bool.and_eq_true,Bool.not_eq_true',decide_eq_false_iff_not] at hl
 have nob:∀(j:Nat) oj d',i<j→j<m→all[j]?=some oj→oj.dst=some d'→d'≠d∧zZP x≠some d':=by
  intro j oj d' h1 h2 h3 h4
  have:=List.all_eq_true.1 hl.2 (oj,j) (by rw[List.mem_zipIdx_iff_getElem?];exact h3)
  simp only[h1,h2,decide_true,Bool.and_self,Bool.not_true,Bool.false_or,h4,Bool.and_eq_true,Bool.not_eq_true',decide_eq_false_iff_not] at this
  exact this
 have hoT:(all.take m)[i]?=some all[i]:=by rw[List.getElem?_take,if_pos him];exact ho
 obtain ⟨xv,hxv,hcert⟩:=zFm (all.take m) xs 0 i T0 _ hc0 hoT
 have hv:xv=hev (runM (fun k=>decide (k<0+i)) 0 (all.take m) xs T0) x:=by
  unfold zDw at hcert
  rw[hg] at hcert
  rcases hcert with ⟨p,H',_,hr⟩ | ⟨f,args,tys,fid,caps,n,R,args',hop',_⟩ | ⟨rv',name,args,tys,t,y,fid,n,R,args',hop',_⟩ | ⟨t,len,parts,p,H',hop',_⟩
  ·rcases hop with hop | hop <;> rw[hop] at hr
   ·have:some (True,hev (runM (fun k=>decide (k<0+i)) 0 (all.take m) xs T0) x,H)=some (p,xv,H'):=hr
    cases this;rfl
   ·have:some (True,hev (runM (fun k=>decide (k<0+i)) 0 (all.take m) xs T0) x,H)=some (p,xv,H'):=hr
    cases this;rfl
  ·rcases hop with hop | hop <;> rw[hop] at hop' <;> cases hop'
  ·rcases hop with hop | hop <;> rw[hop] at hop' <;> cases hop'
  ·rcases hop with hop | hop <;> rw[hop] at hop' <;> cases hop'
 have e1:runM (fun k=>decide (k<i+1)) 0 (all.take m) xs T0=updO (runM (fun k=>decide (k<0+i)) 0 (all.take m) xs T0) all[i].dst xv:=by
  refine zBx (all.take m) xs 0 i T0 _ xv hoT hxv ?_ ?_ ?_ ?_
  ·simp
  ·simp
  ·intro k hk
   simp only[Nat.zero_add] at hk⊢
   congr 1
   simp only[eq_iff_iff]
   omega
  ·intro k hk hS
   simp only[Nat.zero_add,decide_eq_true_eq] at hS
   omega
 have e2:runM (fun k=>decide (k<i+1)) 0 (all.take m) xs T0 d=runM (fun _=>true) 0 (all.take m) xs T0 d:=by
  refine zBG _ _ _ _ _ rfl fun j hj=>?_
  obtain ⟨oj,h1,h2,h3⟩:=zB9 hj
  simp only[Nat.zero_add,decide_eq_true_eq]
  rcases Nat.lt_or_ge i j with h | h
  ·exact absurd rfl (nob j oj d h h3 h1 h2).1
  ·omega
 have e3:hev (runM (fun k=>decide (k<0+i)) 0 (all.take m) xs T0) x=hev (runM (fun _=>true) 0 (all.take m) xs T0) x:=by
  refine zEV fun t ht=>zBG _ _ _ _ _ rfl fun j hj=>?_
  obtain ⟨oj,h1,h2,h3⟩:=zB9 hj
  simp only[Nat.zero_add,decide_eq_true_eq]
  rcases Nat.lt_trichotomy i j with h | h | h
  ·exact absurd (by rw[ht];rfl) (nob j oj t h h3 h1 h2).2
  ·subst h
   rw[ho] at h1;cases h1
   rw[hd] at h2;cases h2
   exact absurd (by rw[ht];rfl) hl.1
  ·exact h
 rw[←e2,e1,hd,←e3,←hv]
 simp[updO,upd]
theorem zVA {H:Heap} (hA:AnyOk2 N m all) (hml:m≤all.length) {G0:List (Option OG)} {FP0:Nat→List Nat} {Z0:Nat→Prop} {ds:List Nat} {T0:Nat→HV} {xs:List HV} {w0:World} {n' : Nat} (hc0:zNj P H all (all.take m) T0 xs)
  (hex:ex P N L Q n' [.ops all (all.drop m)] (runM (fun _=>true) 0 (all.take m) xs T0) H) (hB:∀Z FP w,Evo Z0 FP0 w0 Z FP w→Bo ro B FP w) :
  ∀(fuel:Nat) (listed:Array Bool) (Z:Nat→Prop) (G:List (Option OG)) (FP:Nat→List Nat) (a:Act) (w:World),listed.size=all.length→left listed≤fuel→zCD all listed→(∀j,m≤j→j<all.length→listed.getD j false=false)→
  St N B Z G FP ds (runM (fun k=>listed.getD k false) 0 (all.take m) xs T0) H a w→GLt L G0 G→Evo Z0 FP0 w0 Z FP w→wpAnyIn (Wd ro) mm P .any all.toArray (Fin Q N L B Z0 G0 FP0 w0) fuel listed a w:=by
 have go:∀(fuel:Nat) (listed:Array Bool) (Z:Nat→Prop) (G:List (Option OG)) (FP:Nat→List Nat) (a:Act) (w:World),listed.size=all.length→left listed≤fuel→zCD all listed→(∀j,m≤j→j<all.length→listed.getD j false=false)→
   St N B Z G FP ds (runM (fun k=>listed.getD k false) 0 (all.take m) xs T0) H a w→GLt L G0 G→Evo Z0 FP0 w0 Z FP w→(∀k,k<m→listed.getD k false=true∨zF8 m all k=true)→wpAnyIn (Wd ro) mm P .any all.toArray (Fin Q N L B Z0 G0 FP0 w0) fuel listed a w:=by
  intro fuel listed Z G FP a w hsz hf hc hm hs hG hE hall
  refine zY8 (Q:=Q) (L:=L) hA fuel m n' listed _ _ H Z G FP a w hsz hf hc (Nat.le_refl _) hml (fun i hi hil=>⟨fun hx=>(by rw[hm i hi hil] at hx;cases hx),fun hx=>(by omega)⟩) (fun i hi _ hx=>?_) ⟨fun t ht=>?_,fun i d x hi hil hli hmo=>?_⟩ hex (hB Z FP w hE) hs hG hE
  ·rcases hall i hi with h | h
   ·rw[hx] at h;cases h
   ·exact h
  ·refine zBG _ _ _ _ _ rfl fun j hj=>?_
   obtain ⟨oj,h1,h2,h3⟩:=zB9 hj
   simp only[Nat.zero_add]
   rcases hall j h3 with h | h
   ·exact h
   ·cases hx:listed.getD j false with
    | true=>rfl
    | false =>
     exfalso
     unfold zF8 at h
     split at h
     ·rename_i d x hmo
      have hmo2:zD3 oj=some (d,x):=by rw[h1] at hmo;simpa using hmo
      obtain ⟨_,hd,_⟩:=zBo hmo2
      rw[h2] at hd;cases hd
      exact ht j t x h3 hx hmo rfl
     ·cases h
  ·rcases hall i hi with h | h
   ·rw[hli] at h;cases h
   ·exact zZz hc0 hi hil h hmo
 intro fuel
 induction fuel with
 | zero =>
  intro listed Z G FP a w hsz hf hc hm hs hG hE
  refine go 0 listed Z G FP a w hsz hf hc hm hs hG hE fun k hk=>.inl (zBp (Nat.le_zero.1 hf) k (by omega))
 | succ fuel ih =>
  intro listed Z G FP a w hsz hf hc hm hs hG hE
  by_cases hall:∀k,k<m→listed.getD k false=true∨zF8 m all k=true
  ·exact go (fuel+1) listed Z G FP a w hsz hf hc hm hs hG hE hall
  ·have hex2:∃k,k<m∧listed.getD k false=false∧zF8 m all k=false:=by
    apply Classical.byContradiction
    intro hn
    refine hall fun k h1=>?_
    cases hx:listed.getD k false with
    | true=>exact .inl rfl
    | false =>
     cases hy:zF8 m all k with
     | true=>exact .inr rfl
     | false=>exact absurd ⟨k,h1,hx,hy⟩ hn
   obtain ⟨k0,hk1,hk2,hk3⟩:=hex2
   have hkl0:k0<all.length:=by omega
   obtain ⟨k,⟨hk4,hk5⟩,hkl⟩:=zU (p:=fun k=>k<all.length∧listed.getD k false=false) ⟨k0,hkl0,hk2⟩
   have hkr:k∈Region.ready .any all.toArray listed:=zAh hA.base hsz hk4 hk5 (fun j hj=>by
    cases hx:listed.getD j false with
    | true=>rfl
    | false=>have:=hkl j ⟨by omega,hx⟩;omega)
   refine ⟨fun h0=>by rw[h0] at hkr;simp at hkr,fun i hi=>?_⟩
   obtain ⟨h1,o,ho,ha⟩:=mem_ready.1 hi
   rw[List.getElem?_toArray] at ho
   have hil:=(List.getElem?_eq_some_iff.1 ho).1
   have hnl:=zAJ h1
   have hnf:listed.getD i false=false:=by rw[Array.getD_eq_getD_getElem?,hnl];rfl
   have him:i<m:=by
    rcases Nat.lt_or_ge i m with h' | h'
    ·exact h'
    ·have:=z6 hA.base hc hi (hA.tail k0 i _ o (by omega) (List.getElem?_eq_getElem hkl0) ho h' (.inr hk3))
     rw[hk2] at this;cases this
   have hoT:(all.take m)[i]?=some o:=by rw[List.getElem?_take,if_pos him];exact ho
   obtain ⟨x,hx,hcert⟩:=zFm (all.take m) xs 0 i T0 o hc0 hoT
   obtain ⟨hok,hnd⟩:=hA.base.ok i o ho
   have hsee:∀t∈zBY all o,runM (fun k=>decide (k<0+i)) 0 (all.take m) xs T0 t=runM (fun k=>listed.getD k false) 0 (all.take m) xs T0 t:=by
    intro t ht
    refine zBG _ _ _ _ _ rfl fun j hj=>?_
    obtain ⟨oj,hoj,hd,hjm⟩:=zB9 hj
    simp only[Nat.zero_add]
    rcases Nat.lt_trichotomy j i with h' | h' | h'
    ·have:=z6 hA.base hc hi (hA.base.ord j i oj o h' hoj ho (.inr (by simp[zBT,hd,ht])))
     rw[this];simp[h']
    ·subst h';rw[hnf];simp
    ·have hjl:=(List.getElem?_eq_some_iff.1 hoj).1
     cases hx:listed.getD j false with
     | false=>simp;omega
     | true =>
      have:=zAL hA.base hc j i oj hoj (hc j oj hoj hx) (hA.base.ord i j o oj h' ho hoj (.inr (by
       unfold zBT
       rw[hd]
       simp[ht])))
      rw[hnf] at this;cases this
   have hcert':=zBU hsee hcert
   have hdall:all.all (zBR N)=true:=by
    rw[List.all_eq_true]
    intro o' ho'
    obtain ⟨j',hj'⟩:=List.mem_iff_getElem?.1 ho'
    have:=(hA.base.ok j' o' hj').1
    simp only[zH,Bool.and_eq_true] at this
    exact this.1
   refine zE8 hdall ho hok hnd hcert' hs fun Z' G' FP' a' w' hs' hG' hE'=>?_
   have hadd:=zC9 hnl
   refine ih (listed.setIfInBounds i true) Z' G' FP' a' w' (by simpa using hsz) (by omega) (zBD hc (fun o' ho' e he hb=>by rw[ho] at ho';cases ho';exact ha e (by simpa using he) hb)) (fun j h1 h2=>?_) ?_ (hG.trans (GLt.of hG.len hG')) (hE.trans hE')
   ·cases hx:(listed.setIfInBounds i true).getD j false with
    | false=>rfl
    | true =>
     rcases zT hx with rfl | hx
     ·omega
     ·rw[hm j h1 h2] at hx;cases hx
   ·have e:runM (fun k=>(listed.setIfInBounds i true).getD k false) 0 (all.take m) xs T0=updO (runM (fun k=>listed.getD k false) 0 (all.take m) xs T0) o.dst x:=by
     refine zBx (all.take m) xs 0 i T0 o x hoT hx ?_ ?_ ?_ ?_
     ·simp only[Nat.zero_add];exact zAH (by omega)
     ·simp only[Nat.zero_add];exact hnf
     ·intro k hk
      simp only[Nat.zero_add] at hk
      simp only[Array.getD_eq_getD_getElem?,Array.getElem?_setIfInBounds_ne (Ne.symm hk)]
     ·intro k hk hS t ht hdk
      simp only[Nat.zero_add] at hS
      obtain ⟨ok,hok',hd,_⟩:=zB9 hdk
      have:=zAL hA.base hc k i ok hok' (hc k ok hok' hS) (hA.base.ord i k o ok hk ho hok' (.inr (by
       unfold zBT
       rw[ht]
       simp[hd])))
      rw[hnf] at this;cases this
    rw[e];exact hs'
end go
theorem HW.anyLate {N L:Nat} {Q:Exit→KS} {id:Nat} {all:List Oper} {T:Nat→HV} (n m:Nat) (hm:P.follows .mixedOrders=true) (hB:z2F N m all=true) (hml:m≤all.length)
  (h:ex P N L Q n [.quiet all (all.take m),.ops all (all.drop m)] T H):HW P N L (.region id all.toArray true) Q T H:=by
 obtain ⟨xs,n',hc,hex⟩:=zMt (all.take m) 0 n T h
 intro ro mm B Z G FP ds a w hB' hL hs
 have hA:=zRJ hB
 have hEv:Evo Z FP w Z FP { w with drawn:=w.drawn+1 }:=⟨rfl,rfl,rfl,Nat.le_refl _,fun _ _ _=>rfl,fun _ h=>h,fun _ h=>.inl h,fun id b hb=>.inr ⟨id,hb⟩⟩
 have hi:HInv Z G FP H { w with drawn:=w.drawn+1 }:=hs.inv.keep (Nat.le_refl _) (fun _ _=>rfl)
 have hs':=hs.evo hi (GLe.refl _) hEv
 refine wpIn_region_any hm ?_
 refine zVA (ds:=ds) (w0:=w) hA hml hc hex (fun Z' FP' w' hE=>hB'.evo hE) _ _ Z G FP _ _ (by simp) ?_ ?_ (fun j h1 h2=>?_) ?_ (GLt.refl hL) hEv
 ·have:∀k:Nat,left (Array.replicate k false)=k:=by intro k;simp[left]
  rw[this];simp
 ·intro j o hj hl
  exfalso
  have hjl:=(List.getElem?_eq_some_iff.1 hj).1
  simp[Array.getD_eq_getD_getElem?,hjl] at hl
 ·simp[Array.getD_eq_getD_getElem?,h2]
 ·have e:runM (fun k=>(Array.replicate all.toArray.size false).getD k false) 0 (all.take m) xs T=T:=by
   funext t
   rw[zB2]
   intro j _
   simp only[Array.getD_eq_getD_getElem?]
   by_cases hlt:0+j<all.toArray.size
   ·have:0+j<all.length:=by simpa using hlt
    rw[Array.getElem?_eq_getElem (by simpa using hlt)]
    simp
   ·rw[Array.getElem?_eq_none (by simpa using hlt)];rfl
  rw[e]
  exact hs'
end
end Go.Proofs.YtoknohandclcbaaGreat
