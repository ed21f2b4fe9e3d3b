/- Parts of the proof: HiT, HiCr, HiCs, HiDa, HiDb, Da, HiZb, HiDc, HiDd. -/
import Derived.Test.YtoknohandclcbaaGreatZc05
import Derived.IntWalk
set_option linter.unusedSectionVars false
set_option linter.unusedVariables false
set_option linter.unusedSimpArgs false
namespace Go.Proofs.YtoknohandclcbaaGreat
open Go.RowKit
theorem zUX {α β:Type} {o:Option α} {g:α→β} {f:β→Res}:zE (o.map g) f=zE o (fun a=>f (g a)):=by cases o <;> rfl
def isV:HV→Bool
 | .v _=>true
 | .sl _=>true
 | .fp _ _ _=>true
 | _=>false
section
variable {α:Type}
structure Plain (f:α→List HV) (n:Nat):Prop where
 len:∀a,(f a).length=n
 isv:∀a,(f a).all isV=true
variable {f:α→List HV} {n:Nat}
theorem z2I {h:HV} (hv:isV h=true):tv h=true:=by cases h <;> simp_all [isV,tv]
theorem z2J {h:HV} {m:Nat} (hv:isV h=true):nm m h=true:=by cases h <;> simp_all [isV,nm]
theorem zS9 {h:HV} (hv:isV h=true):fzo h=h:=by cases h <;> simp_all [isV,fzo]
theorem z2K {h:HV} {k:Nat} {H:Heap} (hv:isV h=true):fz k H h=h:=by
 cases k with
 | zero=>unfold fz;exact zS9 hv
 | succ k=>cases h <;> simp_all [isV,fz,fzo]
theorem zQt:∀{l:List HV},l.all isV=true→tvs l=true
 | [],_=>rfl
 | h::t,hl=>by
  simp only[List.all_cons,Bool.and_eq_true] at hl
  simp only[tvs,z2I hl.1,zQt hl.2,Bool.and_self]
theorem zHR:∀(a b:List HV),tvs (a++b)=(tvs a && tvs b)
 | [],b=>by simp[tvs]
 | h::t,b=>by simp only[List.cons_append,tvs,zHR t b,Bool.and_assoc]
theorem zST {m:Nat}:∀{l:List HV},l.all isV=true→nmL m l=true
 | [],_=>rfl
 | h::t,hl=>by
  simp only[List.all_cons,Bool.and_eq_true] at hl
  simp only[nmL,z2J hl.1,zST hl.2,Bool.and_self]
theorem zDA {m:Nat}:∀(a b:List (List HV)),nmR m (a++b)=(nmR m a && nmR m b)
 | [],b=>by simp[nmR]
 | h::t,b=>by simp only[List.cons_append,nmR,zDA t b,Bool.and_assoc]
theorem zTF {k:Nat} {H:Heap}:∀{l:List HV},l.all isV=true→l.map (fz k H)=l
 | [],_=>rfl
 | h::t,hl=>by
  simp only[List.all_cons,Bool.and_eq_true] at hl
  simp only[List.map_cons,z2K hl.1,zTF hl.2]
theorem zNu:∀{l:List HV},l.all isV=true→fzoL l=l
 | [],_=>rfl
 | h::t,hl=>by
  simp only[List.all_cons,Bool.and_eq_true] at hl
  simp only[fzoL,zS9 hl.1,zNu hl.2]
theorem Plain.rowsLen (h:Plain f n) (l:List α):zV (l.map f) n=True:=by
 simp only[zV,eq_iff_iff,iff_true]
 intro r hr
 obtain ⟨a,_,rfl⟩:=List.mem_map.1 hr
 exact h.len a
theorem Plain.tvs (h:Plain f n):∀l:List α,Go.Proofs.YtoknohandclcbaaGreat.tvs (l.map f).flatten=true
 | []=>rfl
 | a::l=>by
  simp only[List.map_cons,List.flatten_cons,zHR,zQt (h.isv a),h.tvs l,Bool.and_self]
theorem Plain.nmR {m:Nat} (h:Plain f n):∀l:List α,Go.Proofs.YtoknohandclcbaaGreat.nmR m (l.map f)=true
 | []=>rfl
 | a::l=>by simp only[List.map_cons,Go.Proofs.YtoknohandclcbaaGreat.nmR,zST (h.isv a),h.nmR l,Bool.and_self]
theorem Plain.fz {k:Nat} {H:Heap} (h:Plain f n) (l:List α):(l.map f).map (fun r=>r.map (Go.Proofs.YtoknohandclcbaaGreat.fz k H))=l.map f:=by
 rw[List.map_map]
 congr 1
 funext a
 exact zTF (h.isv a)
theorem Plain.fzoR (h:Plain f n) (l:List α):Go.Proofs.YtoknohandclcbaaGreat.fzoR (l.map f)=l.map f:=by
 rw[zBv,List.map_map]
 congr 1
 funext a
 exact zNu (h.isv a)
end
section
variable {H:Heap} {k:Nat}
theorem fz_v {x:Value}:fz (k+1) H (.v x)=.v x:=rfl
theorem yA4 {rows:List (List HV)}:fz (k+1) H (.sl rows)=.sl rows:=rfl
theorem yAa {rows:List (List HV)} {i o:Nat}:fz (k+1) H (.fp rows i o)=.fp rows i o:=rfl
theorem z2b:fz (k+1) H .any=.any:=rfl
theorem yAc {cs:List HV}:fz (k+1) H (.ag cs)=.ag (cs.map (fz k H)):=rfl
theorem yAb {f:Nat} {cs:List HV}:fz (k+1) H (.fn f cs)=.fn f (cs.map (fz k H)):=rfl
theorem yA8 {t:TypeId} {x:HV}:fz (k+1) H (.ic t x)=.ic t (fz k H x):=rfl
theorem yA9 {id off len:Nat}:fz (k+1) H (.hd id off len)=(match getO H id with
  | some ob=>if off+len=ob.rows.length then .sl ((ob.rows.drop off).map fun r=>r.map (fz k H)) else .any
  | none=>.any):=by
 simp only[fz,getO]
 cases h:H[id]? with
 | none=>rfl
 | some o'=>cases o' <;> rfl
theorem yA5 {id m r o:Nat}:fz (k+1) H (.pt id m r o)=(match getO H id with
  | some ob=>if m=ob.rows.length∧ob.rows.length≠0 then .fp (ob.rows.map fun r=>r.map (fz k H)) r o else .any
  | none=>.any):=by
 simp only[fz,getO]
 cases h:H[id]? with
 | none=>rfl
 | some o'=>cases o' <;> rfl
end
def srow (s:List UInt8):List HV:=[.v (str s)]
def strs (l:List (List UInt8)):List (List HV):=l.map srow
theorem srow_plain:Plain srow 1:=⟨fun _=>rfl,fun _=>rfl⟩
theorem zVT:strs []=[]:=rfl
theorem zRH {l:List (List UInt8)} {s:List UInt8}:strs l++[[.v (str s)]]=strs (l++[s]):=by simp[strs,srow]
theorem zL9 {a b:List (List UInt8)}:strs a++strs b=strs (a++b):=by simp[strs]
theorem zL8 {l:List (List UInt8)}:(strs l).length=l.length:=by simp[strs]
theorem zVU {l:List (List UInt8)} {i:Nat}:(strs l)[i]?=l[i]?.map srow:=by simp[strs]
theorem zRI {l:List (List UInt8)} {i:Nat}:(strs l).drop i=strs (l.drop i):=by simp[strs,List.map_drop]
theorem zRG {l:List (List UInt8)} {i:Nat}:(strs l).take i=strs (l.take i):=by simp[strs,List.map_take]
theorem zJS {l:List (List UInt8)}:zV (strs l) 1=True:=srow_plain.rowsLen l
theorem zVR {l:List (List UInt8)}:tvs (strs l).flatten=true:=srow_plain.tvs l
theorem zVS {l:List (List UInt8)} {m:Nat}:nmR m (strs l)=true:=srow_plain.nmR l
theorem zYa {l:List (List UInt8)} {k:Nat} {H:Heap}:(strs l).map (fun r=>r.map (fz k H))=strs l:=srow_plain.fz l
theorem zJT {l:List (List UInt8)}:fzoR (strs l)=strs l:=srow_plain.fzoR l
theorem zNZ:∀{l:List (List UInt8)},nzR (strs l)=true
 | []=>rfl
 | a::l=>by
  have:nzR (strs l)=true:=zNZ
  simp only[strs,List.map_cons,nzR,srow,nzL,nz,Bool.and_self,Bool.true_and] at this⊢
  exact this
def zYQ (l:List (List UInt8)):HV:=.ow 9 1 (strs l)
theorem w64 {x:Int} (h1:-9223372036854775808≤x) (h2:x<9223372036854775808):IntKind.i64.wrap x=x:=IntWalk.i64_in x ⟨h1,by omega⟩
theorem z3v {a:List UInt8}:c1 (.v (str a))=true:=rfl
theorem zNA:zBW []=some []:=rfl
theorem zKz {z:Int} {t:List (List HV)}:zBW ([.v (.int .u8 z)]::t)=(zBW t).map (UInt8.ofNat z.toNat::·):=rfl
theorem z3w {i:IntKind} {z:Int}:c1 (.v (.int i z))=true:=rfl
theorem z1X {b:Bool}:c1 (.v (.bool b))=true:=rfl
theorem zMy:c1 (.v (.slice none 0 0))=true:=rfl
theorem zMz:c1 (.v .nilIface)=true:=rfl
theorem yBD {rows:List (List HV)}:c1 (.sl rows)=true:=rfl
theorem yBH {i o n:Nat}:c1 (.hd i o n)=true:=rfl
theorem yBE {i n r o:Nat}:c1 (.pt i n r o)=true:=rfl
theorem yBI {rows:List (List HV)} {i o:Nat}:c1 (.fp rows i o)=true:=rfl
theorem yBJ {f:Nat} {cs:List HV}:c1 (.fn f cs)=true:=rfl
theorem yBG {t:TypeId} {x:HV}:c1 (.ic t x)=true:=rfl
theorem z2E {n:Nat}:(0≤(n:Int))=True:=by simp
theorem zPg {l:List (List UInt8)}:fzo (zYQ l)=.sl (strs l):=by simp only[zYQ,fzo,zJT]
attribute [go_sem] zPg
attribute [go_sem] List.all_cons List.all_nil z3v z3w z1X zMy zMz yBD yBH yBE yBI yBJ yBG z2E List.flatten_cons List.flatten_nil List.append_nil List.length_append List.take_length Int.le_refl Nat.le_refl Bool.and_true Bool.true_and Bool.and_self zNA zKz
attribute [go_sem] zUX fz_v yA4 yAa z2b yAc yAb yA8 yA9 yA5 zVT zRH zL9 zL8 zVU zRI zRG zJS zVR zVS zYa zJT zNZ srow
end Go.Proofs.YtoknohandclcbaaGreat
namespace Go.Proofs.YtoknohandclcbaaGreat
open Go.RowKit
section
variable {P:Program} {H:Heap} {K:KT}
theorem zLs {t:TypeId} {a:HV} (h:onR (zJl P H t a) K):zMX P H t a K:=by
 unfold zJl at h
 obtain ⟨x,hx,h⟩:=zC h
 unfold zMX;rw[hx]
 unfold zJk at h
 split at h
 ·rename_i id n r o _
  obtain ⟨ob,ho,h⟩:=zC h
  obtain ⟨row,hr,h⟩:=zC h
  have hcl:zC6 x H (.pt id n r o)=tvs ((row.drop o).take x.size):=by simp only[zC6,zX ho,hr]
  unfold zH2 at h
  split at h
  ·rename_i ht
   refine ⟨h.1.1,?_⟩
   rw[hcl,ht,if_pos rfl]
   unfold zCb
   simp only[zX ho,hr]
   exact ⟨h.1.2.1,h.1.2.2,ht,h.2⟩
  ·rename_i ht
   obtain ⟨_,hk,h⟩:=zC h
   have hk' : okTI x=true:=by split at hk;assumption;cases hk
   refine ⟨hk',?_⟩
   rw[hcl,ht,if_neg (by simp)]
   simp only[zGG]
   unfold zJi at h
   unfold zCb
   obtain ⟨ob',ho',h⟩:=zC h
   obtain ⟨row',hr',h⟩:=zC h
   simp only[zX ho',hr']
   exact ⟨h.1.1,h.1.2.1,h.1.2.2,h.2⟩
 ·rename_i rows i o _
  obtain ⟨row,hr,h⟩:=zC h
  refine ⟨h.1.1,?_⟩
  unfold zC6
  rw[if_pos rfl]
  unfold zCb
  simp only[hr]
  exact ⟨h.1.2.1,h.1.2.2,h.2⟩
 ·exact h.elim
theorem zSo {t:TypeId} {a:HV} {y:Value} {Z:Nat→Prop} {G:List (Option OG)} {FP:Nat→List Nat} {w:World} (hi:HInv Z G FP H w) (ha:RV Z G w a y []) (h:zMX P H t a K) :
  ∃v x H' G' FP',(do loadVar t (←asAddr y)).run P w=.ok v w∧K x H'∧RV Z G' w x v []∧HInv Z G' FP' H' w∧GLe G G'∧Evo Z FP w Z FP' w:=by
 have swap:∀{v:Value},(Instr.loadAt t y).run P w=.ok v w→(do loadVar t (←asAddr y)).run P w=.ok v w:=by
  intro v hv
  unfold Instr.loadAt at hv
  cases y with
  | pointer p=>cases p with
   | some ad=>simpa [Instr.sureAddr,asAddr] using hv
   | none=>simp[Instr.sureAddr] at hv
  | _=>simp[Instr.sureAddr] at hv
 unfold zMX at h
 split at h
 ·rename_i x hx
  obtain ⟨hk,h⟩:=h
  split at h
  ·obtain ⟨v,h',h1,h2,h3⟩:=zCM hx hk hi ha h
   exact ⟨v,h',H,G,FP,swap h1,h2,h3,hi,GLe.refl _,Evo.refl _ _ _⟩
  ·have:∃G' FP',HInv Z G' FP' (zGG x H a) w∧GLe G G'∧Evo Z FP w Z FP' w:=by
    unfold zGG
    split
    ·exact zEp _ _ _ _ _ hi
    ·exact ⟨G,FP,hi,GLe.refl _,Evo.refl _ _ _⟩
   obtain ⟨G',FP',hi',hG,hE⟩:=this
   have ha':=RV.nil_keep (w':=w) (fun _ _=>rfl) (fun _ h=>h) hG ha
   obtain ⟨v,h',h1,h2,h3⟩:=zCM hx hk hi' ha' h
   exact ⟨v,h',_,G',FP',swap h1,h2,h3,hi',hG,hE⟩
 ·exact h.elim
end
def retK (P:Program):List ResultVar→(Nat→HV)→Heap→(List HV→Heap→Prop)→Prop
 | [],_,H,K=>K [] H
 | .tmp i::r,T,H,K=>retK P r T H fun vs H'=>K (T i::vs) H'
 | .cell a t::r,T,H,K=>onR (zJl P H t (T a)) fun x H1=>retK P r T H1 fun vs H'=>K (x::vs) H'
def zDM:List HV→HV
 | [x]=>x
 | l=>.tu l
def endC (P:Program) (rs:List ResultVar) (L:Nat) (Q:HV→Heap→Prop) (e:Exit) (T:Nat→HV) (H:Heap):Prop :=
 match e with
 | .normal=>retK P rs T H fun vs H'=>endP L Q (zAl L (zDM vs) H')
 | .ret=>retK P rs T H fun vs H'=>endP L Q (zAl L (zDM vs) H')
 | _=>False
def zN6:ResultVar→Nat
 | .tmp i=>i
 | .cell a _=>a
section
variable {P:Program}
theorem zF4 {N:Nat} {tmps:Array Value} {Z:Nat→Prop} {w:World} {T:Nat→HV}:∀(rs:List ResultVar) (H:Heap) (K:List HV→Heap→Prop) (G:List (Option OG)) (FP:Nat→List Nat),retK P rs T H K→(∀r∈rs,zN6 r<N)→HInv Z G FP H w→(∀i,i<N→RV Z G w (T i) (tmps.getD i undef) [])→
  ∃vs ys H' G' FP',(rs.mapM (m:=Sem) fun r=>match r with
   | .tmp t=>pure (tmps.getD t undef)
   | .cell a t=>do loadVar t (←asAddr (tmps.getD a undef))).run P w=.ok ys w∧K vs H'∧RL Z G' w vs ys []∧vs.length=rs.length∧HInv Z G' FP' H' w∧GLe G G'∧Evo Z FP w Z FP' w
 | [],H,K,G,FP,h,_,hi,_=>⟨[],[],H,G,FP,by simp,h,by simp[RL],rfl,hi,GLe.refl _,Evo.refl _ _ _⟩
 | .tmp i::r,H,K,G,FP,h,hok,hi,hs=>by
  obtain ⟨vs,ys,H',G',FP',h1,h2,h3,h4,h5,h6,h7⟩:=zF4 r H _ G FP h (fun x hx=>hok x (by simp[hx])) hi hs
  refine ⟨T i::vs,tmps.getD i undef::ys,H',G',FP',?_,h2,?_,by simp[h4],h5,h6,h7⟩
  ·rw[List.mapM_cons]
   simp only[Sem.run_bind,Sem.run_pure,Result.andThen_ok,h1]
  ·simp only[RL]
   exact ⟨_,_,[],[],rfl,rfl,RV.nil_keep (fun _ _=>rfl) (fun _ h=>h) h6 (hs i (hok (.tmp i) (by simp))),h3⟩
 | .cell a t::r,H,K,G,FP,h,hok,hi,hs=>by
  obtain ⟨v,x,H1,G1,FP1,e1,e2,e3,e4,e5,e6⟩:=zSo hi (hs a (hok (.cell a t) (by simp))) (zLs h)
  obtain ⟨vs,ys,H',G',FP',h1,h2,h3,h4,h5,h6,h7⟩:=zF4 r H1 _ G1 FP1 e2 (fun x hx=>hok x (by simp[hx])) e4 (fun i hi'=>RV.nil_keep (fun _ _=>rfl) (fun _ h=>h) e5 (hs i hi'))
  refine ⟨x::vs,v::ys,H',G',FP',?_,h2,?_,by simp[h4],h5,e5.trans h6,e6.trans h7⟩
  ·rw[List.mapM_cons]
   simp only[Sem.run_bind] at e1
   simp only[Sem.run_bind,e1,Sem.run_pure,Result.andThen_ok,h1]
  ·simp only[RL]
   exact ⟨_,_,[],[],rfl,rfl,RV.nil_keep (fun _ _=>rfl) (fun _ h=>h) h6 e3,h3⟩
theorem zFp {fn:Func} {rs:List ResultVar} {tmps:Array Value} {w:World} {ys:List Value} {vs:List HV} {Z:Nat→Prop} {G:List (Option OG)} (hres:fn.results.toList=rs) (h:(rs.mapM (m:=Sem) fun r=>match r with
   | .tmp t=>pure (tmps.getD t undef)
   | .cell a t=>do loadVar t (←asAddr (tmps.getD a undef))).run P w=.ok ys w) (hl:RL Z G w vs ys []):∃v,(results fn tmps).run P w=.ok v w∧RV Z G w (zDM vs) v []:=by
 have hrun:(fn.results.mapM (m:=Sem) fun r=>match r with
   | .tmp t=>pure (tmps.getD t undef)
   | .cell a t=>do loadVar t (←asAddr (tmps.getD a undef))).run P w=.ok ys.toArray w:=by
  rw[Array.mapM_eq_mapM_toList,hres]
  simp only[map_eq_pure_bind,Sem.run_bind,h,Result.andThen_ok,Sem.run_pure]
 unfold results
 simp only[Sem.run_bind]
 erw [hrun]
 simp only[Result.andThen_ok,Sem.run_pure]
 refine ⟨_,rfl,?_⟩
 have hlen:=zS _ _ _ hl
 unfold zDM
 split
 ·rename_i x
  simp only[RL] at hl
  obtain ⟨y,ys',f1,f2,rfl,hf,h1,h2,_⟩:=hl
  obtain ⟨rfl,rfl⟩:=List.append_eq_nil_iff.1 hf.symm
  subst h2
  simpa using h1
 ·rename_i hne
  split
  ·rename_i h1'
   exfalso
   have hl1:vs.length=1:=by rw[←hlen];simpa using h1'
   match vs,hl1,hne with
   | [i],_,hne=>exact hne i rfl
  ·simp only[RV]
   exact ⟨_,rfl,hl⟩
def zWt (fn:Func) (N:Nat) (rs:List ResultVar) (k:Nat):Bool:=!(fn.name == "runtime.NumGoroutine") && fn.ntmps == N && rs.all (fun r=>decide (zN6 r<N)) && Nat.ble k N
theorem zU {f:FuncId} {fn:Func} {c:Code} {H:Heap} {args:List HV} {Q:HV→Heap→Prop} (N:Nat) (rs:List ResultVar) (hf:P.funcs[f]?=some fn) (hb:fn.body=some c) (hres:fn.results.toList=rs) (hok:zWt fn N rs args.length=true)
  (h:HW P N H.length c (endC P rs H.length Q) (T0 args) H):HCalls P f H args Q:=by
 simp only[zWt,Bool.and_eq_true,beq_iff_eq,Bool.not_eq_true'] at hok
 obtain ⟨⟨⟨hname,hNN⟩,hrlt⟩,hN0⟩:=hok
 subst hNN
 have hN:args.length≤fn.ntmps:=Nat.le_of_ble_eq_true hN0
 have hrlt:∀r∈rs,zN6 r<fn.ntmps:=fun i hi=>by simpa using List.all_eq_true.1 hrlt i hi
 have hne:¬fn.name = "runtime.NumGoroutine" :=by simpa using hname
 refine ⟨fun vals w=>by simp[callFunc,hf,hne,hb],fun Z G FP w vals hi ha=>?_⟩
 refine callsIn_wide.1 (callsIn_of_wp_marks (F:=Fence.wide) (n:=0) hf hb trivial ?_)
 have hlen:=zS _ _ _ ha
 have hsz:(vals.toArray++Array.replicate (fn.ntmps-vals.toArray.size) undef).size=fn.ntmps:=by simp;omega
 have hst:St fn.ntmps w.heap.size Z G FP [] (T0 args) H { tmps:=vals.toArray++Array.replicate (fn.ntmps-vals.toArray.size) undef,defers:=[] } w :=
  ⟨hi,hsz,zGq fn.ntmps ha,rfl,by simp,by simp⟩
 have hlenG:H.length=G.length:=hi.len.symm
 refine wpIn_mono (h none 0 w.heap.size Z G FP [] _ w ⟨Nat.le_refl _,by simp⟩ (by omega) hst) ?_
 rintro e a' w' ⟨T',H',Z',G',FP',ds',hend,hs',hG',hE'⟩
 have he:e=.normal∨e=.ret:=by cases e <;> simp[endC] at hend <;> simp
 have hend' : retK P rs T' H' fun vs H''=>endP H.length Q (zAl H.length (zDM vs) H''):=by rcases he with rfl | rfl <;> exact hend
 have goal:LeavesInM Fence.wide 0 P fn a'.tmps (Post Z G FP H w Q) a'.defers .returning w':=by
  rw[hs'.defers]
  refine zBt (ro:=none) ds' w' hs'.dsn (fun d hd=>(hs'.dsat d hd).2.1) ?_
  intro w2 ho ht hout hsz2 hk
  have hkeep:∀b,(Z' b∨∃id,b∈FP' id)→w2.heap[b]?=w'.heap[b]?:=by
   intro b hb
   refine hk b fun hc=>?_
   obtain ⟨_,_,h3,h4⟩:=hs'.dsat b hc
   rcases hb with hb | ⟨id,hb⟩
   ·exact h3 hb
   ·exact h4 id hb
  have hi2:HInv Z' G' FP' H' w2:=hs'.inv.keep (by omega) hkeep
  obtain ⟨vs,ys,H2,G2,FP2,r1,r2,r3,r4,hi3,hG2,hE3⟩:=zF4 rs H' _ G' FP' hend' hrlt hi2 (fun i hi'=>RV.nil_keep (fun b hb=>hkeep b (.inl hb)) (fun _ h=>h) (GLe.refl _) (hs'.tmps i hi'))
  obtain ⟨hnm,hQ⟩:=r2
  obtain ⟨v,hrun,hv⟩:=zFp (fn:=fn) hres r1 r3
  refine ⟨v,hrun,?_⟩
  obtain ⟨G3,FP3,fr,hp,hrv⟩:=zEb (L:=H.length) (zDM vs) G2 FP2 H2 v hi3 hv
  have hL3:H.length≤G3.length:=by have:=hp.le.len;have:=hG'.len;have:=hG2.len;omega
  have i4:=hp.inv.trunc H.length hnm
  have hE2:Evo Z FP w Z' FP2 w2:=by
   have:Evo Z FP w Z' FP' w2:=by
    refine ⟨ho.trans hE'.os,ht.trans hE'.tape,hout.trans hE'.output,by rw[hsz2];exact hE'.size,fun b hb hf=>?_,hE'.zle,hE'.znew,hE'.fnew⟩
    rw[hk b (fun hc=>by have:=(hs'.dsat b hc).1;omega)]
    exact hE'.keep b hb hf
   exact this.trans hE3
  refine ⟨v,_,_,Z',G3.take H.length,_,fr,rfl,hQ,?_,i4,hrv,hp.nodup,fun b hb=>?_,fun b hb=>?_,?_,?_⟩
  ·rw[List.length_take,←hp.inv.len];omega
  ·obtain ⟨⟨id,h1⟩,h2⟩:=hp.fr b hb
   refine ⟨hi3.zfp id b h1,hi3.flt id b h1,fun j hj=>?_⟩
   split at hj
   ·exact h2 j hj
   ·simp at hj
  ·obtain ⟨⟨id,h1⟩,h2⟩:=hp.fr b hb
   exact hE2.fnew id b h1
  ·refine ⟨by simp;omega,fun id hid=>?_⟩
   have hid' : id<H.length:=by omega
   rw[zAO hid']
   have hG3:GLt H.length G' G3:=GLt.of hG'.len (hG2.trans hp.le)
   exact (hG'.trans hG3).at_ id hid'
  ·refine ⟨hE2.os,hE2.tape,hE2.output,hE2.size,hE2.keep,hE2.zle,hE2.znew,fun id b hb=>?_⟩
   split at hb
   ·exact hE2.fnew id b (hp.fp id b hb)
   ·simp at hb
 rcases he with rfl | rfl <;> exact goal
end
section
variable {P:Program} {L:Nat} {T:Nat→HV} {H:Heap} {Q:HV→Heap→Prop} {K:List HV→Heap→Prop}
theorem zXg {rs:List ResultVar}:endC P rs L Q .ret T H=retK P rs T H fun vs H'=>endP L Q (zAl L (zDM vs) H'):=rfl
theorem zMn {rs:List ResultVar}:endC P rs L Q .normal T H=retK P rs T H fun vs H'=>endP L Q (zAl L (zDM vs) H'):=rfl
theorem zVq:retK P [] T H K=K [] H:=rfl
theorem zVp {i:Nat} {r:List ResultVar}:retK P (.tmp i::r) T H K=retK P r T H fun vs H'=>K (T i::vs) H':=rfl
def retL (P:Program) (res:Res) (r:List ResultVar) (T:Nat→HV) (K:List HV→Heap→Prop):Prop:=onR res fun x H1=>retK P r T H1 fun vs H'=>K (x::vs) H'
theorem zRo {a:Nat} {t:TypeId} {r:List ResultVar}:retK P (.cell a t::r) T H K=retL P (zJl P H t (T a)) r T K:=rfl
theorem zYw {p:Prop} {x:HV} {r:List ResultVar}:retL P (rv H p x) r T K=(p∧retK P r T H fun vs H'=>K (x::vs) H'):=rfl
theorem zRn {p:Prop} {x:HV} {r:List ResultVar}:retL P (some (p,x,H)) r T K=(p∧retK P r T H fun vs H'=>K (x::vs) H'):=rfl
theorem zPG {res res' : Res} {r:List ResultVar} (h:res=res'):retL P res r T K=retL P res' r T K:=by rw[h]
theorem zRl {x:HV}:zDM [x]=x:=rfl
theorem zPF {x y:HV} {l:List HV}:zDM (x::y::l)=.tu (x::y::l):=rfl
end
attribute [congr] zPG
attribute [go_sem] zVq zVp zRo zYw zRn zRl zPF
attribute [go_sem] Int.toNat_zero Int.toNat_one
attribute [go_sem ↓] zXg zMn
end Go.Proofs.YtoknohandclcbaaGreat
namespace Go.Proofs.YtoknohandclcbaaGreat
open Go.RowKit
section
variable {P:Program} {H:Heap} {k:List Item→KS} {all l:List Oper} {d:Option Nat} {r:List Item} {T:Nat→HV}
theorem zTU {t:TypeId} {c:Bool} {a b:List UInt8}:exRq k (zE (zBE P .add t c (.v (str a)) (.v (str b))) fun v=>rv H True (.v v)) all d l r T H=(a.length+b.length≤9223372036854775807∧k (.quiet all l::r) (updO T d (.v (str (a++b)))) H):=by
 have e1:(⟨a.toArray⟩:ByteArray).size=a.length:=by simp[ByteArray.size]
 have e2:(⟨b.toArray⟩:ByteArray).size=b.length:=by simp[ByteArray.size]
 have e3:(⟨a.toArray⟩:ByteArray)++(⟨b.toArray⟩:ByteArray)=⟨(a++b).toArray⟩:=by
  apply ByteArray.ext
  apply Array.ext'
  simp[ByteArray.data_append]
 have e4:zBE P .add t c (.v (str a)) (.v (str b))=if a.length+b.length≤9223372036854775807 then some (str (a++b)) else none:=by
  show (if (⟨a.toArray⟩:ByteArray).size+(⟨b.toArray⟩:ByteArray).size≤9223372036854775807 then some (Value.string ((⟨a.toArray⟩:ByteArray)++(⟨b.toArray⟩:ByteArray))) else none)=_
  rw[e1,e2,e3];rfl
 rw[e4]
 by_cases h:a.length+b.length≤9223372036854775807
 ·simp only[h,if_true,zDJ,true_and]
  show (True∧_)=_
  simp
 ·simp only[h,if_false,zEy,false_and]
  rfl
end
attribute [go_sem] zTU
end Go.Proofs.YtoknohandclcbaaGreat
namespace Go.Proofs.YtoknohandclcbaaGreat
open Go.RowKit
section
variable {P:Program}
theorem HCalls.shut {f:FuncId} {H:Heap} {args:List HV} {Q:HV→Heap→Prop} (h:HCalls P f H args Q) (hnm:∀r H',Q r H'→H=[]∧H'=[]):HCalls P f H args (fun r H'=>∃r0,Q r0 H'∧r=fzo r0):=by
 refine ⟨h.1,fun Z G FP w vals hi ha=>Calls.mono (h.2 Z G FP w vals hi ha) ?_⟩
 rintro e w' ⟨v,r,H',Z',G',FP',fr,rfl,hQ,hlen,hi',hr,hnd,hfr1,hfr2,hG,hE⟩
 obtain ⟨rfl,rfl⟩:=hnm r H' hQ
 refine ⟨v,fzo r,[],fun b=>Z' b∨b∈fr,G',FP',[],rfl,⟨r,hQ,rfl⟩,rfl,?_,?_,by simp,by simp,by simp,hG,⟨hE.os,hE.tape,hE.output,hE.size,hE.keep,fun b h=>.inl (hE.zle b h),fun b hb=>?_,hE.fnew⟩⟩
 ·refine hi'.zmore (fun b hb=>.inl hb) (fun b hb=>?_) (fun id b hb hz=>?_)
  ·rcases hb with hb | hb
   ·exact hi'.zlt b hb
   ·exact (hfr1 b hb).2.1
  ·rcases hz with hz | hz
   ·exact hi'.zfp id b hb hz
   ·exact (hfr1 b hz).2.2 id hb
 ·exact RV.nil_keep (fun _ _=>rfl) (fun _ h=>h) (zBD G') (zBQ (Z':=fun b=>Z' b∨b∈fr) r G' v fr ⟨fun b hb=>.inl hb,fun b hb=>.inr hb⟩ hr)
 ·rcases hb with hb | hb
  ·exact hE.znew b hb
  ·rcases hfr2 b hb with h | h
   ·exact .inr (.inl h)
   ·exact .inr (.inr h)
theorem HFn.shut {f:FuncId} {args:List HV} {R R' : HV} (h:HFn P f args R) (hR:fzo R=R'):HFn P f args R':=by
 subst hR
 have h' : HFn P f args R:=h
 refine ⟨h'.1,fun Z G FP w vals hi ha=>Calls.mono (h'.2 Z G FP w vals hi ha) ?_⟩
 rintro e w' ⟨v,r,H',Z',G',FP',fr,rfl,rfl,hlen,hi',hr,hnd,hfr1,hfr2,hG,hE⟩
 refine ⟨v,fzo r,H',fun b=>Z' b∨b∈fr,G',FP',[],rfl,rfl,hlen,?_,?_,by simp,by simp,by simp,hG,⟨hE.os,hE.tape,hE.output,hE.size,hE.keep,fun b h=>.inl (hE.zle b h),fun b hb=>?_,hE.fnew⟩⟩
 ·refine hi'.zmore (fun b hb=>.inl hb) (fun b hb=>?_) (fun id b hb hz=>?_)
  ·rcases hb with hb | hb
   ·exact hi'.zlt b hb
   ·exact (hfr1 b hb).2.1
  ·rcases hz with hz | hz
   ·exact hi'.zfp id b hb hz
   ·exact (hfr1 b hz).2.2 id hb
 ·exact RV.nil_keep (fun _ _=>rfl) (fun _ h=>h) (zBD G') (zBQ (Z':=fun b=>Z' b∨b∈fr) r G' v fr ⟨fun b hb=>.inl hb,fun b hb=>.inr hb⟩ hr)
 ·rcases hb with hb | hb
  ·exact hE.znew b hb
  ·rcases hfr2 b hb with h | h
   ·exact .inr (.inl h)
   ·exact .inr (.inr h)
theorem HCalls.plain {f:FuncId} {args:List HV} {R:HV} {H:Heap} (h:HFn P f args R) (hnm:nmL 0 args=true):HCalls P f H args (fun r H'=>r=R∧H'=H):=by
 refine ⟨h.1,fun Z G FP w vals hi ha=>?_⟩
 have ha' : RL Z [] w args vals []:=by
  have:=zAp args 0 G vals [] hnm ha
  simpa using this
 refine Calls.mono (h.2 Z [] _ w vals (HInv.empty hi.zlt hi.glob) ha') ?_
 rintro e w' ⟨v,r,H',Z',G',FP',fr,rfl,rfl,hlen,hi',hr,hnd,hfr1,hfr2,hG,hE⟩
 have hk:∀b,b<w.heap.size→w'.heap[b]?=w.heap[b]?:=fun b hb=>hE.keep b hb (by simp)
 have hnew:∀b∈fr,w.heap.size≤b:=fun b hb=>by
  rcases hfr2 b hb with h | ⟨id,h⟩
  ·exact h
  ·simp at h
 have hznew:∀b,Z' b→Z b∨w.heap.size≤b:=fun b hb=>by
  rcases hE.znew b hb with h | h | ⟨id,h⟩
  ·exact .inl h
  ·exact .inr h
  ·simp at h
 have hH' : H'=[]:=List.eq_nil_of_length_eq_zero hlen
 subst hH'
 have hG' : G'=[]:=List.eq_nil_of_length_eq_zero hi'.len
 subst hG'
 refine ⟨v,r,H,Z',G,FP,fr,rfl,⟨rfl,rfl⟩,rfl,?_,RV.keep (fun _ _=>rfl) (fun _ h=>h) (zBD G) r v fr (fun _ _=>rfl) hr,hnd,fun b hb=>?_,fun b hb=>.inl (hnew b hb),GLe.refl _,⟨hE.os,hE.tape,hE.output,hE.size,fun b hb _=>hk b hb,hE.zle,fun b hb=>?_,fun id b hb=>.inr ⟨id,hb⟩⟩⟩
 ·refine (hi.keep hE.size (fun b hb=>hk b (by
   rcases hb with hb | ⟨id,hb⟩
   ·exact hi.zlt b hb
   ·exact hi.flt id b hb))).zmore hE.zle hi'.zlt (fun id b hb hz=>?_)
  rcases hznew b hz with h | h
  ·exact hi.zfp id b hb h
  ·have:=hi.flt id b hb;omega
 ·refine ⟨(hfr1 b hb).1,(hfr1 b hb).2.1,fun id hc=>?_⟩
  have:=hi.flt id b hc;have:=hnew b hb;omega
 ·rcases hznew b hb with h | h
  ·exact .inl h
  ·exact .inr (.inl h)
section
variable {k:List Item→KS} {all l:List Oper} {d:Option Nat} {r:List Item} {T:Nat→HV} {H:Heap}
theorem zD {fid:Nat} {args args' : List HV} {R:HV} (spec:HFn P fid args' R) (hargs:args=args') (hnm:nmL 0 args=true) (h:k (.ops all l::r) (updO T d (zAH R H).1) (zAH R H).2):zFY k P fid H args all d l r T:=by
 subst hargs
 exact ⟨_,HCalls.plain spec hnm,fun x H' hx _=>by obtain ⟨rfl,rfl⟩:=hx;exact h⟩
end
def endF (P:Program) (rs:List ResultVar) (m:Nat) (Q:HV→Prop) (e:Exit) (T:Nat→HV) (H:Heap):Prop :=
 match e with
 | .normal=>retK P rs T H fun vs H'=>Q (fz m H' (zDM vs))
 | .ret=>retK P rs T H fun vs H'=>Q (fz m H' (zDM vs))
 | _=>False
theorem zCu {f:FuncId} {fn:Func} {c:Code} {args:List HV} {R:HV} (m:Nat) (N:Nat) (rs:List ResultVar) (hf:P.funcs[f]?=some fn) (hb:fn.body=some c) (hres:fn.results.toList=rs) (hok:zWt fn N rs args.length=true)
  (h:HW P N 0 c (endF P rs m (fun x=>x=R)) (T0 args) []):HFn P f args R:=by
 simp only[zWt,Bool.and_eq_true,beq_iff_eq,Bool.not_eq_true'] at hok
 obtain ⟨⟨⟨hname,hNN⟩,hrlt⟩,hN0⟩:=hok
 subst hNN
 have hN:args.length≤fn.ntmps:=Nat.le_of_ble_eq_true hN0
 have hrlt:∀r∈rs,zN6 r<fn.ntmps:=fun i hi=>by simpa using List.all_eq_true.1 hrlt i hi
 have hne:¬fn.name = "runtime.NumGoroutine" :=by simpa using hname
 refine ⟨fun vals w=>by simp[callFunc,hf,hne,hb],fun Z G FP w vals hi ha=>?_⟩
 refine callsIn_wide.1 (callsIn_of_wp_marks (F:=Fence.wide) (n:=0) hf hb trivial ?_)
 have hlen:=zS _ _ _ ha
 have hsz:(vals.toArray++Array.replicate (fn.ntmps-vals.toArray.size) undef).size=fn.ntmps:=by simp;omega
 have hst:St fn.ntmps w.heap.size Z G FP [] (T0 args) [] { tmps:=vals.toArray++Array.replicate (fn.ntmps-vals.toArray.size) undef,defers:=[] } w :=
  ⟨hi,hsz,zGq fn.ntmps ha,rfl,by simp,by simp⟩
 have hG0:G=[]:=List.eq_nil_of_length_eq_zero hi.len
 refine wpIn_mono (h none 0 w.heap.size Z G FP [] _ w ⟨Nat.le_refl _,by simp⟩ (by omega) hst) ?_
 rintro e a' w' ⟨T',H',Z',G',FP',ds',hend,hs',hG',hE'⟩
 have he:e=.normal∨e=.ret:=by cases e <;> simp[endF] at hend <;> simp
 have hend' : retK P rs T' H' fun vs H''=>fz m H'' (zDM vs)=R:=by rcases he with rfl | rfl <;> exact hend
 have goal:LeavesInM Fence.wide 0 P fn a'.tmps (Post Z G FP [] w (fun r _=>r=R)) a'.defers .returning w':=by
  rw[hs'.defers]
  refine zBt (ro:=none) ds' w' hs'.dsn (fun d hd=>(hs'.dsat d hd).2.1) ?_
  intro w2 ho ht hout hsz2 hk
  have hkeep:∀b,(Z' b∨∃id,b∈FP' id)→w2.heap[b]?=w'.heap[b]?:=by
   intro b hb
   refine hk b fun hc=>?_
   obtain ⟨_,_,h3,h4⟩:=hs'.dsat b hc
   rcases hb with hb | ⟨id,hb⟩
   ·exact h3 hb
   ·exact h4 id hb
  have hi2:HInv Z' G' FP' H' w2:=hs'.inv.keep (by omega) hkeep
  obtain ⟨vs,ys,H2,G2,FP2,r1,r2,r3,r4,hi3,hG2,hE3⟩:=zF4 rs H' _ G' FP' hend' hrlt hi2 (fun i hi'=>RV.nil_keep (fun b hb=>hkeep b (.inl hb)) (fun _ h=>h) (GLe.refl _) (hs'.tmps i hi'))
  obtain ⟨v,hrun,hv⟩:=zFp (fn:=fn) hres r1 r3
  refine ⟨v,hrun,?_⟩
  have hE2:Evo Z FP w Z' FP2 w2:=by
   have:Evo Z FP w Z' FP' w2:=by
    refine ⟨ho.trans hE'.os,ht.trans hE'.tape,hout.trans hE'.output,by rw[hsz2];exact hE'.size,fun b hb hf=>?_,hE'.zle,hE'.znew,hE'.fnew⟩
    rw[hk b (fun hc=>by have:=(hs'.dsat b hc).1;omega)]
    exact hE'.keep b hb hf
   exact this.trans hE3
  have hzlt:∀b,Zall Z' FP2 b→b<w2.heap.size:=by
   rintro b (hb | ⟨id,hb⟩)
   ·exact hi3.zlt b hb
   ·exact hi3.flt id b hb
  have hfz:=zId hi3 m _ v [] (by simp) hv
  refine ⟨v,_,[],Zall Z' FP2,[],fun _=>[],[],rfl,r2,rfl,HInv.empty hzlt (hi3.glob.keep (fun b hb=>.inl hb) (fun _ _=>rfl)),hfz,by simp,by simp,by simp,?_,?_⟩
  ·subst hG0;exact GLe.refl _
  ·refine ⟨hE2.os,hE2.tape,hE2.output,hE2.size,hE2.keep,fun b hb=>.inl (hE2.zle b hb),fun b hb=>?_,fun id b hb=>by simp at hb⟩
   rcases hb with hb | ⟨id,hb⟩
   ·exact hE2.znew b hb
   ·rcases hE2.fnew id b hb with h | h
    ·exact .inr (.inl h)
    ·exact .inr (.inr h)
 rcases he with rfl | rfl <;> exact goal
section
variable {L:Nat} {T:Nat→HV} {H:Heap} {Q:HV→Prop} {m:Nat} {rs:List ResultVar}
theorem zXf:endF P rs m Q .ret T H=retK P rs T H fun vs H'=>Q (fz m H' (zDM vs)):=rfl
theorem zMm:endF P rs m Q .normal T H=retK P rs T H fun vs H'=>Q (fz m H' (zDM vs)):=rfl
end
end
attribute [go_sem] zXf zMm
end Go.Proofs.YtoknohandclcbaaGreat
namespace Go.Proofs.YtoknohandclcbaaGreat
open Go.RowKit
def isW:HV→Bool
 | .v _=>true
 | _=>false
section
variable {α:Type} {f:α→List HV} {n:Nat}
theorem zNg:∀{l:List HV},l.all isW=true→nzL l=true
 | [],_=>rfl
 | h::t,hl=>by
  simp only[List.all_cons,Bool.and_eq_true] at hl
  have:nz h=true:=by
   cases h <;> first | rfl | (have:=hl.1;simp[isW] at this)
  simp only[nzL,this,zNg hl.2,Bool.and_self]
theorem zDk (h:∀a,(f a).all isW=true):∀l:List α,nzR (l.map f)=true
 | []=>rfl
 | a::t=>by simp only[List.map_cons,nzR,zNg (h a),zDk h t,Bool.and_self]
theorem yA3 {k:Nat} {H:Heap} {cs:List HV}:fz (k+1) H (.tu cs)=.tu (cs.map (fz k H)):=rfl
end
attribute [go_sem] yA3
end Go.Proofs.YtoknohandclcbaaGreat
namespace Go.Proofs.YtoknohandclcbaaGreat
open Go.RowKit
set_option maxRecDepth 8000
structure Stp where
 op:Int
 reg:Int
 loc:Int
 n:Int
 to:Int
 deriving DecidableEq,Inhabited
structure Prg where
 init:List Int
 thr:List (List Stp)
structure Thd where
 pc:Int
 regs:List Int
 eq:Bool
 buf:List (Int×Int)
structure Sta where
 mem:List Int
 ths:List Thd
structure Pck where
 th:Int
 dr:Bool
 deriving DecidableEq,Inhabited
def irow (x:Int):List HV:=[.v (.int .i64 x)]
def ints (l:List Int):List (List HV):=l.map irow
theorem ints_flat:Plain irow 1:=⟨fun _=>rfl,fun _=>rfl⟩
theorem zW4:ints []=[]:=rfl
theorem zMO {a b:List Int}:ints a++ints b=ints (a++b):=by simp[ints]
theorem zAB {l:List Int}:(ints l).length=l.length:=by simp[ints]
theorem zW5 {l:List Int} {i:Nat}:(ints l)[i]?=l[i]?.map irow:=by simp[ints]
theorem zSe {l:List Int} {i:Nat}:(ints l).drop i=ints (l.drop i):=by simp[ints,List.map_drop]
theorem zSc {l:List Int} {i:Nat}:(ints l).take i=ints (l.take i):=by simp[ints,List.map_take]
theorem zFI {l:List Int}:zV (ints l) 1=True:=ints_flat.rowsLen l
theorem zNk {l:List Int}:tvs (ints l).flatten=true:=ints_flat.tvs l
theorem zEI {l:List Int} {m:Nat}:nmR m (ints l)=true:=ints_flat.nmR l
theorem zZ0 {l:List Int} {k:Nat} {H:Heap}:(ints l).map (fun r=>r.map (fz k H))=ints l:=ints_flat.fz l
theorem zAU {l:List Int}:fzoR (ints l)=ints l:=ints_flat.fzoR l
theorem zNl {l:List Int}:nzR (ints l)=true:=zDk (fun _=>rfl) l
attribute [go_sem] zW4 zMO zAB zW5 zSe zSc zFI zNk zEI zZ0 zAU zNl irow
def zOg (x:Stp):List HV:=[.v (.int .i64 x.op),.v (.int .i64 x.reg),.v (.int .i64 x.loc),.v (.int .i64 x.n),.v (.int .i64 x.to)]
def stps (l:List Stp):List (List HV):=l.map zOg
theorem stps_flat:Plain zOg 5:=⟨fun _=>rfl,fun _=>rfl⟩
theorem zVY:stps []=[]:=rfl
theorem zLb {a b:List Stp}:stps a++stps b=stps (a++b):=by simp[stps]
theorem zLa {l:List Stp}:(stps l).length=l.length:=by simp[stps]
theorem zVZ {l:List Stp} {i:Nat}:(stps l)[i]?=l[i]?.map zOg:=by simp[stps]
theorem zRL {l:List Stp} {i:Nat}:(stps l).drop i=stps (l.drop i):=by simp[stps,List.map_drop]
theorem zRK {l:List Stp} {i:Nat}:(stps l).take i=stps (l.take i):=by simp[stps,List.map_take]
theorem zJU {l:List Stp}:zV (stps l) 5=True:=stps_flat.rowsLen l
theorem zVV {l:List Stp}:tvs (stps l).flatten=true:=stps_flat.tvs l
theorem zVX {l:List Stp} {m:Nat}:nmR m (stps l)=true:=stps_flat.nmR l
theorem zYb {l:List Stp} {k:Nat} {H:Heap}:(stps l).map (fun r=>r.map (fz k H))=stps l:=stps_flat.fz l
theorem zJV {l:List Stp}:fzoR (stps l)=stps l:=stps_flat.fzoR l
theorem zVW {l:List Stp}:nzR (stps l)=true:=zDk (fun _=>rfl) l
attribute [go_sem] zVY zLb zLa zVZ zRL zRK zJU zVV zVX zYb zJV zVW zOg
def trow (x:List Stp):List HV:=[.sl (stps x)]
def thrs (l:List (List Stp)):List (List HV):=l.map trow
theorem thrs_flat:Plain trow 1:=⟨fun _=>rfl,fun _=>rfl⟩
theorem zVG:thrs []=[]:=rfl
theorem zL3 {a b:List (List Stp)}:thrs a++thrs b=thrs (a++b):=by simp[thrs]
theorem zL2 {l:List (List Stp)}:(thrs l).length=l.length:=by simp[thrs]
theorem zVH {l:List (List Stp)} {i:Nat}:(thrs l)[i]?=l[i]?.map trow:=by simp[thrs]
theorem zQw {l:List (List Stp)} {i:Nat}:(thrs l).drop i=thrs (l.drop i):=by simp[thrs,List.map_drop]
theorem zQv {l:List (List Stp)} {i:Nat}:(thrs l).take i=thrs (l.take i):=by simp[thrs,List.map_take]
theorem zJK {l:List (List Stp)}:zV (thrs l) 1=True:=thrs_flat.rowsLen l
theorem zVF {l:List (List Stp)}:tvs (thrs l).flatten=true:=thrs_flat.tvs l
theorem zNX {l:List (List Stp)} {m:Nat}:nmR m (thrs l)=true:=thrs_flat.nmR l
theorem zY7 {l:List (List Stp)} {k:Nat} {H:Heap}:(thrs l).map (fun r=>r.map (fz k H))=thrs l:=thrs_flat.fz l
theorem zFb {l:List (List Stp)}:fzoR (thrs l)=thrs l:=thrs_flat.fzoR l
attribute [go_sem] zVG zL3 zL2 zVH zQw zQv zJK zVF zNX zY7 zFb trow
def wrow (x:Int×Int):List HV:=[.v (.int .i64 x.1),.v (.int .i64 x.2)]
def wrts (l:List (Int×Int)):List (List HV):=l.map wrow
theorem wrts_flat:Plain wrow 2:=⟨fun _=>rfl,fun _=>rfl⟩
theorem zUu:wrts []=[]:=rfl
theorem zLV {a b:List (Int×Int)}:wrts a++wrts b=wrts (a++b):=by simp[wrts]
theorem zLU {l:List (Int×Int)}:(wrts l).length=l.length:=by simp[wrts]
theorem zUv {l:List (Int×Int)} {i:Nat}:(wrts l)[i]?=l[i]?.map wrow:=by simp[wrts]
theorem zQo {l:List (Int×Int)} {i:Nat}:(wrts l).drop i=wrts (l.drop i):=by simp[wrts,List.map_drop]
theorem zQm {l:List (Int×Int)} {i:Nat}:(wrts l).take i=wrts (l.take i):=by simp[wrts,List.map_take]
theorem zJH {l:List (Int×Int)}:zV (wrts l) 2=True:=wrts_flat.rowsLen l
theorem zUs {l:List (Int×Int)}:tvs (wrts l).flatten=true:=wrts_flat.tvs l
theorem zUt {l:List (Int×Int)} {m:Nat}:nmR m (wrts l)=true:=wrts_flat.nmR l
theorem zY4 {l:List (Int×Int)} {k:Nat} {H:Heap}:(wrts l).map (fun r=>r.map (fz k H))=wrts l:=wrts_flat.fz l
theorem zFa {l:List (Int×Int)}:fzoR (wrts l)=wrts l:=wrts_flat.fzoR l
theorem zNU {l:List (Int×Int)}:nzR (wrts l)=true:=zDk (fun _=>rfl) l
attribute [go_sem] zUu zLV zLU zUv zQo zQm zJH zUs zUt zY4 zFa zNU wrow
def zFc (x:Thd):List HV:=[.v (.int .i64 x.pc),.sl (ints x.regs),.v (.bool x.eq),.sl (wrts x.buf)]
def thds (l:List Thd):List (List HV):=l.map zFc
theorem thds_flat:Plain zFc 4:=⟨fun _=>rfl,fun _=>rfl⟩
theorem zVK:thds []=[]:=rfl
theorem zBR {x:Thd} {l:List Thd}:thds (x::l)=[.v (.int .i64 x.pc),.sl (ints x.regs),.v (.bool x.eq),.sl (wrts x.buf)]::thds l:=rfl
theorem zL5 {a b:List Thd}:thds a++thds b=thds (a++b):=by simp[thds]
theorem zL4 {l:List Thd}:(thds l).length=l.length:=by simp[thds]
theorem zVL {l:List Thd} {i:Nat}:(thds l)[i]?=l[i]?.map zFc:=by simp[thds]
theorem zRC {l:List Thd} {i:Nat}:(thds l).drop i=thds (l.drop i):=by simp[thds,List.map_drop]
theorem zQz {l:List Thd} {i:Nat}:(thds l).take i=thds (l.take i):=by simp[thds,List.map_take]
theorem zJN {l:List Thd}:zV (thds l) 4=True:=thds_flat.rowsLen l
theorem zVJ {l:List Thd}:tvs (thds l).flatten=true:=thds_flat.tvs l
theorem zNY {l:List Thd} {m:Nat}:nmR m (thds l)=true:=thds_flat.nmR l
theorem zY8 {l:List Thd} {k:Nat} {H:Heap}:(thds l).map (fun r=>r.map (fz k H))=thds l:=thds_flat.fz l
theorem zRB {l:List Thd}:fzoR (thds l)=thds l:=thds_flat.fzoR l
attribute [go_sem] zVK zL5 zL4 zVL zRC zQz zJN zVJ zNY zY8 zRB zFc
def prow (x:Pck):List HV:=[.v (.int .i64 x.th),.v (.bool x.dr)]
def pcks (l:List Pck):List (List HV):=l.map prow
theorem pcks_flat:Plain prow 2:=⟨fun _=>rfl,fun _=>rfl⟩
theorem zWN:pcks []=[]:=rfl
theorem zJq {l:List Pck} {x:Pck}:pcks l++[prow x]=pcks (l++[x]):=by simp[pcks]
theorem zMB {a b:List Pck}:pcks a++pcks b=pcks (a++b):=by simp[pcks]
theorem zMA {l:List Pck}:(pcks l).length=l.length:=by simp[pcks]
theorem zWO {l:List Pck} {i:Nat}:(pcks l)[i]?=l[i]?.map prow:=by simp[pcks]
theorem zSD {l:List Pck} {i:Nat}:(pcks l).drop i=pcks (l.drop i):=by simp[pcks,List.map_drop]
theorem zSC {l:List Pck} {i:Nat}:(pcks l).take i=pcks (l.take i):=by simp[pcks,List.map_take]
theorem zJr {l:List Pck}:zV (pcks l) 2=True:=pcks_flat.rowsLen l
theorem zWK {l:List Pck}:tvs (pcks l).flatten=true:=pcks_flat.tvs l
theorem zWM {l:List Pck} {m:Nat}:nmR m (pcks l)=true:=pcks_flat.nmR l
theorem zZK {l:List Pck} {k:Nat} {H:Heap}:(pcks l).map (fun r=>r.map (fz k H))=pcks l:=pcks_flat.fz l
theorem zDz {l:List Pck}:fzoR (pcks l)=pcks l:=pcks_flat.fzoR l
theorem zWL {l:List Pck}:nzR (pcks l)=true:=zDk (fun _=>rfl) l
attribute [go_sem] zWN zMB zMA zWO zSD zSC zJr zWK zWM zZK zDz zWL prow
abbrev prgH (p:Prg):HV:=.ag [.sl (ints p.init),.sl (thrs p.thr)]
abbrev staH (s:Sta):HV:=.ag [.sl (ints s.mem),.sl (thds s.ths)]
abbrev pckH (k:Pck):HV:=.ag [.v (.int .i64 k.th),.v (.bool k.dr)]
abbrev zBs (l:List Int):HV:=.ow 3 1 (ints l)
abbrev zSF (l:List Pck):HV:=.ow 74 2 (pcks l)
theorem zP5 {l:List Int} {x:Int}:ints l++[[.v (.int .i64 x)]]=ints (l++[x]):=by simp[ints,irow]
theorem zSd {l:List Int} {i:Nat} {x:Int}:(ints l).set i [.v (.int .i64 x)]=ints (l.set i x):=by simp[ints,irow,List.map_set]
theorem zW3 {n:Nat} {x:Int}:List.replicate n [HV.v (.int .i64 x)]=ints (List.replicate n x):=by simp[ints,irow]
theorem zO5 {l:List (Int×Int)} {x y:Int}:wrts l++[[.v (.int .i64 x),.v (.int .i64 y)]]=wrts (l++[(x,y)]):=by simp[wrts,wrow]
theorem zQn {l:List (Int×Int)} {i:Nat} {x y:Int}:(wrts l).set i [.v (.int .i64 x),.v (.int .i64 y)]=wrts (l.set i (x,y)):=by simp[wrts,wrow,List.map_set]
theorem zPP {l:List Pck} {x:Int} {b:Bool}:pcks l++[[.v (.int .i64 x),.v (.bool b)]]=pcks (l++[⟨x,b⟩]):=by simp[pcks,prow]
theorem zOh {l:List Stp} {a b c d e:Int}:stps l++[[.v (.int .i64 a),.v (.int .i64 b),.v (.int .i64 c),.v (.int .i64 d),.v (.int .i64 e)]]=stps (l++[⟨a,b,c,d,e⟩]):=by simp[stps,zOg]
theorem zO9 {l:List (List Stp)} {x:List Stp}:thrs l++[[.sl (stps x)]]=thrs (l++[x]):=by simp[thrs,trow]
theorem zOb {l:List Thd} {a:Int} {r:List Int} {e:Bool} {b:List (Int×Int)}:thds l++[[.v (.int .i64 a),.sl (ints r),.v (.bool e),.sl (wrts b)]]=thds (l++[⟨a,r,e,b⟩]):=by simp[thds,zFc]
theorem zRA {l:List Thd} {i:Nat} {a:Int} {r:List Int} {e:Bool} {b:List (Int×Int)}:(thds l).set i [.v (.int .i64 a),.sl (ints r),.v (.bool e),.sl (wrts b)]=thds (l.set i ⟨a,r,e,b⟩):=by simp[thds,zFc,List.map_set]
attribute [go_sem] zP5 zSd zW3 zO5 zQn zPP zOh zO9 zOb zRA
end Go.Proofs.YtoknohandclcbaaGreat
namespace Go.Proofs.YtoknohandclcbaaGreat
open Go.RowKit
section
variable {P:Program} {H:Heap}
theorem zJe {T T' : Nat→HV} {op:Op} (h:∀x∈op.operands.toList,hev T x=hev T' x):rop P T H op=rop P T' H op:=by
 have h1:∀x,x∈op.operands→hev T x=hev T' x:=fun x hx=>h x (by simpa using hx)
 clear h
 unfold rop
 split <;> simp only[Op.operands,Call.operands] at h1
 case h_6 t parts =>
  have e:parts.toList.map (fun p=>(p.1,hev T p.2))=parts.toList.map (fun p=>(p.1,hev T' p.2)):=by
   apply List.map_congr_left
   intro p hp
   rw[h1 p.2 (by simp;exact ⟨p.1,by simpa using hp⟩)]
  simp only[e]
 case h_7 t len parts =>
  have hp:∀p∈parts.toList,hev T p.2=hev T' p.2:=fun p hp=>h1 p.2 (by simp;exact ⟨p.1,by simpa using hp⟩)
  have e1:∀n (l:List (Nat×Operand)),(∀p∈l,hev T p.2=hev T' p.2)→zAw T n l=zAw T' n l:=by
   intro n l
   induction l with
   | nil=>intro _;rfl
   | cons p l ih =>
    intro hp
    simp only[zAw]
    rw[hp p (by simp),ih (fun q hq=>hp q (by simp[hq]))]
  have e2:parts.toList.map (fun p=>zQ (hev T p.2))=parts.toList.map (fun p=>zQ (hev T' p.2)):=by
   apply List.map_congr_left
   intro p hq
   rw[hp p hq]
  simp only[zAu,e2,e1 _ _ hp]
 case h_15 f first cs =>
  split
  ·have e:cs.toList.map (hev T)=cs.toList.map (hev T'):=zAS fun x hx=>h1 x (by simp;simpa using hx)
   simp only[e]
  ·rename_i y
   have e:cs.toList.map (hev T)=cs.toList.map (hev T'):=zAS fun x hx=>h1 x (by simp;exact .inr (by simpa using hx))
   simp only[e,h1 y (by simp)]
  ·rfl
 case h_19 t x lo hi _ _ =>
  have e1:lo.map (hev T)=lo.map (hev T'):=by cases lo with
   | none=>rfl
   | some y=>simp only[Option.map_some,h1 y (by simp)]
  have e2:hi.map (hev T)=hi.map (hev T'):=by cases hi with
   | none=>rfl
   | some y=>simp only[Option.map_some,h1 y (by simp)]
  simp only[e1,e2,h1 x (by simp)]
 all_goals first
  | rfl
  | (rename_i x;simp only[h1 x (by simp)];done)
  | (rename_i x _;simp only[h1 x (by simp)];done)
  | (rename_i x y _;simp only[h1 x (by simp),h1 y (by simp)];done)
  | (rename_i x y;simp only[h1 x (by simp),h1 y (by simp)];done)
  | (rename_i x y z;simp only[h1 x (by simp),h1 y (by simp),h1 z (by simp)];done)
  | (rename_i x y _ _;simp only[h1 x (by simp),h1 y (by simp)];done)
  | (rename_i x y z;simp only[h1 y (by simp),h1 z (by simp)];done)
  | (rename_i t x y;simp only[h1 x (by simp),h1 y (by simp)];done)
section step
variable {N L:Nat} {k:List Item→KS} {all l:List Oper} {r:List Item} {T T' : Nat→HV} {o:Oper} {B:Nat} {Z:Nat→Prop} {G:List (Option OG)} {FP:Nat→List Nat} {ds:List Nat} {a:Act} {w:World} {ro:Option Nat} {mm:Nat}
end step
section go
variable {N L m mm B:Nat} {ro:Option Nat} {all:List Oper} {Q:Exit→KS}
theorem zF1 {m:Nat} {all:List Oper} {j t:Nat} (hj:zA4 (all.take m) j=some t):∃oj,all[j]?=some oj∧oj.dst=some t∧j<m:=by
 unfold zA4 at hj
 cases hx:(all.take m)[j]? with
 | none=>rw[hx] at hj;cases hj
 | some oj =>
  rw[hx] at hj
  have hlt:=(List.getElem?_eq_some_iff.1 hx).1
  rw[List.length_take] at hlt
  rw[List.getElem?_take,if_pos (by omega)] at hx
  exact ⟨oj,hx,hj,by omega⟩
end go
end
end Go.Proofs.YtoknohandclcbaaGreat
namespace Go.Proofs.YtoknohandclcbaaGreat
open Go.RowKit
def RRel (r r' : Res):Prop:=∀p x H0,p→r=some (p,x,H0)→∃(p' : Prop) (H0' : Heap),p'∧r'=some (p',x,H0')
theorem z1 {r:Res}:RRel none r:=fun _ _ _ _ h=>by cases h
theorem zN {H H' : Heap} {p p' : Prop} {x:HV} (h:p→p'):RRel (rv H p x) (rv H' p' x):=fun q y H0 hq e=>by
 cases e;exact ⟨p',H',h hq,rfl⟩
theorem zJ {α:Type} {o o' : Option α} {f f' : α→Res} (h:∀a,o=some a→o'=some a∧RRel (f a) (f' a)):RRel (zE o f) (zE o' f'):=by
 cases o with
 | none=>exact z1
 | some a =>
  obtain ⟨h1,h2⟩:=h a rfl
  rw[h1];exact h2
def nmed (id:Nat):HV→Prop
 | .hd i _ _=>i=id
 | .pt i _ _ _=>i=id
 | _=>False
def Agr (H H' : Heap) (x:HV):Prop:=∀id,nmed id x→∀ob,getO H id=some ob→getO H' id=some ob
theorem zDG {H:Heap} {id:Nat} {ob:HObj}:getO H id=some ob↔H[id]?=some (some ob):=by
 constructor
 ·exact zX
 ·intro h;unfold getO;rw[h]
section
variable {P:Program} {T:Nat→HV} {H H' : Heap}
theorem zEi {x:HV} (h:Agr H H' x) (hl:zBZ H x=true):zBZ H' x=true:=by
 unfold zBZ at hl⊢
 split at hl
 ·rename_i id n r o
  split at hl
  ·rename_i ob ho
   have:=zDG.1 (h id rfl ob (zDG.2 ho))
   rw[this];exact hl
  ·cases hl
 ·rfl
 ·cases hl
theorem zLe {x:HV} (h:Agr H H' x) {rows:List (List HV)} (hs:zAQ H x=some rows):zAQ H' x=some rows:=by
 unfold zAQ at hs⊢
 split at hs
 ·exact hs
 ·exact hs
 ·exact hs
 ·rename_i id off len
  split at hs
  ·rename_i ob ho
   have:=zDG.1 (h id rfl ob (zDG.2 ho))
   rw[this];exact hs
  ·cases hs
 ·cases hs
theorem zN5 {op:Op} (hag:∀y∈op.operands.toList,Agr H H' (hev T y)):RRel (ropQ P T H op) (ropQ P T H' op):=by
 have h1:∀y,y∈op.operands→Agr H H' (hev T y):=fun y hy=>hag y (by simpa using hy)
 clear hag
 unfold ropQ
 split <;> simp only[Op.operands,Call.operands] at h1
 ·exact zN id
 ·exact zN id
 ·unfold zGv;split <;> first | exact zN id | exact z1
 ·unfold zGA
  exact zJ fun a ha=>⟨ha,zJ fun b hb=>⟨hb,zJ fun c hc=>⟨hc,zN id⟩⟩⟩
 ·rename_i t a
  refine zJ fun x hx=>⟨hx,?_⟩
  have ha:=h1 a (by simp)
  unfold zFw
  split
  ·rename_i id n r o e
   rw[e] at ha
   exact zJ fun ob ho=>⟨ha _ rfl ob ho,zJ fun row hr=>⟨hr,zN fun h=>h⟩⟩
  ·exact zJ fun row hr=>⟨hr,zN fun h=>h⟩
  ·exact z1
 ·rename_i x
  have ha:=h1 x (by simp)
  unfold zFu
  split
  ·exact zN id
  ·rename_i e;rw[e] at ha;exact zN (zEi ha)
  ·exact zN id
  ·exact zN id
  ·exact z1
 ·unfold rbin;exact zJ fun v hv=>⟨hv,zN id⟩
 ·unfold run1;split <;> first | exact zN id | exact z1
 ·rename_i src dst x
  have ha:=h1 x (by simp)
  unfold zCi
  split
  ·exact zJ fun a ha=>⟨ha,zJ fun b hb=>⟨hb,zN id⟩⟩
  ·exact zN id
  ·exact zJ fun e he=>⟨he,zJ fun rows hr=>⟨zLe ha hr,zJ fun l hl=>⟨hl,zN id⟩⟩⟩
 ·unfold zFy;exact zJ fun y hy=>⟨hy,zN id⟩
 ·split <;> first | exact zN id | exact z1
 ·rename_i t x lo hi
  have ha:=h1 x (by simp)
  unfold rcut
  split
  ·exact zJ fun l hl=>⟨hl,zJ fun h hh=>⟨hh,zN id⟩⟩
  ·exact zJ fun e he=>⟨he,zJ fun l hl=>⟨hl,zJ fun h hh=>⟨hh,zN id⟩⟩⟩
  ·rename_i e;rw[e] at ha
   exact zJ fun e he=>⟨he,zJ fun l hl=>⟨hl,zJ fun h hh=>⟨hh,zJ fun ob ho=>⟨ha _ rfl ob ho,zN id⟩⟩⟩⟩
  ·exact z1
 ·rename_i s a i
  have ha:=h1 a (by simp)
  unfold zB6
  exact zJ fun f hf=>⟨hf,zN fun h=>⟨h.1,zEi ha h.2⟩⟩
 ·unfold zDw;split
  ·exact zJ fun f hf=>⟨hf,zN id⟩
  ·exact z1
 ·rename_i t a i
  have ha:=h1 a (by simp)
  unfold zA2
  split
  ·exact zJ fun e he=>⟨he,zN id⟩
  ·rename_i e _;rw[e] at ha
   exact zJ fun e he=>⟨he,zJ fun ob ho=>⟨ha _ rfl ob ho,zN id⟩⟩
  ·rename_i e _;rw[e] at ha
   exact zJ fun e he=>⟨he,zN fun h=>⟨zEi ha h.1,h.2⟩⟩
  ·exact zJ fun e he=>⟨he,zN id⟩
  ·exact z1
 ·unfold zDR;split
  ·exact zJ fun b hb=>⟨hb,zN id⟩
  ·exact zJ fun e he=>⟨he,zN id⟩
  ·exact z1
 ·unfold zB1;split
  ·exact zJ fun v hv=>⟨hv,zN id⟩
  ·exact z1
 ·rename_i x t
  have ha:=h1 x (by simp)
  unfold rlen
  split
  ·exact zN id
  ·exact zN id
  ·exact zN id
  ·rename_i e;rw[e] at ha
   exact zJ fun ob ho=>⟨ha _ rfl ob ho,zN id⟩
  ·exact z1
 ·unfold rmm;split <;> first | exact zN id | exact z1
 ·unfold rmm;split <;> first | exact zN id | exact z1
 ·exact z1
end
mutual
theorem zJw:∀(h:HV) (H:Heap),∃B,(zAH h H).2=H++B
 | .ow ..,H=>⟨_,rfl⟩
 | .bx ..,H=>⟨_,rfl⟩
 | .om ..,H=>⟨_,rfl⟩
 | .ag cs,H=>by simpa only[zAH] using zED cs H
 | .tu cs,H=>by simpa only[zAH] using zED cs H
 | .fn _ cs,H=>by simpa only[zAH] using zED cs H
 | .any,H=>⟨[],by simp[zAH]⟩
 | .v _,H=>⟨[],by simp[zAH]⟩
 | .sl _,H=>⟨[],by simp[zAH]⟩
 | .hd ..,H=>⟨[],by simp[zAH]⟩
 | .pt ..,H=>⟨[],by simp[zAH]⟩
 | .fp ..,H=>⟨[],by simp[zAH]⟩
 | .ic ..,H=>⟨[],by simp[zAH]⟩
 | .ob _,H=>⟨[],by simp[zAH]⟩
 | .mp _,H=>⟨[],by simp[zAH]⟩
 | .yl _,H=>⟨[],by simp[zAH]⟩
 | .gv _,H=>⟨[],by simp[zAH]⟩
theorem zED:∀(l:List HV) (H:Heap),∃B,(zDN l H).2=H++B
 | [],H=>⟨[],by simp[zDN]⟩
 | h::t,H=>by
  obtain ⟨B,h1⟩:=zJw h H
  obtain ⟨B',h2⟩:=zED t (zAH h H).2
  exact ⟨B++B',by simp only[zDN];rw[h2,h1,List.append_assoc]⟩
end
def zBq:Op→Bool
 | .move _=>true
 | .assign _=>true
 | .pick ..=>true
 | .build ..=>true
 | .binOp ..=>true
 | .unOp ..=>true
 | .makeInterface ..=>true
 | .makeFunc ..=>true
 | .field ..=>true
 | .index ..=>true
 | .extract ..=>true
 | _=>false
theorem zH0 {P:Program} {T:Nat→HV} {H H' : Heap} {op:Op} (h:zBq op=true):RRel (ropQ P T H op) (ropQ P T H' op):=by
 cases op <;> simp only[zBq,Bool.false_eq_true] at h
 case move=>exact zN id
 case assign=>exact zN id
 case pick=>unfold ropQ zGv;dsimp only;split <;> first | exact zN id | exact z1
 case build=>unfold ropQ zGA;exact zJ fun a ha=>⟨ha,zJ fun b hb=>⟨hb,zJ fun c hc=>⟨hc,zN id⟩⟩⟩
 case binOp=>unfold ropQ rbin;exact zJ fun v hv=>⟨hv,zN id⟩
 case unOp=>unfold ropQ run1;dsimp only;split <;> first | exact zN id | exact z1
 case makeInterface=>unfold ropQ zFy;exact zJ fun y hy=>⟨hy,zN id⟩
 case makeFunc f first cs =>
  cases f <;> unfold ropQ <;> dsimp only <;> first | exact z1 | (split <;> first | exact zN id | exact z1)
 case field=>unfold ropQ zDw;dsimp only;split <;> first | exact zJ fun f hf=>⟨hf,zN id⟩ | exact z1
 case index =>
  unfold ropQ zDR;dsimp only;split
  ·exact zJ fun b hb=>⟨hb,zN id⟩
  ·exact zJ fun e he=>⟨he,zN id⟩
  ·exact z1
 case extract=>unfold ropQ zB1;dsimp only;split <;> first | exact zJ fun v hv=>⟨hv,zN id⟩ | exact z1
def SameTo (m:Nat) (H H' : Heap):Prop:=∀id:Nat,id<m→H'[id]?=H[id]?
theorem SameTo.app {m:Nat} {H:Heap} (B:Heap) (h:m≤H.length):SameTo m H (H++B):=fun id hid=>List.getElem?_append_left (by omega)
theorem SameTo.agr {m:Nat} {H H' : Heap} {x:HV} (h:SameTo m H H') (hn:nm m x=true):Agr H H' x:=fun id hid ob ho=>by
 have hlt:id<m:=by
  cases x <;> simp only[nmed] at hid
  ·subst hid;simpa [nm] using hn
  ·subst hid;simpa [nm] using hn
 exact zDG.2 ((h id hlt).trans (zDG.1 ho))
def zUo (P:Program) (base:Nat) (T:Nat→HV) (H:Heap) (op:Op) (x:HV):Prop :=
 (∃(p:Prop) (H0:Heap),p∧ropQ P T H op=some (p,x,H0)∧(zBq op=true∨∀y∈op.operands.toList,nm base (hev T y)=true))∨
 (∃f args tys fid caps R,op=.call { callee:=.value f,args:=args,argTypes:=tys }∧hev T f=.fn fid caps∧HFn P (fnF fid) (fnA fid .any (args.toList.map (hev T)) caps) R∧nmL 0 (fnA fid .any (args.toList.map (hev T)) caps)=true∧x=fzo R)∨
 (∃rv name args tys t y fid R,op=.call { callee:=.invoke rv name,args:=args,argTypes:=tys }∧hev T rv=.ic t y∧zAb P t name=some fid∧HFn P fid (y::args.toList.map (hev T)) R∧nmL 0 (y::args.toList.map (hev T))=true∧x=fzo R)∨
 (∃t len parts p H0,op=.buildSlice t len parts∧p∧z2 P T H t len parts.toList=some (p,x,H0))
def zUp (P:Program) (base:Nat) (T:Nat→HV) (H:Heap) (op:Op) (x:HV) (H' : Heap):Prop :=
 SameTo base H H'∧H.length≤H'.length∧(
  (∃f args tys fid caps n R args',op=.call { callee:=.value f,args:=args,argTypes:=tys }∧hev T f=.fn fid caps∧HFn P (fnF fid) args' R∧zEX n H (fnA fid .any (args.toList.map (hev T)) caps) args' R∧zAH R H=(x,H'))∨
  (∃rv name args tys t y fid n R args',op=.call { callee:=.invoke rv name,args:=args,argTypes:=tys }∧hev T rv=.ic t y∧zAb P t name=some fid∧HFn P fid args' R∧zEX n H (y::args.toList.map (hev T)) args' R∧zAH R H=(x,H'))∨
  (∃p:Prop,p∧rop P T H op=some (p,x,H')))
def zFC (P:Program) (base:Nat) (h:Bool) (T:Nat→HV) (H:Heap) (op:Op) (x:HV) (H' : Heap):Prop :=
 if h=true then zUp P base T H op x H' else zUo P base T H op x∧H'=H
def zEZ (P:Program) (base:Nat) (h:Bool) (all:List Oper) (T:Nat→HV) (H:Heap) (o:Oper) (x:HV) (H' : Heap):Prop :=
 match o.guard with
 | none=>zFC P base h T H o.op x H'
 | some (j,b)=>∃t,zA4 all j=some t∧((∃c,T t=.v (.bool c)∧(c=b→zFC P base h T H o.op x H')∧(c=(!b)→x=.v undef∧H'=H))∨∃ts,T t=.v (.tuple ts)∧x=.v undef∧H'=H)
def bsO (hv:List Nat) (base:Nat×Nat) (j:Nat):Nat :=
 if hv.contains j=true then (if hv.contains (2000+j)=true then base.1 else if base.1<base.2 then base.2 else base.1)
 else if hv.contains (1000+j)=true then base.2 else base.1
theorem z3y {hv:List Nat} {base:Nat×Nat} {j:Nat} (h:hv.contains j=true):base.1≤bsO hv base j:=by
 unfold bsO
 rw[if_pos h]
 split
 ·exact Nat.le_refl _
 ·split <;> omega
theorem z11 {hv:List Nat} {base:Nat×Nat} {j:Nat} (h:hv.contains j=true) (h2:¬hv.contains (2000+j)=true):base.2≤bsO hv base j:=by
 unfold bsO
 rw[if_pos h,if_neg h2]
 split <;> omega
theorem SameTo.le {m m' : Nat} {H H' : Heap} (h:SameTo m H H') (hm:m'≤m):SameTo m' H H':=fun id hid=>h id (by omega)
def zFQ (P:Program) (base:Nat×Nat) (hv:List Nat) (all:List Oper):Nat→List Oper→(Nat→HV)→Heap→List HV→List Heap→Prop
 | _,[],_,_,xs,hs=>xs=[]∧hs=[]
 | j,o::l,T,H,xs,hs=>∃x H' xs' hs',xs=x::xs'∧hs=H'::hs'∧zEZ P (bsO hv base j) (hv.contains j) all T H o x H'∧zFQ P base hv all (j+1) l (updO T o.dst x) H' xs' hs'
def zP (H0:Heap) (hs:List Heap) (j:Nat):Heap:=((H0::hs)[j]?).getD []
section
variable {P:Program} {all:List Oper} {base:Nat} {hv:List Nat}
theorem zHb {fid:Nat} {n:Nat} {H:Heap} {args args' : List HV} {R:HV} (h:HFn P fid args' R) (hL:zEX n H args args' R):HCalls P fid H args (fun r H'=>r=R∧H'=H):=by
 rcases hL with ⟨rfl,hnz⟩ | ⟨rfl,hnm⟩
 ·exact HCalls.lend n h (fun r hr=>by rw[hr];exact hnz)
 ·exact HCalls.plain h hnm
theorem zBC {T T' : Nat→HV} {H H' : Heap} {t:TypeId} {len:Nat} {parts:List (Nat×Operand)} (h:∀p∈parts,hev T p.2=hev T' p.2) {p:Prop} {x:HV} {H0:Heap} (hr:z2 P T H t len parts=some (p,x,H0)):z2 P T' H' t len parts=some (p,x,H'):=by
 have e1:∀n (l:List (Nat×Operand)),(∀p∈l,hev T p.2=hev T' p.2)→zAw T n l=zAw T' n l:=by
  intro n l
  induction l with
  | nil=>intro _;rfl
  | cons p l ih =>
   intro hp
   simp only[zAw]
   rw[hp p (by simp),ih (fun q hq=>hp q (by simp[hq]))]
 have e2:parts.map (fun p=>fzoL (zQ (hev T p.2)))=parts.map (fun p=>fzoL (zQ (hev T' p.2))):=by
  apply List.map_congr_left
  intro p hq
  rw[h p hq]
 unfold z2 at hr⊢
 cases he:zL P t 3 with
 | none=>rw[he] at hr;cases hr
 | some e =>
  rw[he] at hr
  simp only[zDJ,rv] at hr⊢
  cases hr
  rw[e1 _ _ h,e2]
theorem zNR {T T' : Nat→HV} {H:Heap} {op:Op} {x:HV} (h:∀y∈op.operands.toList,hev T y=hev T' y) (hc:zUo P base T H op x):zUo P base T' H op x:=by
 rcases hc with ⟨p,H0,hp,hr,hi⟩ | ⟨f,args,tys,fid,caps,R,rfl,hf,h1,h2,h3⟩ | ⟨rv,name,args,tys,t,y,fid,R,rfl,hf,hm,h1,h2,h3⟩ | ⟨t,len,parts,p,H0,rfl,hp,hr⟩
 ·exact .inl ⟨p,H0,hp,by rw[←zH1 h];exact hr,hi.imp id fun hi y hy=>by rw[←h y hy];exact hi y hy⟩
 ·have e1:=h f (by simp[Op.operands,Call.operands])
  have e2:args.toList.map (hev T)=args.toList.map (hev T'):=zAS fun x hx=>h x (by simp[Op.operands,Call.operands];exact .inr (by simpa using hx))
  exact .inr (.inl ⟨f,args,tys,fid,caps,R,rfl,e1▸hf,e2▸h1,e2▸h2,h3⟩)
 ·have e1:=h rv (by simp[Op.operands,Call.operands])
  have e2:args.toList.map (hev T)=args.toList.map (hev T'):=zAS fun x hx=>h x (by simp[Op.operands,Call.operands];exact .inr (by simpa using hx))
  exact .inr (.inr (.inl ⟨rv,name,args,tys,t,y,fid,R,rfl,e1▸hf,hm,e2▸h1,e2▸h2,h3⟩))
 ·have hp1:∀p∈parts.toList,hev T p.2=hev T' p.2:=fun p hp=>h p.2 (by simp[Op.operands];exact ⟨p.1,by simpa using hp⟩)
  exact .inr (.inr (.inr ⟨t,len,parts,p,H,rfl,hp,zBC hp1 hr⟩))
theorem zNS {T:Nat→HV} {H Hc:Heap} {op:Op} {x:HV} (hs:SameTo base H Hc) (hc:zUo P base T H op x):zJF P T Hc op x:=by
 rcases hc with ⟨p,H0,hp,hr,hi⟩ | ⟨f,args,tys,fid,caps,R,rfl,hf,h1,h2,h3⟩ | ⟨rv,name,args,tys,t,y,fid,R,rfl,hf,hm,h1,h2,h3⟩ | ⟨t,len,parts,p,H0,rfl,hp,hr⟩
 ·have hR:RRel (ropQ P T H op) (ropQ P T Hc op):=by
   rcases hi with hi | hi
   ·exact zH0 hi
   ·exact zN5 fun y hy=>hs.agr (hi y hy)
  obtain ⟨p',H0',hp',hr'⟩:=hR p x H0 hp hr
  exact .inl ⟨p',H0',hp',hr'⟩
 ·exact .inr (.inl ⟨f,args,tys,fid,caps,0,R,_,rfl,hf,h1,.inr ⟨rfl,h2⟩,h3⟩)
 ·exact .inr (.inr (.inl ⟨rv,name,args,tys,t,y,fid,0,R,_,rfl,hf,hm,h1,.inr ⟨rfl,h2⟩,h3⟩))
 ·exact .inr (.inr (.inr ⟨t,len,parts,p,Hc,rfl,hp,zBC (fun _ _=>rfl) hr⟩))
theorem zNT {T T' : Nat→HV} {H H' : Heap} {op:Op} {x:HV} (h:∀y∈op.operands.toList,hev T y=hev T' y) (hc:zUp P base T H op x H'):zUp P base T' H op x H':=by
 obtain ⟨k1,k2,hc⟩:=hc
 refine ⟨k1,k2,?_⟩
 rcases hc with ⟨f,args,tys,fid,caps,n,R,args',rfl,hf,h1,h2,h3⟩ | ⟨rv,name,args,tys,t,y,fid,n,R,args',rfl,hf,hm,h1,h2,h3⟩ | ⟨p,hp,hr⟩
 ·have e1:=h f (by simp[Op.operands,Call.operands])
  have e2:args.toList.map (hev T)=args.toList.map (hev T'):=zAS fun x hx=>h x (by simp[Op.operands,Call.operands];exact .inr (by simpa using hx))
  exact .inl ⟨f,args,tys,fid,caps,n,R,args',rfl,e1▸hf,h1,e2▸h2,h3⟩
 ·have e1:=h rv (by simp[Op.operands,Call.operands])
  have e2:args.toList.map (hev T)=args.toList.map (hev T'):=zAS fun x hx=>h x (by simp[Op.operands,Call.operands];exact .inr (by simpa using hx))
  exact .inr (.inl ⟨rv,name,args,tys,t,y,fid,n,R,args',rfl,e1▸hf,hm,h1,e2▸h2,h3⟩)
 ·exact .inr (.inr ⟨p,hp,by rw[←zJe h];exact hr⟩)
theorem zGt {h0:Bool} {T T' : Nat→HV} {H H' : Heap} {op:Op} {x:HV} (h:∀y∈op.operands.toList,hev T y=hev T' y) (hc:zFC P base h0 T H op x H'):zFC P base h0 T' H op x H':=by
 cases h0 with
 | true=>exact zNT h hc
 | false=>exact ⟨zNR h hc.1,hc.2⟩
theorem zHy {h0:Bool} {T:Nat→HV} {H H' : Heap} {op:Op} {x:HV} (hc:zFC P base h0 T H op x H'):SameTo base H H'∧H.length≤H'.length:=by
 unfold zFC at hc
 split at hc
 ·exact ⟨hc.1,hc.2.1⟩
 ·rw[hc.2];exact ⟨fun _ _=>rfl,Nat.le_refl _⟩
theorem zC9 {h0:Bool} {o:Oper} {T T' : Nat→HV} {H H' : Heap} {x:HV} (h:∀t∈zCc all o,T t=T' t) (hc:zEZ P base h0 all T H o x H'):zEZ P base h0 all T' H o x H':=by
 have hv:=zF3 h
 unfold zEZ at hc⊢
 split at hc
 ·exact zGt hv hc
 ·rename_i j b hg
  obtain ⟨t,ht,hc⟩:=hc
  have e:T t=T' t:=h t (by unfold zCc;rw[hg];simp[ht])
  refine ⟨t,ht,?_⟩
  rw[←e]
  rcases hc with ⟨c,h1,h2,h3⟩ | hc
  ·exact .inl ⟨c,h1,fun hcb=>zGt hv (h2 hcb),h3⟩
  ·exact .inr hc
theorem zDK {h0:Bool} {o:Oper} {T:Nat→HV} {H H' : Heap} {x:HV} (hc:zEZ P base h0 all T H o x H'):SameTo base H H'∧H.length≤H'.length:=by
 unfold zEZ at hc
 split at hc
 ·exact zHy hc
 ·rename_i j b hg
  obtain ⟨t,ht,⟨c,h1,h2,h3⟩ | ⟨ts,_,_,h⟩⟩:=hc
  ·by_cases hcb:c=b
   ·exact zHy (h2 hcb)
   ·have hc:c=(!b):=by cases c <;> cases b <;> simp_all
    rw[(h3 hc).2];exact ⟨fun _ _=>rfl,Nat.le_refl _⟩
  ·rw[h];exact ⟨fun _ _=>rfl,Nat.le_refl _⟩
theorem zDj {o:Oper} {T:Nat→HV} {H H' : Heap} {x:HV} (hc:zEZ P base false all T H o x H'):H'=H:=by
 have hM:zFC P base false T H o.op x H'→H'=H:=fun h=>by
  unfold zFC at h
  simp only[Bool.false_eq_true,if_false] at h
  exact h.2
 unfold zEZ at hc
 split at hc
 ·exact hM hc
 ·obtain ⟨t,ht,⟨c,h1,h2,h3⟩ | ⟨ts,_,_,h⟩⟩:=hc
  ·rename_i j b _
   by_cases hcb:c=b
   ·exact hM (h2 hcb)
   ·have hc:c=(!b):=by cases c <;> cases b <;> simp_all
    exact (h3 hc).2
  ·exact h
theorem zGV {H0:Heap} {hs:List Heap}:zP H0 hs 0=H0:=rfl
theorem zD8 {H0 H1:Heap} {hs:List Heap} {j:Nat}:zP H0 (H1::hs) (j+1)=zP H1 hs j:=rfl
theorem zBn {base:Nat×Nat}:∀(l:List Oper) (xs:List HV) (hs:List Heap) (i j:Nat) (T:Nat→HV) (H0:Heap) (o:Oper),zFQ P base hv all i l T H0 xs hs→l[j]?=some o→
  ∃x,xs[j]?=some x∧zEZ P (bsO hv base (i+j)) (hv.contains (i+j)) all (runM (fun k=>decide (k<i+j)) i l xs T) (zP H0 hs j) o x (zP H0 hs (j+1))
 | [],xs,hs,i,j,T,H0,o,_,h=>by simp at h
 | o0::l,xs,hs,i,0,T,H0,o,hc,h=>by
  obtain ⟨x,H',xs',hs',rfl,rfl,h1,_⟩:=hc
  simp only[List.getElem?_cons_zero,Option.some.injEq] at h
  subst h
  refine ⟨x,rfl,?_⟩
  rw[zGV,zD8,zGV]
  refine zC9 (fun t _=>?_) h1
  rw[zBc]
  intro j' _
  simp
 | o0::l,xs,hs,i,j+1,T,H0,o,hc,h=>by
  obtain ⟨x,H',xs',hs',rfl,rfl,_,h2⟩:=hc
  simp only[List.getElem?_cons_succ] at h
  obtain ⟨y,h3,h4⟩:=zBn l xs' hs' (i+1) j _ H' o h2 h
  refine ⟨y,by simpa using h3,?_⟩
  rw[zD8,zD8]
  rw[show i+1+j=i+(j+1) by omega] at h4
  refine zC9 (fun t _=>?_) h4
  simp only[runM]
  rw[if_pos (by simp)]
theorem zC3 {base:Nat×Nat} {l:List Oper} {xs:List HV} {hs:List Heap} {T:Nat→HV} {H0:Heap} (hc:zFQ P base hv all 0 l T H0 xs hs):∀(b a:Nat),a≤b→b≤l.length→SameTo base.1 (zP H0 hs a) (zP H0 hs b)∧(zP H0 hs a).length≤(zP H0 hs b).length:=by
 intro b
 induction b with
 | zero=>intro a ha _;obtain rfl:a=0:=(by omega);exact ⟨fun _ _=>rfl,Nat.le_refl _⟩
 | succ b ih =>
  intro a ha hb
  rcases Nat.lt_or_ge a (b+1) with h | h
  ·obtain ⟨h1,h2⟩:=ih a (by omega) (by omega)
   obtain ⟨x,_,hN⟩:=zBn l xs hs 0 b T H0 _ hc (List.getElem?_eq_getElem (show b<l.length by omega))
   have h34:SameTo base.1 (zP H0 hs b) (zP H0 hs (b+1))∧(zP H0 hs b).length≤(zP H0 hs (b+1)).length:=by
    rw[Nat.zero_add] at hN
    cases hvb:hv.contains b with
    | true =>
     exact ⟨(zDK hN).1.le (z3y hvb),(zDK hN).2⟩
    | false =>
     rw[hvb] at hN
     rw[zDj hN]
     exact ⟨fun _ _=>rfl,Nat.le_refl _⟩
   obtain ⟨h3,h4⟩:=h34
   exact ⟨fun id hid=>(h3 id hid).trans (h1 id hid),by omega⟩
  ·obtain rfl:a=b+1:=by omega
   exact ⟨fun _ _=>rfl,Nat.le_refl _⟩
theorem zBu {base:Nat×Nat} {l:List Oper} {xs:List HV} {hs:List Heap} {T:Nat→HV} {H0:Heap} (hc:zFQ P base hv all 0 l T H0 xs hs):∀(b a:Nat),a≤b→b≤l.length→(∀(j:Nat),a≤j→j<b→hv.contains j=true→hv.contains (2000+j)=true→False)→SameTo base.2 (zP H0 hs a) (zP H0 hs b)∧(zP H0 hs a).length≤(zP H0 hs b).length:=by
 intro b
 induction b with
 | zero=>intro a ha _ _;obtain rfl:a=0:=(by omega);exact ⟨fun _ _=>rfl,Nat.le_refl _⟩
 | succ b ih =>
  intro a ha hb hq
  rcases Nat.lt_or_ge a (b+1) with h | h
  ·obtain ⟨h1,h2⟩:=ih a (by omega) (by omega) (fun j h1 h2=>hq j h1 (by omega))
   obtain ⟨x,_,hN⟩:=zBn l xs hs 0 b T H0 _ hc (List.getElem?_eq_getElem (show b<l.length by omega))
   have h34:SameTo base.2 (zP H0 hs b) (zP H0 hs (b+1))∧(zP H0 hs b).length≤(zP H0 hs (b+1)).length:=by
    rw[Nat.zero_add] at hN
    cases hvb:hv.contains b with
    | true =>
     exact ⟨(zDK hN).1.le (z11 hvb (fun hw=>hq b (by omega) (by omega) hvb hw)),(zDK hN).2⟩
    | false =>
     rw[hvb] at hN
     rw[zDj hN]
     exact ⟨fun _ _=>rfl,Nat.le_refl _⟩
   obtain ⟨h3,h4⟩:=h34
   exact ⟨fun id hid=>(h3 id hid).trans (h1 id hid),by omega⟩
  ·obtain rfl:a=b+1:=by omega
   exact ⟨fun _ _=>rfl,Nat.le_refl _⟩
theorem zC2 {base:Nat×Nat} {l:List Oper} {xs:List HV} {hs:List Heap} {T:Nat→HV} {H0:Heap} (hc:zFQ P base hv all 0 l T H0 xs hs):∀(b a:Nat),a≤b→b≤l.length→(∀(j:Nat),a≤j→j<b→hv.contains j=false)→zP H0 hs b=zP H0 hs a:=by
 intro b
 induction b with
 | zero=>intro a ha _ _;obtain rfl:a=0:=(by omega);rfl
 | succ b ih =>
  intro a ha hb hq
  rcases Nat.lt_or_ge a (b+1) with h | h
  ·have h1:=ih a (by omega) (by omega) fun j h1 h2=>hq j h1 (by omega)
   have ho:l[b]?=some l[b]:=List.getElem?_eq_getElem (show b<l.length by omega)
   obtain ⟨x,_,hN⟩:=zBn l xs hs 0 b T H0 _ hc ho
   rw[Nat.zero_add,hq b (by omega) (by omega)] at hN
   rw[zDj hN,h1]
  ·obtain rfl:a=b+1:=by omega
   rfl
end
section
variable {P:Program} {N L B base:Nat} {Z:Nat→Prop} {G:List (Option OG)} {FP:Nat→List Nat} {ds:List Nat} {T:Nat→HV} {H H' : Heap} {a:Act} {w:World} {ro:Option Nat} {mm:Nat}
theorem zMv {o:Oper} {x:HV} (hok:zG N o=true) (hn:zAD o=true) (hc:zUp P base T H o.op x H'):HO P N L o T H (fun T' H''=>T'=updO T o.dst x∧H''=H'):=by
 have hnd:=zBV hn
 have hdst:∀i,o.dst=some i→i<N:=fun i hi=>by
  have:=hok;simp only[zG,zBr,hi,Bool.and_eq_true,decide_eq_true_eq] at this;exact this.1
 rcases hc.2.2 with ⟨f,args,tys,fid,caps,n,R,args',hop,hf,h1,h2,h3⟩ | ⟨rv,name,args,tys,t,y,fid,n,R,args',hop,hf,hm,h1,h2,h3⟩ | ⟨p,hp,hr⟩
 ·exact zNQ hop hok hf (zHb h1 h2) (fun r H2 hq _=>by
   obtain ⟨rfl,rfl⟩:=hq
   rw[h3];exact ⟨rfl,rfl⟩)
 ·exact zGr hop hok hf hm (zHb h1 h2) (fun r H2 hq _=>by
   obtain ⟨rfl,rfl⟩:=hq
   rw[h3];exact ⟨rfl,rfl⟩)
 ·exact zEY hnd hdst (zOU hok (by rw[hr];exact ⟨hp,rfl,rfl⟩))
def yBQ (P:Program) (N L B:Nat) (ds:List Nat) (G:List (Option OG)) (Z:Nat→Prop) (FP:Nat→List Nat) (w:World) (T:Nat→HV) (H:Heap) (K:Act→World→Prop):Prop :=
 ∀Z' G' FP' a' w',St N B Z' G' FP' ds T H a' w'→GLt L G G'→Evo Z FP w Z' FP' w'→K a' w'
theorem zET {all:List Oper} {j:Nat} {o:Oper} {x:HV} {K:Act→World→Prop} {Q' : Exit→Act→World→Prop} {Hc Hn:Heap} {h0:Bool} (hall:all.all (zBr N)=true) (hj:all[j]?=some o) (hok:zG N o=true) (hn:zAD o=true) (hc:zEZ P base h0 all T H o x H')
  (hs:St N B Z G FP ds T Hc a w) (hB:Bo ro B FP w) (hL:L≤G.length)
  (hq:h0=false→Hn=Hc∧SameTo base H Hc) (hh:h0=true→Hc=H∧Hn=H')
  (hK:yBQ P N L B ds G Z FP w (updO T o.dst x) Hn K):wpOpIn (Wd ro) mm P all.toArray Q' j K a w:=by
 have hdst:∀i,o.dst=some i→i<N:=fun i hi=>by
  have:=hok;simp only[zG,zBr,hi,Bool.and_eq_true,decide_eq_true_eq] at this;exact this.1
 have run:zFC P base h0 T H o.op x H'→o.wpIn (Wd ro) mm P a w K Q':=fun hM=>by
  cases h0 with
  | true =>
   obtain ⟨rfl,rfl⟩:=hh rfl
   unfold zFC at hM
   rw[if_pos rfl] at hM
   refine zMv (L:=L) hok hn hM ro mm B Z G FP ds a w hB hL hs K Q' ?_
   rintro a' w' ⟨T2,H2,Z',G',FP',⟨rfl,rfl⟩,hs',hG',hE'⟩
   exact hK Z' G' FP' a' w' hs' hG' hE'
  | false =>
   obtain ⟨rfl,hR⟩:=hq rfl
   unfold zFC at hM
   simp only[Bool.false_eq_true,if_false] at hM
   exact zGg hok hn (zNS hR hM.1) hs (fun Z' G' FP' a' w' h1 h2 h3=>hK Z' G' FP' a' w' h1 (GLt.of hL h2) h3)
 have noRun:x=.v undef→H'=H→K (a.put o.dst undef) w:=fun hx hHH=>by
  have e:Hn=Hc:=by
   cases h0 with
   | true=>obtain ⟨rfl,rfl⟩:=hh rfl;exact hHH
   | false=>exact (hq rfl).1
  subst hx
  rw[e] at hK
  exact hK _ _ _ _ _ (hs.drop o.dst hdst) (GLt.refl hL) (Evo.refl _ _ _)
 unfold wpOpIn
 rw[List.getElem?_toArray,hj]
 dsimp only
 unfold zEZ at hc
 split at hc
 ·rename_i hg
  simp only[Region.wanted,hg,if_true]
  exact run hc
 ·rename_i k b hg
  obtain ⟨t,ht,hc⟩:=hc
  rcases hc with ⟨c,h1,h2,h3⟩ | ⟨ts,h1,h4,h5⟩
  ·have hy:yielded all.toArray a.tmps k=some c:=hs.yields hall (by rw[zAy ht];exact h1)
   have hw:Region.wanted o (yielded all.toArray a.tmps)=(c == b):=by
    simp only[Region.wanted,hg,hy]
    cases c <;> cases b <;> rfl
   rw[hw]
   by_cases hcb:c=b
   ·rw[if_pos (by simp[hcb])]
    exact run (h2 hcb)
   ·have hc:c=(!b):=by cases c <;> cases b <;> simp_all
    rw[if_neg (by simp[hcb])]
    exact ⟨fun _ _=>trivial,noRun (h3 hc).1 (h3 hc).2⟩
  ·have hy:yielded all.toArray a.tmps k=none:=hs.yieldsNo hall (by rw[zAy ht];exact h1)
   have hw:Region.wanted o (yielded all.toArray a.tmps)=false:=by
    simp only[Region.wanted,hg,hy]
    cases b <;> rfl
   rw[hw,if_neg (by simp)]
   exact ⟨fun _ _=>trivial,noRun h4 h5⟩
end
end Go.Proofs.YtoknohandclcbaaGreat
namespace Go.Proofs.YtoknohandclcbaaGreat
open Go.RowKit
def zXz (N m:Nat) (hv:List Nat) (all:List Oper):Bool :=
 let bs:=befs all []
 (all.all fun o=>zG N o && zAD o) &&
 (all.zipIdx.all fun (o,j)=>(o.after.toList.all fun e=>!Region.binds .any e || decide (e.on<j)) &&
  (all.zipIdx.all fun (o',i)=>!decide (i<j) || (!(decide (m≤j) || zCq all o' o || (hv.contains i && hv.contains j) || (hv.contains (2000+i) && hv.contains (1000+j)) || (hv.contains (1000+i) && hv.contains (2000+j)))) || zAd bs i j))
structure AnyOk3 (N m:Nat) (hv:List Nat) (all:List Oper):Prop where
 base:AnyOk N m all
 od1:∀(i j:Nat) o' o,i<j→all[i]?=some o'→all[j]?=some o→hv.contains (2000+i)=true→hv.contains (1000+j)=true→zAd (befs all []) i j=true
 od2:∀(i j:Nat) o' o,i<j→all[i]?=some o'→all[j]?=some o→hv.contains (1000+i)=true→hv.contains (2000+j)=true→zAd (befs all []) i j=true
 hv:∀(i j:Nat) o' o,i<j→all[i]?=some o'→all[j]?=some o→hv.contains i=true→hv.contains j=true→zAd (befs all []) i j=true
theorem zHr {N m:Nat} {hv:List Nat} {all:List Oper} (h:zXz N m hv all=true):AnyOk3 N m hv all:=by
 simp only[zXz,Bool.and_eq_true] at h
 obtain ⟨h1,h2⟩:=h
 rw[List.all_eq_true] at h1 h2
 have mem:∀{j:Nat} {o:Oper},all[j]?=some o→(o,j)∈all.zipIdx:=fun {j o} hj=>by
  rw[List.mem_zipIdx_iff_getElem?];exact hj
 have key:∀(i j:Nat) o' o,i<j→all[i]?=some o'→all[j]?=some o→(decide (m≤j) || zCq all o' o || (hv.contains i && hv.contains j) || (hv.contains (2000+i) && hv.contains (1000+j)) || (hv.contains (1000+i) && hv.contains (2000+j)))=true→zAd (befs all []) i j=true:=by
  intro i j o' o hij hi hj hc
  have:=h2 (o,j) (mem hj)
  simp only[Bool.and_eq_true,List.all_eq_true] at this
  have:=this.2 (o',i) (mem hi)
  simp only[hij,decide_true,Bool.not_true,Bool.false_or] at this
  rw[hc] at this
  simpa using this
 refine ⟨⟨fun j o hj=>?_,fun j o hj e he hb=>?_,fun i j o' o hij hi hj hc=>?_⟩,fun i j o' o hij hi hj h1 h2=>key i j o' o hij hi hj (by rw[h1,h2];simp),fun i j o' o hij hi hj h1 h2=>key i j o' o hij hi hj (by rw[h1,h2];simp),fun i j o' o hij hi hj h1 h2=>key i j o' o hij hi hj (by rw[h1,h2];simp)⟩
 ·have:=h1 o (List.mem_of_getElem? hj)
  simpa using this
 ·have:=h2 (o,j) (mem hj)
  simp only[Bool.and_eq_true,List.all_eq_true] at this
  have:=this.1 e he
  simp only[hb,Bool.not_true,Bool.false_or,decide_eq_true_eq] at this
  exact this
 ·refine key i j o' o hij hi hj ?_
  rcases hc with hc | hc
  ·simp[hc]
  ·simp[hc]
section go
variable {P:Program} {N L m mm B:Nat} {base:Nat×Nat} {hv:List Nat} {ro:Option Nat} {all:List Oper} {Φ:Exit→Act→World→Prop}
theorem z12 (hA:AnyOk3 N m hv all) {Z0:Nat→Prop} {G0:List (Option OG)} {FP0:Nat→List Nat} {ds:List Nat} {T0:Nat→HV} {H0:Heap} {xs:List HV} {hs:List Heap} {w0:World} (hc0:zFQ P base hv all 0 (all.take m) T0 H0 xs hs) (hml:m≤all.length)
  (hB:∀Z FP w,Evo Z0 FP0 w0 Z FP w→Bo ro B FP w)
  (hend:∀Z G FP a w,St N B Z G FP ds (runM (fun _=>true) 0 (all.take m) xs T0) (zP H0 hs m) a w→GLt L G0 G→Evo Z0 FP0 w0 Z FP w→wpListIn (Wd ro) mm P all.toArray Φ (all.drop m) a w) :
  ∀(fuel:Nat) (listed:Array Bool) (c:Nat) (Z:Nat→Prop) (G:List (Option OG)) (FP:Nat→List Nat) (a:Act) (w:World),listed.size=all.length→left listed≤fuel→zCv all listed→(∀j,m≤j→j<all.length→listed.getD j false=false)→
  c≤m→(∀(j:Nat),j<m→hv.contains j=true→(listed.getD j false=true↔j<c))→
  St N B Z G FP ds (runM (fun k=>listed.getD k false) 0 (all.take m) xs T0) (zP H0 hs c) a w→GLt L G0 G→Evo Z0 FP0 w0 Z FP w→wpAnyIn (Wd ro) mm P .any all.toArray Φ fuel listed a w:=by
 have hlm:(all.take m).length=m:=by rw[List.length_take];omega
 have fin:∀(listed:Array Bool) (c:Nat) (Z:Nat→Prop) (G:List (Option OG)) (FP:Nat→List Nat) (a:Act) (w:World),c≤m→(∀k,k<m→listed.getD k false=true)→(∀(j:Nat),j<m→hv.contains j=true→(listed.getD j false=true↔j<c))→
   St N B Z G FP ds (runM (fun k=>listed.getD k false) 0 (all.take m) xs T0) (zP H0 hs c) a w→GLt L G0 G→Evo Z0 FP0 w0 Z FP w→wpListIn (Wd ro) mm P all.toArray Φ (all.drop m) a w:=by
  intro listed c Z G FP a w hcm hall hcl hs' hG hE
  have hTe:runM (fun k=>listed.getD k false) 0 (all.take m) xs T0=runM (fun _=>true) 0 (all.take m) xs T0:=by
   funext t
   refine zCB _ _ _ _ _ rfl fun j hj=>?_
   obtain ⟨oj,h1,h2,h3⟩:=zF1 hj
   simp only[Nat.zero_add]
   exact hall j h3
  have hHe:zP H0 hs m=zP H0 hs c:=zC2 hc0 m c hcm (by omega) fun j h1 h2=>by
   cases hv' : hv.contains j with
   | false=>rfl
   | true=>have:=(hcl j h2 hv').1 (hall j h2);omega
  exact hend Z G FP a w (by rw[←hTe,hHe];exact hs') hG hE
 intro fuel
 induction fuel with
 | zero =>
  intro listed c Z G FP a w hsz hf hc hm hcm hcl hs' hG hE
  have hall:=zCl (Nat.le_zero.1 hf)
  have hml' : all.length≤m:=by
   rcases Nat.lt_or_ge m all.length with h | h
   ·have h1:=hm m (Nat.le_refl _) h
    rw[hall m (by omega)] at h1;cases h1
   ·exact h
  have hno:Region.ready .any all.toArray listed=[]:=by
   rw[List.eq_nil_iff_forall_not_mem]
   intro i hi
   obtain ⟨h1,o,ho,_⟩:=mem_ready.1 hi
   rw[List.getElem?_toArray] at ho
   have hi':=(List.getElem?_eq_some_iff.1 ho).1
   have h2:=hall i (by omega)
   rw[Array.getD_eq_getD_getElem?,zAR h1] at h2
   simp at h2
  refine ⟨hno,?_⟩
  have:=fin listed c Z G FP a w hcm (fun k hk=>hall k (by omega)) hcl hs' hG hE
  rw[List.drop_eq_nil_of_le hml'] at this
  exact this
 | succ fuel ih =>
  intro listed c Z G FP a w hsz hf hc hm hcm hcl hs' hG hE
  by_cases hall:∀k,k<m→listed.getD k false=true
  ·have h:=fin listed c Z G FP a w hcm hall hcl hs' hG hE
   refine zF9 hA.base (all.drop m) m (fuel+1) listed a w rfl (Nat.le_refl _) hml hsz hf hc (fun i hi=>⟨fun hx=>?_,fun hx=>hall i hx⟩) h
   rcases Nat.lt_or_ge i m with h' | h'
   ·exact h'
   ·rw[hm i h' hi] at hx;cases hx
  ·have hex:∃k,k<m∧listed.getD k false=false:=by
    apply Classical.byContradiction
    intro hn
    refine hall fun k h1=>?_
    cases hx:listed.getD k false with
    | true=>rfl
    | false=>exact absurd ⟨k,h1,hx⟩ hn
   obtain ⟨k,⟨hk1,hk3⟩,hkl⟩:=zR (p:=fun k=>k<m∧listed.getD k false=false) hex
   have hkr:k∈Region.ready .any all.toArray listed:=zBH hA.base hsz (by omega) hk3 (fun j hj=>by
    cases hx:listed.getD j false with
    | true=>rfl
    | false=>have:=hkl j ⟨by omega,hx⟩;omega)
   refine ⟨fun h0=>by rw[h0] at hkr;simp at hkr,fun i hi=>?_⟩
   obtain ⟨h1,o,ho,ha⟩:=mem_ready.1 hi
   rw[List.getElem?_toArray] at ho
   have hil:=(List.getElem?_eq_some_iff.1 ho).1
   have hnl:=zAR h1
   have hnf:listed.getD i false=false:=by rw[Array.getD_eq_getD_getElem?,hnl];rfl
   have him:i<m:=by
    rcases Nat.lt_or_ge i m with h' | h'
    ·exact h'
    ·have:=zAE hA.base hc hi (hA.base.ord k i _ o (by omega) (List.getElem?_eq_getElem (show k<all.length by omega)) ho (.inl h'))
     rw[hk3] at this;cases this
   have hoT:(all.take m)[i]?=some o:=by rw[List.getElem?_take,if_pos him];exact ho
   obtain ⟨x,hx,hcert⟩:=zBn (all.take m) xs hs 0 i T0 H0 o hc0 hoT
   obtain ⟨hok,hnd⟩:=hA.base.ok i o ho
   have hsee:∀t∈zCc all o,runM (fun k=>decide (k<0+i)) 0 (all.take m) xs T0 t=runM (fun k=>listed.getD k false) 0 (all.take m) xs T0 t:=by
    intro t ht
    refine zCB _ _ _ _ _ rfl fun j hj=>?_
    obtain ⟨oj,hoj,hd,hjm⟩:=zF1 hj
    simp only[Nat.zero_add]
    rcases Nat.lt_trichotomy j i with h' | h' | h'
    ·have:=zAE hA.base hc hi (hA.base.ord j i oj o h' hoj ho (.inr (by simp[zCq,hd,ht])))
     rw[this];simp[h']
    ·subst h';rw[hnf];simp
    ·have hjl:=(List.getElem?_eq_some_iff.1 hoj).1
     cases hx:listed.getD j false with
     | false=>simp;omega
     | true =>
      have:=zAL hA.base hc j i oj hoj (hc j oj hoj hx) (hA.base.ord i j o oj h' ho hoj (.inr (by
       unfold zCq
       rw[hd]
       simp[ht])))
      rw[hnf] at this;cases this
   have hcert':=zC9 hsee hcert
   rw[Nat.zero_add] at hcert'
   have hdall:all.all (zBr N)=true:=by
    rw[List.all_eq_true]
    intro o' ho'
    obtain ⟨j',hj'⟩:=List.mem_iff_getElem?.1 ho'
    have:=(hA.base.ok j' o' hj').1
    simp only[zG,Bool.and_eq_true] at this
    exact this.1
   have heavyAt:hv.contains i=true→zP H0 hs c=zP H0 hs i∧c≤i:=fun hvi=>by
    have hci:c≤i:=by
     rcases Nat.lt_or_ge i c with h | h
     ·have:=(hcl i him hvi).2 h;rw[hnf] at this;cases this
     ·exact h
    refine ⟨(zC2 hc0 i c hci (by omega) fun j h1 h2=>?_).symm,hci⟩
    cases hv' : hv.contains j with
    | false=>rfl
    | true =>
     have:=zAE hA.base hc hi (hA.hv j i _ o h2 (List.getElem?_eq_getElem (show j<all.length by omega)) ho hv' hvi)
     have:=(hcl j (by omega) hv').1 this
     omega
   have hquiet0:SameTo base.1 (zP H0 hs i) (zP H0 hs c):=by
    rcases Nat.lt_or_ge i c with h | h
    ·exact (zC3 hc0 c i (by omega) (by omega)).1
    ·intro id hid
     exact ((zC3 hc0 i c h (by omega)).1 id hid).symm
   have hquiet:hv.contains i=false→SameTo (bsO hv base i) (zP H0 hs i) (zP H0 hs c):=fun hvi0=>by
    cases hod:hv.contains (1000+i) with
    | false =>
     have:bsO hv base i=base.1:=by unfold bsO;rw[if_neg (by rw[hvi0];simp),if_neg (by rw[hod];simp)]
     rw[this];exact hquiet0
    | true =>
     have:bsO hv base i=base.2:=by unfold bsO;rw[if_neg (by rw[hvi0];simp),if_pos hod]
     rw[this]
     rcases Nat.lt_or_ge i c with h | h
     ·refine (zBu hc0 c i (by omega) (by omega) fun j h1 h2 hv' hw=>?_).1
      have hjl:j<all.length:=by omega
      have hlj:=(hcl j (by omega) hv').2 h2
      rcases Nat.lt_or_ge i j with h3 | h3
      ·have:=zAL hA.base hc j i all[j] (List.getElem?_eq_getElem hjl) (hc j all[j] (List.getElem?_eq_getElem hjl) hlj) (hA.od2 i j o all[j] h3 ho (List.getElem?_eq_getElem hjl) hod hw)
       rw[hnf] at this;cases this
      ·obtain rfl:i=j:=by omega
       rw[hnf] at hlj;cases hlj
     ·intro id hid
      refine ((zBu hc0 i c h (by omega) fun j h1 h2 hv' hw=>?_).1 id hid).symm
      have:=zAE hA.base hc hi (hA.od1 j i _ o h2 (List.getElem?_eq_getElem (show j<all.length by omega)) ho hw hod)
      have:=(hcl j (by omega) hv').1 this
      omega
   have hadd:=zEF hnl
   have hcl2:=zB8 hc (fun o' ho' e he hb=>by rw[ho] at ho';cases ho';exact ha e (by simpa using he) hb)
   have hT:runM (fun k=>(listed.setIfInBounds i true).getD k false) 0 (all.take m) xs T0=updO (runM (fun k=>listed.getD k false) 0 (all.take m) xs T0) o.dst x:=by
    refine zCx (all.take m) xs 0 i T0 o x hoT hx ?_ ?_ ?_ ?_
    ·simp only[Nat.zero_add];exact zAJ (by omega)
    ·simp only[Nat.zero_add];exact hnf
    ·intro k hk
     simp only[Nat.zero_add] at hk
     simp only[Array.getD_eq_getD_getElem?,Array.getElem?_setIfInBounds_ne (Ne.symm hk)]
    ·intro k hk hS t ht hdk
     simp only[Nat.zero_add] at hS
     obtain ⟨ok,hok',hd,_⟩:=zF1 hdk
     have:=zAL hA.base hc k i ok hok' (hc k ok hok' hS) (hA.base.ord i k o ok hk ho hok' (.inr (by
      unfold zCq
      rw[ht]
      simp[hd])))
     rw[hnf] at this;cases this
   have hm2:∀j,m≤j→j<all.length→(listed.setIfInBounds i true).getD j false=false:=fun j h1 h2=>by
    cases hx:(listed.setIfInBounds i true).getD j false with
    | false=>rfl
    | true =>
     rcases zY hx with rfl | hx
     ·omega
     ·rw[hm j h1 h2] at hx;cases hx
   cases hvi:hv.contains i with
   | true =>
    rw[hvi] at hcert'
    obtain ⟨hHc,hci⟩:=heavyAt hvi
    refine zET (L:=L) (Hn:=zP H0 hs (i+1)) hdall ho hok hnd hcert' hs' (hB Z FP w hE) hG.len (fun h=>by cases h) (fun _=>⟨hHc,rfl⟩) fun Z' G' FP' a' w' hs2 hG' hE'=>?_
    refine ih (listed.setIfInBounds i true) (i+1) Z' G' FP' a' w' (by simpa using hsz) (by omega) hcl2 hm2 (by omega) (fun j hj hv'=>?_) (by rw[hT];exact hs2) (hG.trans hG') (hE.trans hE')
    constructor
    ·intro hxx
     rcases zY hxx with rfl | hxx
     ·omega
     ·have:=(hcl j hj hv').1 hxx;omega
    ·intro hlt
     by_cases e:j=i
     ·subst e;exact zAJ (by omega)
     ·refine zAW ?_
      exact zAE hA.base hc hi (hA.hv j i _ o (by omega) (List.getElem?_eq_getElem (show j<all.length by omega)) ho hv' hvi)
   | false =>
    rw[hvi] at hcert'
    refine zET (L:=L) (Hn:=zP H0 hs c) hdall ho hok hnd hcert' hs' (hB Z FP w hE) hG.len (fun _=>⟨rfl,hquiet hvi⟩) (fun h=>by cases h) fun Z' G' FP' a' w' hs2 hG' hE'=>?_
    refine ih (listed.setIfInBounds i true) c Z' G' FP' a' w' (by simpa using hsz) (by omega) hcl2 hm2 hcm (fun j hj hv'=>?_) (by rw[hT];exact hs2) (hG.trans hG') (hE.trans hE')
    rw[←hcl j hj hv']
    constructor
    ·intro hxx
     rcases zY hxx with rfl | hxx
     ·rw[hvi] at hv';cases hv'
     ·exact hxx
    ·exact zAW
end go
section
variable {P:Program} {N L base:Nat} {hv:List Nat} {Q:Exit→KS} {H:Heap}
def isTo:Nat→Heap→Heap→Prop
 | 0,_,_=>True
 | m+1,a::t,b::u=>a=b∧isTo m t u
 | _,_,_=>False
theorem zKH:∀{m:Nat} {H H' : Heap},isTo m H H'→SameTo m H H'
 | 0,_,_,_=>fun id h=>absurd h (Nat.not_lt_zero _)
 | m+1,a::t,b::u,h=>by
  obtain ⟨rfl,h⟩:=h
  intro id hid
  cases id with
  | zero=>rfl
  | succ id=>simpa using zKH h id (by omega)
 | _+1,[],_,h=>by simp[isTo] at h
 | _+1,_::_,[],h=>by simp[isTo] at h
def exRm (k:KS) (base:Nat) (res:Res) (d:Option Nat) (T:Nat→HV) (H:Heap):Prop:=onR res fun x H'=>isTo base H H'∧H.length≤H'.length∧k (updO T d x) H'
def exRn (k:KS) (res:Res) (d:Option Nat) (T:Nat→HV) (H:Heap):Prop:=onR res fun x _=>k (updO T d x) H
def zIt (k:KS) (P:Program) (fid:Nat) (H:Heap) (args:List HV) (d:Option Nat) (T:Nat→HV):Prop :=
 ∃n R args',HFn P fid args' R∧zEX n H args args' R∧k (updO T d (zAH R H).1) (zAH R H).2
def zDd (k:KS) (P:Program) (f:HV) (H:Heap) (args:List HV) (d:Option Nat) (T:Nat→HV):Prop :=
 match f with
 | .fn fid caps=>zIt k P (fnF fid) H (fnA fid .any args caps) d T
 | _=>False
def zEt (k:KS) (P:Program) (f:Option Nat) (H:Heap) (args:List HV) (d:Option Nat) (T:Nat→HV):Prop :=
 match f with
 | some fid=>zIt k P fid H args d T
 | none=>False
def zHj (k:KS) (P:Program) (rv:HV) (name:String) (H:Heap) (args:List HV) (d:Option Nat) (T:Nat→HV):Prop :=
 match rv with
 | .ic t x=>zEt k P (zAb P t name) H (x::args) d T
 | _=>False
def zKw (k:KS) (P:Program) (fid:Nat) (H:Heap) (args:List HV) (d:Option Nat) (T:Nat→HV):Prop :=
 ∃R,HFn P fid args R∧nmL 0 args=true∧k (updO T d (fzo R)) H
def zDc (k:KS) (P:Program) (f:HV) (H:Heap) (args:List HV) (d:Option Nat) (T:Nat→HV):Prop :=
 match f with
 | .fn fid caps=>zKw k P (fnF fid) H (fnA fid .any args caps) d T
 | _=>False
def zEs (k:KS) (P:Program) (f:Option Nat) (H:Heap) (args:List HV) (d:Option Nat) (T:Nat→HV):Prop :=
 match f with
 | some fid=>zKw k P fid H args d T
 | none=>False
def zHi (k:KS) (P:Program) (rv:HV) (name:String) (H:Heap) (args:List HV) (d:Option Nat) (T:Nat→HV):Prop :=
 match rv with
 | .ic t x=>zEs k P (zAb P t name) H (x::args) d T
 | _=>False
def exOm (k:KS) (P:Program) (base:Nat) (d:Option Nat) (op:Op) (T:Nat→HV) (H:Heap):Prop :=
 match op with
 | .call { callee:=.value f,args:=args,argTypes:=_ }=>base≤H.length∧zDd k P (hev T f) H (args.toList.map (hev T)) d T
 | .call { callee:=.invoke rv name,args:=args,argTypes:=_ }=>base≤H.length∧zHj k P (hev T rv) name H (args.toList.map (hev T)) d T
 | op=>exRm k base (rop P T H op) d T H
def exOn (k:KS) (P:Program) (base:Nat) (d:Option Nat) (op:Op) (T:Nat→HV) (H:Heap):Prop :=
 match op with
 | .call { callee:=.value f,args:=args,argTypes:=_ }=>zDc k P (hev T f) H (args.toList.map (hev T)) d T
 | .call { callee:=.invoke rv name,args:=args,argTypes:=_ }=>zHi k P (hev T rv) name H (args.toList.map (hev T)) d T
 | .buildSlice t len parts=>exRn k (z2 P T H t len parts.toList) d T H
 | op=>(zBq op=true∨(op.operands.toList.all fun y=>nm base (hev T y))=true)∧exRn k (ropQ P T H op) d T H
def exOe (k:KS) (P:Program) (base:Nat) (h:Bool) (d:Option Nat) (op:Op) (T:Nat→HV) (H:Heap):Prop :=
 match h with
 | true=>exOm k P base d op T H
 | false=>exOn k P base d op T H
def zDf (k:KS) (P:Program) (base:Nat) (h:Bool) (v:HV) (b:Bool) (d:Option Nat) (op:Op) (T:Nat→HV) (H:Heap):Prop :=
 match v with
 | .v (.bool c)=>(c=b→exOe k P base h d op T H)∧(c=(!b)→k (updO T d (.v undef)) H)
 | .v (.tuple _)=>k (updO T d (.v undef)) H
 | _=>False
def exBm (k:KS) (P:Program) (base:Nat) (h:Bool) (t:Option Nat) (b:Bool) (d:Option Nat) (op:Op) (T:Nat→HV) (H:Heap):Prop :=
 match t with
 | some t=>zDf k P base h (T t) b d op T H
 | none=>False
def exGm (P:Program) (base:Nat) (h:Bool) (all:List Oper) (o:Oper) (k:KS) (T:Nat→HV) (H:Heap):Prop :=
 match o.guard with
 | none=>exOe k P base h o.dst o.op T H
 | some (j,b)=>exBm k P base h (zA4 all j) b o.dst o.op T H
def exM (P:Program) (base:Nat×Nat) (hv:List Nat) (all:List Oper) (k:KS):Nat→List Oper→KS
 | _,[]=>k
 | j,o::l=>fun T H=>exGm P (bsO hv base j) (hv.contains j) all o (exM P base hv all k (j+1) l) T H
theorem zTi {k:KS} {d:Option Nat} {op:Op} {T:Nat→HV} (h:exOm k P base d op T H):∃x H',zUp P base T H op x H'∧k (updO T d x) H':=by
 have named:∀(R:HV),base≤H.length→SameTo base H (zAH R H).2∧H.length≤(zAH R H).2.length:=fun R hb=>by
  obtain ⟨B,hB⟩:=zJw R H
  rw[hB]
  exact ⟨SameTo.app B hb,by simp⟩
 unfold exOm at h
 split at h
 ·rename_i f args tys
  obtain ⟨hb,h⟩:=h
  unfold zDd at h
  split at h
  ·rename_i fid caps hf
   obtain ⟨n,R,args',h1,h2,h3⟩:=h
   obtain ⟨k1,k2⟩:=named R hb
   exact ⟨_,_,⟨k1,k2,.inl ⟨f,args,tys,fid,caps,n,R,args',rfl,hf,h1,h2,rfl⟩⟩,h3⟩
  ·exact h.elim
 ·rename_i rv name args tys
  obtain ⟨hb,h⟩:=h
  unfold zHj at h
  split at h
  ·rename_i t y hf
   unfold zEt at h
   split at h
   ·rename_i fid hm
    obtain ⟨n,R,args',h1,h2,h3⟩:=h
    obtain ⟨k1,k2⟩:=named R hb
    exact ⟨_,_,⟨k1,k2,.inr (.inl ⟨rv,name,args,tys,t,y,fid,n,R,args',rfl,hf,hm,h1,h2,rfl⟩)⟩,h3⟩
   ·exact h.elim
  ·exact h.elim
 ·unfold exRm at h
  cases hr:rop P T H op with
  | none=>rw[hr] at h;exact h.elim
  | some q =>
   obtain ⟨p,x,H'⟩:=q
   rw[hr] at h
   exact ⟨x,H',⟨zKH h.2.1,h.2.2.1,.inr (.inr ⟨p,h.1,hr⟩)⟩,h.2.2.2⟩
theorem zTf {k:KS} {d:Option Nat} {op:Op} {T:Nat→HV} (h:exOn k P base d op T H):∃x,zUo P base T H op x∧k (updO T d x) H:=by
 unfold exOn at h
 split at h
 ·rename_i f args tys
  unfold zDc at h
  split at h
  ·rename_i fid caps hf
   obtain ⟨R,h1,h2,h3⟩:=h
   exact ⟨_,.inr (.inl ⟨f,args,tys,fid,caps,R,rfl,hf,h1,h2,rfl⟩),h3⟩
  ·exact h.elim
 ·rename_i rv name args tys
  unfold zHi at h
  split at h
  ·rename_i t y hf
   unfold zEs at h
   split at h
   ·rename_i fid hm
    obtain ⟨R,h1,h2,h3⟩:=h
    exact ⟨_,.inr (.inr (.inl ⟨rv,name,args,tys,t,y,fid,R,rfl,hf,hm,h1,h2,rfl⟩)),h3⟩
   ·exact h.elim
  ·exact h.elim
 ·rename_i t len parts
  unfold exRn at h
  cases hr:z2 P T H t len parts.toList with
  | none=>rw[hr] at h;exact h.elim
  | some q =>
   obtain ⟨p,x,H'⟩:=q
   rw[hr] at h
   exact ⟨x,.inr (.inr (.inr ⟨t,len,parts,p,H',rfl,h.1,hr⟩)),h.2⟩
 ·obtain ⟨hi,h⟩:=h
  unfold exRn at h
  cases hr:ropQ P T H op with
  | none=>rw[hr] at h;exact h.elim
  | some q =>
   obtain ⟨p,x,H'⟩:=q
   rw[hr] at h
   exact ⟨x,.inl ⟨p,H',h.1,hr,hi.imp id fun hi y hy=>List.all_eq_true.1 hi y hy⟩,h.2⟩
theorem zK1 {k:KS} {d:Option Nat} {h0:Bool} {op:Op} {T:Nat→HV} (h:exOe k P base h0 d op T H):∃x H',zFC P base h0 T H op x H'∧k (updO T d x) H':=by
 cases h0 with
 | true=>exact zTi h
 | false =>
  obtain ⟨x,h1,h2⟩:=zTf h
  exact ⟨x,H,⟨h1,rfl⟩,h2⟩
theorem zTx {all:List Oper} {h0:Bool} {o:Oper} {k:KS} {T:Nat→HV} (h:exGm P base h0 all o k T H):∃x H',zEZ P base h0 all T H o x H'∧k (updO T o.dst x) H':=by
 unfold exGm at h
 unfold zEZ
 split at h
 ·rename_i hg
  try rw[hg]
  exact zK1 h
 ·rename_i j b hg
  try rw[hg]
  try simp only
  unfold exBm at h
  split at h
  ·rename_i t ht
   unfold zDf at h
   split at h
   ·rename_i c hv
    by_cases hcb:c=b
    ·obtain ⟨x,H',h1,h2⟩:=zK1 (h.1 hcb)
     exact ⟨x,H',⟨t,ht,.inl ⟨c,hv,fun _=>h1,fun hc=>by subst hcb;cases c <;> simp at hc⟩⟩,h2⟩
    ·have hc:c=(!b):=by cases c <;> cases b <;> simp_all
     exact ⟨.v undef,H,⟨t,ht,.inl ⟨c,hv,fun hc'=>absurd hc' hcb,fun _=>⟨rfl,rfl⟩⟩⟩,h.2 hc⟩
   ·rename_i ts hv
    exact ⟨.v undef,H,⟨t,ht,.inr ⟨ts,hv,rfl,rfl⟩⟩,h⟩
   ·exact h.elim
  ·exact h.elim
theorem zIl {base:Nat×Nat} {all:List Oper} {k:KS}:∀(l:List Oper) (i:Nat) (T:Nat→HV) (H:Heap),exM P base hv all k i l T H→∃xs hs,zFQ P base hv all i l T H xs hs∧k (runM (fun _=>true) i l xs T) (zP H hs l.length)
 | [],i,T,H,h=>⟨[],[],⟨rfl,rfl⟩,h⟩
 | o::l,i,T,H,h=>by
  obtain ⟨x,H',h1,h2⟩:=zTx h
  obtain ⟨xs,hs,h3,h4⟩:=zIl l (i+1) _ H' h2
  exact ⟨x::xs,H'::hs,⟨x,H',xs,hs,rfl,rfl,h1,h3⟩,h4⟩
theorem HW.mixed {id:Nat} {all:List Oper} {T:Nat→HV} (n m:Nat) (base:Nat×Nat) (hv:List Nat) (hm:P.follows .mixedOrders=true) (hB:zXz N m hv all=true) (hml:m≤all.length)
  (h:exM P base hv all (ex P N L Q n [.ops all (all.drop m)]) 0 (all.take m) T H):HW P N L (.region id all.toArray true) Q T H:=by
 obtain ⟨xs,hs,hc,hex⟩:=zIl (all.take m) 0 T H h
 have hlm:(all.take m).length=m:=by rw[List.length_take];omega
 rw[hlm] at hex
 intro ro mm B Z G FP ds a w hB' hL hst
 have hA:=zHr hB
 have hEv:Evo Z FP w Z FP { w with drawn:=w.drawn+1 }:=⟨rfl,rfl,rfl,Nat.le_refl _,fun _ _ _=>rfl,fun _ h=>h,fun _ h=>.inl h,fun id b hb=>.inr ⟨id,hb⟩⟩
 have hi:HInv Z G FP H { w with drawn:=w.drawn+1 }:=hst.inv.keep (Nat.le_refl _) (fun _ _=>rfl)
 have hs':=hst.evo hi (GLe.refl _) hEv
 have hallok:(all.all fun o=>zG N o && zAD o)=true:=by
  rw[List.all_eq_true]
  intro o ho
  obtain ⟨j,hj⟩:=List.mem_iff_getElem?.1 ho
  have:=hA.base.ok j o hj
  simp[this.1,this.2]
 have hdrop:((all.drop m).all fun o=>zG N o && zAD o)=true:=by
  rw[List.all_eq_true]
  intro o ho
  exact List.all_eq_true.1 hallok o (List.mem_of_mem_drop ho)
 refine wpIn_region_any hm ?_
 refine z12 (m:=m) (B:=B) (L:=L) (Z0:=Z) (G0:=G) (FP0:=FP) (ds:=ds) (w0:=w) hA hc hml (fun Z' FP' w' hE=>hB'.evo hE) ?_ _ _ 0 Z G FP _ _ (by simp) ?_ ?_ (fun j h1 h2=>?_) (Nat.zero_le _) (fun j hj hv=>?_) ?_ (GLt.refl hL) hEv
 ·intro Z1 G1 FP1 a1 w1 hs1 hG1 hE1
  have:=zCP n [.ops all (all.drop m)] _ _ hex (by simp[zAn,hallok,hdrop]) ro mm B Z G FP w Z1 G1 FP1 ds a1 w1 (hB'.evo hE1) hs1 hG1 hE1
  simp only[M] at this
  exact this
 ·have:∀k:Nat,left (Array.replicate k false)=k:=by intro k;simp[left]
  rw[this];simp
 ·intro j o hj hl
  exfalso
  have hjl:=(List.getElem?_eq_some_iff.1 hj).1
  simp[Array.getD_eq_getD_getElem?,hjl] at hl
 ·simp[Array.getD_eq_getD_getElem?,h2]
 ·simp[Array.getD_eq_getD_getElem?,show j<all.length by omega]
 ·have e:runM (fun k=>(Array.replicate all.toArray.size false).getD k false) 0 (all.take m) xs T=T:=by
   funext t
   rw[zBc]
   intro j _
   simp only[Array.getD_eq_getD_getElem?]
   by_cases hlt:0+j<all.toArray.size
   ·have:0+j<all.length:=by simpa using hlt
    rw[Array.getElem?_eq_getElem (by simpa using hlt)]
    simp
   ·rw[Array.getElem?_eq_none (by simpa using hlt)];rfl
  rw[e]
  exact hs'
end
end Go.Proofs.YtoknohandclcbaaGreat
