/- Parts of the proof: HiL, HiLc, HiLm, HiM. -/
import Derived.Test.YtoknohandclcbaaGreatZc01
import Derived.Laws.BytesString
import Derived.MapKept
import Derived.ChangeMaps4
import Derived.RangeFuncSeq
set_option linter.unusedSectionVars false
set_option linter.unusedVariables false
set_option linter.unusedSimpArgs false
namespace Go.Proofs.YtoknohandclcbaaGreat
open Go.RowKit
def zAQ (H:Heap) (x:HV):Option (List (List HV)) :=
 match x with
 | .v (.slice none 0 0)=>some []
 | .v (.slice (some _) 0 _)=>some []
 | .sl rows=>some rows
 | .hd id off len =>
  match H[id]? with
  | some (some ob)=>if off+len=ob.rows.length then some (ob.rows.drop off) else none
  | _=>none
 | _=>none
def zGW (P:Program) (H:Heap) (t:TypeId) (s x:HV) (K:KT):Prop :=
 match zL P t 3,zAQ H x with
 | some (_,e,te),some new =>
  te.size≠0∧(zA te).isSome=true∧tvs new.flatten=true∧(∀r∈new,r.length=te.size)∧
  (match s with
  | .v (.slice none 0 0)=>new.length≤140737488355328∧new.length*te.bytes≤140737488355328∧zJv H e te.size new K
  | .hd id 0 len =>
   match H[id]? with
   | some (some ob)=>len=ob.rows.length∧ob.e=e∧ob.sz=te.size∧len+new.length≤140737488355328∧(len+new.length)*te.bytes≤140737488355328∧
     K (.hd id 0 (len+new.length)) (H.set id (some { ob with rows:=ob.rows++new }))
   | _=>False
  | _=>False)
 | _,_=>False
section
variable {P:Program} {N:Nat} {T:Nat→HV} {H:Heap} {K:KT} {Z:Nat→Prop} {G:List (Option OG)} {FP:Nat→List Nat} {w:World}
theorem zIx {b sz:Nat}:∀(rows:List (List HV)) (k l:Nat) (fp:List Nat),(∀r∈rows,r.length=sz)→RR Z G w rows b k fp→∃f,RR Z G w (rows.drop l) b (k+l*sz) f∧f.Sublist fp
 | rows,k,0,fp,_,h=>⟨fp,by simpa using h,List.Sublist.refl _⟩
 | [],k,l+1,fp,_,h=>⟨[],by simp[RR],List.nil_sublist _⟩
 | r::t,k,l+1,fp,hu,h=>by
  simp only[RR] at h
  obtain ⟨f1,f2,rfl,h1,h2⟩:=h
  obtain ⟨f,h3,h4⟩:=zIx t (k+r.length) l f2 (fun x hx=>hu x (by simp[hx])) h2
  rw[hu r (by simp)] at h3
  refine ⟨f,?_,h4.trans (List.sublist_append_right _ _)⟩
  simp only[List.drop_succ_cons]
  rw[show k+(l+1)*sz=k+sz+l*sz by rw[Nat.add_mul];omega]
  exact h3
theorem zNK {b sz:Nat}:∀(rows:List (List HV)) (k:Nat) (fp:List Nat),(∀r∈rows,r.length=sz)→RR Z G w rows b k fp→
  ∃ys,RL Z G w rows.flatten ys fp∧(∀(j:Nat) u,ys[j]?=some u→w.cell? ⟨b,k+j,none⟩=some u)∧∀u∈ys,u.oneCell'=true
 | [],k,fp,_,h=>⟨[],by simpa [RL,RR] using h,by simp,by simp⟩
 | r::t,k,fp,hu,h=>by
  simp only[RR] at h
  obtain ⟨f1,f2,rfl,h1,h2⟩:=h
  obtain ⟨ys1,a1,a2,a3⟩:=zNN r k f1 h1
  obtain ⟨ys2,b1,b2,b3⟩:=zNK t (k+r.length) f2 (fun x hx=>hu x (by simp[hx])) h2
  have hl:=zS _ _ _ a1
  refine ⟨ys1++ys2,(zZ _ _ _ _).2 ⟨ys1,ys2,f1,f2,rfl,rfl,a1,b1⟩,fun j u hj=>?_,fun u hu=>?_⟩
  ·rw[List.getElem?_append] at hj
   split at hj
   ·exact a2 j u hj
   ·have:=b2 _ u hj
    rw[show k+j=k+r.length+(j-ys1.length) by omega];exact this
  ·rcases List.mem_append.1 hu with hu | hu
   ·exact a3 u hu
   ·exact b3 u hu
theorem zIE (hi:HInv Z G FP H w) {x:HV} {y:Value} {rows:List (List HV)} {sz:Nat} (hs:zAQ H x=some rows) (hsz:∀r∈rows,r.length=sz) (ht:tvs rows.flatten=true) (hv:RV Z G w x y []) :
  ∃ys,RL Z G w rows.flatten ys []∧(∀u∈ys,u.oneCell'=true)∧((y=.slice none 0 0∧rows=[])∨(rows=[]∧∃a c,y=.slice a 0 c)∨∃b o c,y=.slice (some ⟨b,o,none⟩) rows.length c∧∀(j:Nat) u,ys[j]?=some u→w.cell? ⟨b,o+j,none⟩=some u):=by
 unfold zAQ at hs
 split at hs
 ·cases hs;exact ⟨[],by simp[RL],by simp,.inl ⟨RV_v hv,rfl⟩⟩
 ·rename_i a c;cases hs;exact ⟨[],by simp[RL],by simp,.inr (.inl ⟨rfl,some a,c,RV_v hv⟩)⟩
 ·cases hs
  simp only[RV] at hv
  obtain ⟨_,ad,c,hy,hc,hm,hx⟩:=hv
  rcases hx with rfl | ⟨b,q,rfl,hz,hu,hrr⟩
  ·exact ⟨[],by simp[RL],by simp,.inr (.inl ⟨rfl,ad,c,hy⟩)⟩
  ·obtain ⟨ys,h1,h2,h3⟩:=zNK rows q [] hsz hrr
   exact ⟨ys,RL.keep (fun _ _=>rfl) (fun _ h=>h) (zBD _) _ _ _ (fun _ _=>rfl) h1,h3,.inr (.inr ⟨b,q,c,hy,h2⟩)⟩
 ·rename_i id off len
  split at hs
  ·rename_i ob ho
   split at hs
   ·rename_i hn
    cases hs
    obtain ⟨g,hg,hOB,hview⟩:=zEK hi ho hn hv
    have hlen:(ob.rows.drop off).length=len:=by simp;omega
    unfold View at hview
    split at hview
    ·rename_i hbn
     obtain ⟨hview,hv1,hv2⟩:=hview
     have hr:ob.rows=[]:=by
      rcases hOB.at_ with ⟨_,e1,_⟩ | ⟨b,cells,f,e1,_⟩ | ⟨u3,hs3,obj3,f3,e1,e3,_⟩
      ·exact e1
      ·rw[hbn] at e1;cases e1
      ·have:=congrArg List.length e3;simp only[List.length_cons,List.length_nil] at this;omega
     exact ⟨[],by simp[hr,RL],by simp,.inl ⟨hview,by simp[hr]⟩⟩
    ·rename_i b hb
     obtain ⟨ad,hy,hA⟩:=hview
     obtain ⟨b',cells,f,e1,e2,e3,e4,e5,e6,e7⟩:=hOB.cells_ hb
     rw[hb] at e1;cases e1
     obtain ⟨f',h1,h2⟩:=zIx ob.rows 0 off f hOB.len e7
     have hall:∀r∈ob.rows.drop off,r.length=ob.sz:=fun r hr=>hOB.len r (List.mem_of_mem_drop hr)
     obtain ⟨ys,h3,h4,h5⟩:=zNK (ob.rows.drop off) _ f' hall h1
     have hf' : f'=[]:=zDX _ _ _ ht h3
     subst hf'
     by_cases hl0:len=0
     ·have:ob.rows.drop off=[]:=List.eq_nil_of_length_eq_zero (by omega)
      refine ⟨ys,h3,h5,.inr (.inl ⟨this,some ad,g.cap-off,by rw[hy,hl0]⟩)⟩
     ·refine ⟨ys,h3,h5,.inr (.inr ⟨b,off*ob.sz,g.cap-off,?_,fun j u hj=>?_⟩)⟩
      ·rw[hy,hlen,hA (.inl hl0),hOB.sz]
      ·have:=h4 j u hj;rwa [Nat.zero_add] at this
   ·cases hs
  ·cases hs
 ·cases hs
theorem zDV {t ty e:TypeId} {te:TI} (hs1:P.underlying t=some (.slice e)) (hs2:ti P e=some te) {a a' : Option Addr} {n c c' : Nat} (hn:n≤c) :
  (Builtin.append_ #[t,t] ty #[.slice a n c,.slice a' 0 c']).run P w=.ok (.slice a n c) w:=by
 have hst:∀ad:Addr,(storeCells ad []:Sem Unit)=pure ():=fun ad=>by simp[storeCells]
 have hf:∀sz:Nat,(Builtin.firstCells sz 0 (.slice a' 0 c')).run P w=.ok #[] w:=by
  intro sz
  cases a' with
  | none=>simp[Builtin.firstCells]
  | some ad=>simp[Builtin.firstCells,loadCells,loadCellsFrom]
 cases a <;> simp[Builtin.append_,run_underlying hs1,zT hs2,Builtin.lenOf,hn,hf,hst]
theorem zNO {G' : List (Option OG)} {w' : World} {ob:HObj} {g' : OG} {new:List (List HV)} {olds news:List Value} {f:List Nat} {b:Nat} {cells:Array Value} {G:List (Option OG)}
  (he:g'.e=ob.e) (hsz:g'.sz=ob.sz) (hn:g'.n=(ob.rows++new).length) (hb:g'.blk=some b) (hlen:∀r∈ob.rows,r.length=ob.sz) (hlen' : ∀r∈new,r.length=ob.sz)
  (hh:w'.heap[b]?=some (.cells cells ob.e (0,0))) (hc:cells.size=g'.cap*ob.sz) (hcap:(ob.rows++new).length≤g'.cap) (hm:g'.cap≤maxLen)
  (htake:cells.toList.take ((ob.rows++new).length*ob.sz)=olds++news) (ho:RL Z G w ob.rows.flatten olds f) (hnw:RL Z G w new.flatten news []) (h1:∀u∈olds++news,u.oneCell'=true)
  (hG:GLe G G') (hZ:∀z,Z z→w'.heap[z]?=w.heap[z]?) (hf:∀z∈f,w'.heap[z]?=w.heap[z]?):OB Z G' w' { ob with rows:=ob.rows++new } g' (b::f):=by
 have hall:∀r∈ob.rows++new,r.length=ob.sz:=fun r hr=>by
  rcases List.mem_append.1 hr with hr | hr
  ·exact hlen r hr
  ·exact hlen' r hr
 refine ⟨he,hsz,hn,hall,.inr (.inl ⟨b,cells,f,hb,rfl,hh,hc,hcap,hm,?_⟩)⟩
 have hfl:=zAq _ hall
 refine (zCV hh _ 0 _ (Nat.zero_le _)).2 ⟨?_,?_,?_⟩
 ·show 0+(ob.rows++new).flatten.length≤cells.size
  rw[hfl,hc,Nat.zero_add];exact Nat.mul_le_mul_right _ hcap
 ·show RL Z G' w' (ob.rows++new).flatten ((cells.toList.drop 0).take (ob.rows++new).flatten.length) f
  rw[hfl,List.drop_zero,htake,List.flatten_append]
  refine (zZ _ _ _ _).2 ⟨olds,news,f,[],rfl,by simp,?_,?_⟩
  ·exact RL.keep hZ (fun _ h=>h) hG _ _ _ hf ho
  ·exact RL.keep hZ (fun _ h=>h) hG _ _ _ (by simp) hnw
 ·show ∀y∈(cells.toList.drop 0).take (ob.rows++new).flatten.length,y.oneCell'=true
  rw[hfl,List.drop_zero,htake];exact h1
theorem zRU (z:Array Value) (n:Nat):(Builtin.zeroCells z n).size=n*z.size:=by simp[Builtin.zeroCells]
theorem zLS {o:Oper} {t:TypeId} {s x:Operand} (ho:o.op=.call { callee:=.builtin .append,args:=#[s,x],argTypes:=#[t,t] }) (hok:zG N o=true) (h:zGW P H t (hev T s) (hev T x) K):HR P N o T H K:=by
 intro B Z G FP ds a w hs
 have hvs:=hs.hev s (zF hok (by simp[ho,Op.operands,Call.operands]))
 have hvx:=hs.hev x (zF hok (by simp[ho,Op.operands,Call.operands]))
 have hexec:∀v w',(Builtin.append_ #[t,t] o.type #[a.eval s,a.eval x]).run P w=.ok v w'→(execOp a.eval o).run P w=.ok (.value v) w':=by
  intro v w' hr
  simp only[execOp,ho,resolve,invoke,builtin,Sem.run_bind,Sem.run_pure,Result.andThen_ok,List.map_toArray,List.map_cons,List.map_nil,hr]
 unfold zGW at h
 split at h
 ·rename_i tx e te new helem hsrc
  obtain ⟨hsz0,hzc,htv,hnl,h⟩:=h
  obtain ⟨hs1,hs2⟩:=zAT helem
  obtain ⟨zc,hzc⟩:=Option.isSome_iff_exists.1 hzc
  obtain ⟨z,hz,rfl,hz1,hzs⟩:=zAs hzc
  obtain ⟨td,inf,htd,hinf,rfl⟩:=zAe hs2
  rw[TI.of_zero] at hz
  rw[TI.of_size] at hzs hnl hsz0
  obtain ⟨news,hnews,hn1,hsy⟩:=zIE hs.inv hsrc hnl htv hvx
  have hnfl:=zAq _ hnl
  have hnll:=zS _ _ _ hnews
  rw[hnfl] at hnll
  split at h
  ·
   rename_i es
   rw[es] at hvs
   have hvs:=RV_v hvs
   obtain ⟨hb1,hb2,hK⟩:=h
   rw[TI.of_bytes] at hb2
   unfold zJv at hK
   by_cases hnew:new=[]
   ·subst hnew
    obtain ⟨a',c',hy⟩:∃a' c',a.eval x=.slice a' 0 c':=by
     rcases hsy with ⟨hy,_⟩ | ⟨_,a',c',hy⟩ | ⟨b,q,c,hy,_⟩
     ·exact ⟨none,0,hy⟩
     ·exact ⟨a',c',hy⟩
     ·exact ⟨_,c,hy⟩
    have hrun:=zDV (P:=P) (w:=w) (ty:=o.type) hs1 hs2 (a:=none) (a':=a') (n:=0) (c:=0) (c':=c') (Nat.le_refl _)
    have hlt:=hs.inv.len
    refine ⟨.value (.slice none 0 0),_,w,.hd H.length 0 0,_,Z,G++[some ⟨none,e,(TI.of td inf).size,0,0⟩],_,?_,.inl rfl,hK,?_,hs.inv.new (Nat.le_refl _) (fun _ _=>rfl) (fp:=[]) (g:=⟨none,e,(TI.of td inf).size,0,0⟩) ⟨rfl,rfl,rfl,by simp,.inl ⟨rfl,rfl,rfl⟩⟩ (by simp) (by simp),GLe.more _,zG7 (hs.inv.nofp _ (by simp)) rfl rfl rfl (Nat.le_refl _) (fun _ _=>rfl) (by simp)⟩
    ·exact hexec _ _ (by rw[hvs,hy];exact hrun)
    ·simp only[RV]
     rw[←hs.inv.len]
     refine ⟨trivial,rfl,by simp,fun g hg=>?_⟩
     simp at hg;subst hg
     exact ⟨Nat.le_refl _,fun _=>⟨rfl,rfl,rfl⟩⟩
   ·have hpos:0<new.length:=by cases new with | nil=>exact absurd rfl hnew | cons r t=>simp
    obtain ⟨b,q,c,hy,hcell⟩:∃b q c,a.eval x=.slice (some ⟨b,q,none⟩) new.length c∧∀(j:Nat) u,news[j]?=some u→w.cell? ⟨b,q+j,none⟩=some u:=by
     rcases hsy with ⟨_,hc⟩ | ⟨hc,_⟩ | h
     ·exact absurd hc hnew
     ·exact absurd hc hnew
     ·exact h
    have hcell' : ∀(j:Nat) u,news[j]?=some u→w.cell? ((⟨b,q,none⟩:Addr).add j)=some u:=fun j u hj=>by rw[zBX];exact hcell j u hj
    have hrun:=run_append_nil (P:=P) w t o.type e inf z hs1 hinf hz ⟨b,q,none⟩ new.length c news hnll hcell' hpos (by omega) (by omega)
    have hge:=grownCap_ge w new.length 0 e
    have hle:=grownCap_le_maxLen w new.length 0 e (by simp only[maxLen];omega)
    obtain ⟨FP',i1,i2,i3,i4⟩:=lay (e:=e) (sz:=(TI.of td inf).size) (cap:=grownCap w new.length 0 e) (rows:=new) (cells:=news.toArray++Builtin.zeroCells z.cells (grownCap w new.length 0 e-new.length)) (w1:=w.drew) hs.inv (.inr rfl)
     (by simp only[Array.size_append,List.size_toArray,zRU,hzs,hnll,TI.of_size,←Nat.add_mul];congr 1;omega) hge hle (by rw[TI.of_size];exact hnl)
     (by rw[hnfl];simp only[Array.toList_append,List.take_left' hnll];exact hnews) (by rw[hnfl];simp only[Array.toList_append,List.take_left' hnll];exact hn1)
    refine ⟨_,_,_,_,_,Z,_,FP',?_,.inl rfl,hK,i3,i1,GLe.more _,i2⟩
    exact hexec _ _ (by rw[hvs,hy];exact hrun)
  ·
   rename_i id len es
   rw[es] at hvs
   split at h
   ·rename_i ob hob
    obtain ⟨hn,hoe,hosz,hb1,hb2,hK⟩:=h
    rw[TI.of_bytes] at hb2
    rw[TI.of_size] at hosz
    obtain ⟨g,hg,hOB,hview⟩:=zEK hs.inv hob (by omega) hvs
    have hlt:=hs.inv.lt hob
    by_cases hnew:new=[]
    ·subst hnew
     obtain ⟨a',c',hy⟩:∃a' c',a.eval x=.slice a' 0 c':=by
      rcases hsy with ⟨hy,_⟩ | ⟨_,a',c',hy⟩ | ⟨b,q,c,hy,_⟩
      ·exact ⟨none,0,hy⟩
      ·exact ⟨a',c',hy⟩
      ·exact ⟨_,c,hy⟩
     have hset:H.set id (some { ob with rows:=ob.rows++[] })=H:=by rw[List.append_nil];exact zAI hob
     rw[hset] at hK
     obtain ⟨a0,c0,hys,hle⟩:∃a0 c0,a.eval s=.slice a0 len c0∧len≤c0:=by
      unfold View at hview
      split at hview
      ·rename_i hbn
       obtain ⟨hview,hv1,hv2⟩:=hview
       have:len=0:=by
        rcases hOB.at_ with ⟨_,e1,_⟩ | ⟨b,cells,f,e1,_⟩ | ⟨u3,hs3,obj3,f3,e1,e3,_⟩
        ·rw[e1] at hn;simpa using hn
        ·rw[hbn] at e1;cases e1
        ·have:=congrArg List.length e3;simp only[List.length_cons,List.length_nil] at this;omega
       subst this
       exact ⟨none,0,hview,Nat.le_refl _⟩
      ·rename_i b hb
       obtain ⟨ad,hy,_⟩:=hview
       refine ⟨some ad,_,hy,?_⟩
       obtain ⟨b',cells,f,e1,e2,e3,e4,e5,_⟩:=hOB.cells_ hb
       ·omega
     have hrun:=zDV (P:=P) (w:=w) (ty:=o.type) hs1 hs2 (a:=a0) (a':=a') (n:=len) (c:=c0) (c':=c') hle
     refine ⟨.value (a.eval s),_,w,.hd id 0 len,H,Z,G,FP,?_,.inl rfl,hK,hvs,hs.inv,GLe.refl _,Evo.refl _ _ _⟩
     rw[hys];exact hexec _ _ (by rw[hys,hy];exact hrun)
    ·have hpos:0<new.length:=by cases new with | nil=>exact absurd rfl hnew | cons r t=>simp
     obtain ⟨b,q,c,hy,hcell⟩:∃b q c,a.eval x=.slice (some ⟨b,q,none⟩) new.length c∧∀(j:Nat) u,news[j]?=some u→w.cell? ⟨b,q+j,none⟩=some u:=by
      rcases hsy with ⟨_,hc⟩ | ⟨hc,_⟩ | h
      ·exact absurd hc hnew
      ·exact absurd hc hnew
      ·exact h
     have hcell' : ∀(j:Nat) u,news[j]?=some u→w.cell? ((⟨b,q,none⟩:Addr).add j)=some u:=fun j u hj=>by rw[zBX];exact hcell j u hj
     have hnl' : ∀r∈new,r.length=ob.sz:=by rw[hosz];exact hnl
     have holen:=zAq _ hOB.len
     have fin:∀(w' : World) (b' : Nat) (cap' : Nat) (cells' : Array Value) (olds:List Value) (f:List Nat),(execOp a.eval o).run P w=.ok (.value (.slice (some ⟨b',0,none⟩) (len+new.length) cap')) w'→
       w'.os=w.os→w'.tape=w.tape→w'.output=w.output→w.heap.size≤w'.heap.size→(∀z,z<w.heap.size→z∉FP id→w'.heap[z]?=w.heap[z]?)→
       w'.heap[b']?=some (.cells cells' ob.e (0,0))→cells'.size=cap'*ob.sz→len+new.length≤cap'→cap'≤maxLen→cells'.toList.take ((ob.rows++new).length*ob.sz)=olds++news→
       RL Z G w ob.rows.flatten olds f→(∀u∈olds++news,u.oneCell'=true)→(∀z∈f,w'.heap[z]?=w.heap[z]?)→(b'::f).Nodup→(∀z∈f,z∈FP id)→(b'∈FP id∨w.heap.size≤b')→b' < w'.heap.size→
       ∃r v w' x H' Z' G' FP',(execOp a.eval o).run P w=.ok r w'∧(r=.value v∨(r=.skip∧v=undef))∧K x H'∧RV Z' G' w' x v []∧HInv Z' G' FP' H' w'∧GLe G G'∧Evo Z FP w Z' FP' w':=by
      intro w' b' cap' cells' olds f hrun hos htp hout hsize hkeep hh hcs hcap hmax htake holds h1 hfk hnd hfown hbown hblt
      have hZk:∀z,Z z→w'.heap[z]?=w.heap[z]?:=fun z hz=>hkeep z (hs.inv.zlt z hz) (fun hc=>hs.inv.zfp id z hc hz)
      have hgn:g.n=len:=by rw[hOB.n,hn]
      have hn' : (ob.rows++new).length=len+new.length:=by rw[List.length_append,hn]
      have hge:GLe G (G.set id (some ⟨some b',ob.e,ob.sz,len+new.length,cap'⟩)):=GLe.set hg (.inr (by rw[hgn];show len<len+new.length;omega))
      have hob' : OB Z (G.set id (some ⟨some b',ob.e,ob.sz,len+new.length,cap'⟩)) w' { ob with rows:=ob.rows++new } ⟨some b',ob.e,ob.sz,len+new.length,cap'⟩ (b'::f) :=
       zNO rfl rfl hn'.symm rfl hOB.len hnl' hh hcs (by rw[hn'];exact hcap) hmax htake holds hnews h1 hge hZk hfk
      have hturn:=hs.inv.turn hob hg (g':=⟨some b',ob.e,ob.sz,len+new.length,cap'⟩) (.inr (by rw[hgn];show len<len+new.length;omega)) hsize hkeep hob' hnd (fun z hz=>by
       have hz' : z∈FP id∨(w.heap.size≤z∧z<w'.heap.size):=by
        rcases List.mem_cons.1 hz with rfl | hz
        ·exact hbown.imp (fun h=>h) fun h=>⟨h,hblt⟩
        ·exact .inl (hfown z hz)
       rcases hz' with h | h
       ·exact ⟨hs.inv.zfp id z h,Nat.lt_of_lt_of_le (hs.inv.flt id z h) hsize,fun j hj hc=>hj (hs.inv.disj j id z hc h)⟩
       ·exact ⟨fun hc=>by have:=hs.inv.zlt z hc;omega,h.2,fun j hj hc=>by have:=hs.inv.flt j z hc;omega⟩)
      refine ⟨.value (.slice (some ⟨b',0,none⟩) (len+new.length) cap'),_,w',.hd id 0 (len+new.length),_,Z,_,_,hrun,.inl rfl,hK,?_,hturn,hge,zBw hos htp hout hsize hkeep (fun z hz=>by
       rcases List.mem_cons.1 hz with rfl | hz
       ·exact hbown.elim (fun h=>.inr ⟨_,h⟩) .inl
       ·exact .inr ⟨_,hfown z hz⟩)⟩
      simp only[RV]
      refine ⟨trivial,rfl,by simpa using hlt,fun g' hg'=>?_⟩
      simp[hlt] at hg';subst hg'
      refine ⟨by simp,fun _=>?_⟩
      unfold View
      exact ⟨⟨b',0,none⟩,by simp,fun _=>by simp⟩
     have allocd:∀(olds:List Value) (f:List Nat) (cap0:Nat),RL Z G w ob.rows.flatten olds f→olds.length=len*inf.size→(∀u∈olds,u.oneCell'=true)→(∀z∈f,z∈FP id)→f.Nodup→
       (Builtin.append_ #[t,t] o.type #[a.eval s,a.eval x]).run P w=.ok (.slice (some ⟨w.heap.size,0,none⟩) (len+new.length) (grownCap w (len+new.length) cap0 e)) (w.drew.alloc (.cells (olds.toArray++news.toArray++Builtin.zeroCells z.cells (grownCap w (len+new.length) cap0 e-(len+new.length))) e))→
       ∃r v w' x H' Z' G' FP',(execOp a.eval o).run P w=.ok r w'∧(r=.value v∨(r=.skip∧v=undef))∧K x H'∧RV Z' G' w' x v []∧HInv Z' G' FP' H' w'∧GLe G G'∧Evo Z FP w Z' FP' w':=by
      intro olds f cap0 holds hol ho1 hfown hfnd hrun
      have hge:=grownCap_ge w (len+new.length) cap0 e
      have hle:=grownCap_le_maxLen w (len+new.length) cap0 e (by simp only[maxLen];omega)
      have hn' : (ob.rows++new).length=len+new.length:=by rw[List.length_append,hn]
      refine fin _ _ _ _ olds f (hexec _ _ hrun) rfl rfl rfl (by simp) (fun z hz _=>heap_alloc_old w.drew _ hz) (by rw[hoe];exact heap_alloc_new w.drew _) ?_ hge hle ?_ holds ?_ (fun z hz=>heap_alloc_old w.drew _ (hs.inv.flt id z (hfown z hz))) ?_ hfown (.inr (Nat.le_refl _)) (by simp)
      ·simp only[Array.size_append,List.size_toArray,zRU,hzs,hol,hnll,hosz,←Nat.add_mul];congr 1;omega
      ·rw[hn',hosz]
       simp only[Array.toList_append]
       rw[List.take_left' (by simp[hol,hnll,Nat.add_mul])]
      ·intro u hu
       rcases List.mem_append.1 hu with hu | hu
       ·exact ho1 u hu
       ·exact hn1 u hu
      ·refine List.nodup_cons.2 ⟨fun hc=>?_,hfnd⟩
       have:=hs.inv.flt id _ (hfown _ hc)
       omega
     unfold View at hview
     split at hview
     ·rename_i hbn
      obtain ⟨hview,hv1,hv2⟩:=hview
      have hrows:ob.rows=[]:=by
       rcases hOB.at_ with ⟨_,e1,_⟩ | ⟨b,cells,f,e1,_⟩ | ⟨u3,hs3,obj3,f3,e1,e3,_⟩
       ·exact e1
       ·rw[hbn] at e1;cases e1
       ·have:=congrArg List.length e3;simp only[List.length_cons,List.length_nil] at this;omega
      have hl0:len=0:=by rw[hn,hrows];rfl
      subst hl0
      refine allocd [] [] 0 (by rw[hrows];simp[RL]) (by simp) (by simp) (by simp) (by simp) ?_
      have hrun:=run_append_nil (P:=P) w t o.type e inf z hs1 hinf hz ⟨b,q,none⟩ new.length c news hnll hcell' hpos (by omega) (by simpa using Nat.le_trans hb2 (by omega))
      rw[hview,hy,Nat.zero_add]
      simpa using hrun
     ·rename_i b0 hb0
      obtain ⟨ad,hys,hA⟩:=hview
      rw[hA (.inr rfl)] at hys
      simp only[Nat.zero_mul,Nat.sub_zero] at hys
      obtain ⟨b',cells,f,e1,e2,e3,e4,e5,e6,e7⟩:=hOB.cells_ hb0
      rw[hb0] at e1;cases e1
      obtain ⟨k1,k2,k3⟩:=(zCV e3 ob.rows 0 f (Nat.zero_le _)).1 e7
      simp only[List.drop_zero,Nat.zero_add] at k1 k2 k3
      rw[holen,←hn,hosz] at k1 k2 k3
      have hnd:=hs.inv.nodup id
      rw[e2] at hnd
      have hcs:cells.size=g.cap*inf.size:=by rw[e4,hosz]
      have hfin:∀z∈f,z∈FP id:=fun z hz=>by rw[e2];simp[hz]
      by_cases hroom:len+new.length≤g.cap
      ·have hmul:(len+new.length)*inf.size≤cells.size:=by rw[hcs];exact Nat.mul_le_mul_right _ hroom
       rw[Nat.add_mul] at hmul
       have hrun:=run_append_room (P:=P) w t o.type e inf hs1 hinf b0 len g.cap cells (by rw[←hoe];exact e3) ⟨b,q,none⟩ new.length c news hnll hcell' hn1 hroom (by rw[hnll];exact hmul)
       rw[←hys,←hy] at hrun
       have hx:=hexec _ _ hrun
       have hlc:(cells.toList.take (len*inf.size)++news++cells.toList.drop (len*inf.size+news.length)).length=cells.size:=by
        simp only[List.length_append,List.length_take,List.length_drop,Array.length_toList,hnll];omega
       have hn' : (ob.rows++new).length=len+new.length:=by rw[List.length_append,hn]
       refine fin _ b0 g.cap _ (cells.toList.take (len*inf.size)) f hx rfl rfl rfl (by simp) (fun z _ hz=>setRow_other w b0 z _ (fun e=>hz (by rw[e2,e];simp))) (setRow_heap w b0 cells _ ob.e (0,0) e3) ?_ hroom e6 ?_ k2 ?_ (fun z hz=>setRow_other w b0 z _ (fun e=>(List.nodup_cons.1 hnd).1 (e▸hz))) hnd hfin (.inl (by rw[e2];simp)) (by simpa using hs.inv.flt id b0 (by rw[e2];simp))
       ·simp only[List.size_toArray];rw[hlc,e4]
       ·rw[hn',hosz]
        simp only[]
        rw[List.take_left' (by simp only[List.length_append,List.length_take,Array.length_toList,hnll,Nat.add_mul];omega)]
       ·intro u hu
        rcases List.mem_append.1 hu with hu | hu
        ·exact k3 u hu
        ·exact hn1 u hu
      ·refine allocd (cells.toList.take (len*inf.size)) f g.cap k2 (by simp only[List.length_take,Array.length_toList];omega) k3 hfin (List.nodup_cons.1 hnd).2 ?_
       have hgrow:=run_append_grow (P:=P) w t o.type e inf z hs1 hinf hz ⟨b0,0,none⟩ len g.cap (cells.toList.take (len*inf.size)) (by simp only[List.length_take,Array.length_toList];omega) (fun j v hj=>by
         rw[zBX,cell_of_row w b0 _ cells ob.e (0,0) e3]
         rw[List.getElem?_take] at hj
         split at hj
         ·simpa using hj
         ·cases hj) ⟨b,q,none⟩ new.length c news hnll hcell' (by omega) (by omega) (growslice_fits (by omega) hb2)
       rw[hys,hy]
       exact hgrow
   ·exact h.elim
  ·exact h.elim
 ·exact h.elim
def zBW:List (List HV)→Option (List UInt8)
 | []=>some []
 | [.v (.int .u8 n)]::t=>(zBW t).map (UInt8.ofNat n.toNat::·)
 | _=>none
def zDg (b:UInt8):List HV:=[.v (.int .u8 (b.toNat:Int))]
def zSv (P:Program) (H:Heap) (src dst:TypeId) (x:HV) (K:HV→Prop):Prop :=
 match zL P src 3,zAQ H x with
 | some (_,e,te),some rows=>zAg P e=some .u8∧zH P dst 4=true∧(match zBW rows with
  | some l=>K (.v (str l))
  | none=>False)
 | _,_=>False
theorem zFM:∀(rows:List (List HV)) (l:List UInt8),zBW rows=some l→(∀r∈rows,r.length=1)∧tvs rows.flatten=true∧∀ys fp,RL Z G w rows.flatten ys fp→∃ns:List Int,ys=ns.map (Value.int .u8)∧l=ns.map fun n=>UInt8.ofNat n.toNat
 | [],l,h=>by
  simp only[zBW,Option.some.injEq] at h
  subst h
  refine ⟨by simp,rfl,fun ys fp hr=>⟨[],?_,rfl⟩⟩
  simp only[List.flatten_nil,RL] at hr
  simpa using hr.1
 | r::t,l,h=>by
  unfold zBW at h
  split at h
  ·cases ‹_::_=[]›
  ·rename_i n t' heq
   simp only[List.cons.injEq] at heq
   obtain ⟨rfl,rfl⟩:=heq
   cases hb:zBW t with
   | none=>simp[hb] at h
   | some l' =>
    simp[hb] at h
    subst h
    obtain ⟨h1,h2,h3⟩:=zFM t l' hb
    refine ⟨fun r hr=>?_,by simpa [tvs,tv] using h2,fun ys fp hr=>?_⟩
    ·rcases List.mem_cons.1 hr with rfl | hr
     ·rfl
     ·exact h1 r hr
    ·simp only[List.flatten_cons,List.cons_append,List.nil_append,RL] at hr
     obtain ⟨y,ys',f1,f2,rfl,rfl,hy,hrest⟩:=hr
     obtain ⟨ns,rfl,rfl⟩:=h3 ys' f2 hrest
     exact ⟨n::ns,by rw[RV_v hy];rfl,rfl⟩
  ·cases h
theorem zPi (ns:List Int):∀s:ByteArray,ns.foldl (fun r n=>r.push (UInt8.ofNat n.toNat)) s=⟨s.data++(ns.map fun n=>UInt8.ofNat n.toNat).toArray⟩:=by
 induction ns with
 | nil=>intro s;simp
 | cons n ns ih =>
  intro s
  simp only[List.foldl_cons,ih,List.map_cons]
  congr 1
  apply Array.ext'
  simp[ByteArray.push]
theorem zYC {o:Oper} {src dst:TypeId} {x:Operand} (ho:o.op=.convert src dst x) (hok:zG N o=true) (h:zSv P H src dst (hev T x) (fun v=>K v H)):HQ P N o T H K :=
 fun B Z G FP ds a w hs=>by
  have hx:=hs.hev x (zF hok (by simp[ho,Op.operands]))
  unfold zSv at h
  split at h
  ·rename_i x0 e te rows he hsrc
   obtain ⟨h1,h2,h⟩:=h
   split at h
   ·rename_i l hl
    obtain ⟨b1,b2,b3⟩:=zFM (Z:=Z) (G:=G) (w:=w) rows l hl
    obtain ⟨hs1,hs2⟩:=zAT he
    obtain ⟨ys,hys,_,hy⟩:=zIE hs.inv hsrc b1 b2 hx
    obtain ⟨ns,rfl,rfl⟩:=b3 ys [] hys
    have hlen:=zS _ _ _ hys
    rw[zAq _ b1,Nat.mul_one,List.length_map] at hlen
    have hu:=zAj h1
    have hd:=zAF h2
    refine ⟨str (ns.map fun n=>UInt8.ofNat n.toNat),_,?_,h,by simp[RV]⟩
    have hconv:∀a' l' c',a.eval x=.slice a' l' c'→(Conv.bytesToString (.slice a' l' c')).run P w=.ok (str (ns.map fun n=>UInt8.ofNat n.toNat)) w→(execOp a.eval o).run P w=.ok (.value (str (ns.map fun n=>UInt8.ofNat n.toNat))) w:=by
     intro a' l' c' hy' hr
     simp only[execOp,ho,hy',Sem.run_bind,run_convert_bytes_string w src dst e a' l' c' hs1 hu hd,hr,Result.andThen_ok,Sem.run_pure]
    have hempty:rows=[]→ns=[]:=fun e=>by subst e;simpa using hlen
    rcases hy with ⟨hy,hr⟩ | ⟨hr,a',c',hy⟩ | ⟨b,q,c,hy,hc⟩
    ·refine hconv _ _ _ hy ?_
     rw[hempty hr]
     simp[Conv.bytesToString,str];rfl
    ·refine hconv _ _ _ hy ?_
     rw[hempty hr]
     cases a' with
     | none=>simp[Conv.bytesToString,str];rfl
     | some ad =>
      rw[run_bytesToString w ad 0 c' [] (by simp[loadCells,loadCellsFrom])]
      rfl
    ·refine hconv _ _ _ hy ?_
     rw[run_bytesToString w ⟨b,q,none⟩ rows.length c ns ?_,zPi]
     ·simp[str]
     ·have:=run_loadCells_list (P:=P) w ⟨b,q,none⟩ (ns.map (Value.int .u8)) (fun j u hj=>by rw[zBX];exact hc j u hj)
      rw[List.length_map,hlen] at this
      exact this
   ·exact h.elim
  ·exact h.elim
theorem zU8 {b sz:Nat}:∀(rows:List (List HV)) (k n:Nat) (fp:List Nat),RR Z G w rows b k fp→∃f,RR Z G w (rows.take n) b k f∧f.Sublist fp
 | rows,k,0,fp,_=>⟨[],by simp[RR],List.nil_sublist _⟩
 | [],k,n+1,fp,_=>⟨[],by simp[RR],List.nil_sublist _⟩
 | r::t,k,n+1,fp,h=>by
  simp only[RR] at h
  obtain ⟨f1,f2,rfl,h1,h2⟩:=h
  obtain ⟨f,h3,h4⟩:=zU8 (sz:=sz) t (k+r.length) n f2 h2
  refine ⟨f1++f,?_,List.Sublist.append (List.Sublist.refl _) h4⟩
  simp only[List.take_succ_cons,RR]
  exact ⟨f1,f,rfl,h1,h3⟩
def zZd (P:Program) (T:Nat→HV) (H:Heap) (t:TypeId) (x:HV) (hi:Operand) (K:KT):Prop :=
 match x with
 | .hd id 0 len =>
  match zL P t 3,zGc T len (some hi) with
  | some (_,_,e),some h =>
   match H[id]? with
   | some (some ob)=>len=ob.rows.length∧ob.sz=e.size∧0≤h∧h≤(len:Int)∧K (.hd H.length 0 h.toNat) (H.set id none++[some { ob with rows:=ob.rows.take h.toNat }])
   | _=>False
  | _,_=>False
 | _=>False
theorem z1c {o:Oper} {t:TypeId} {x hi:Operand} (ho:o.op=.slice t x none (some hi) none) (hok:zG N o=true) (h:zZd P T H t (hev T x) hi K):HR P N o T H K:=by
 intro B Z G FP ds a w hs
 have hx:=hs.hev x (zF hok (by simp[ho,Op.operands]))
 have hhok:∀y,some hi=some y→zBJ N y=true:=fun y hy=>zF hok (by cases hy;simp[ho,Op.operands])
 unfold zZd at h
 split at h
 ·rename_i id len ex
  rw[ex] at hx
  split at h
  ·rename_i x0 e0 te hh he hhh
   split at h
   ·rename_i ob hob
    obtain ⟨hn,hsz,h0,h1,hK⟩:=h
    obtain ⟨hs1,hs2⟩:=zAT he
    obtain ⟨g,hg,hOB,hview⟩:=zEK hs.inv hob (by omega) hx
    have hlt:=hs.inv.lt hob
    have hltH:id<H.length:=by rw[←hs.inv.len];exact hlt
    have i1:=hs.inv.kill id
    have hlen1:(H.set id none).length=H.length:=by simp
    have hfp:∀b,b∈FP id→¬Z b∧b<w.heap.size∧∀j,b∉(if j=id then [] else FP j):=fun b hb =>
     ⟨hs.inv.zfp id b hb,hs.inv.flt id b hb,fun j hj=>by
      by_cases e:j=id
      ·simp[e] at hj
      ·simp only[if_neg e] at hj;exact e (hs.inv.disj j id b hj hb)⟩
    have htl:(ob.rows.take hh.toNat).length=hh.toNat:=by simp;omega
    have fin:∀(v:Value) (gn:OG) (fn:List Nat),(execOp a.eval o).run P w=.ok (.value v) w→v.oneCell'=true→gn.n=hh.toNat→View gn 0 hh.toNat v→
      OB Z (G.set id none++[some gn]) w { ob with rows:=ob.rows.take hh.toNat } gn fn→fn.Nodup→(∀b∈fn,b∈FP id)→
      ∃r v w' x H' Z' G' FP',(execOp a.eval o).run P w=.ok r w'∧(r=.value v∨(r=.skip∧v=undef))∧K x H'∧RV Z' G' w' x v []∧HInv Z' G' FP' H' w'∧GLe G G'∧Evo Z FP w Z' FP' w':=by
     intro v gn fn hrun hv1 hgn hvw hob' hnd hsub
     have i2:=i1.new (w':=w) (o:={ ob with rows:=ob.rows.take hh.toNat }) (g:=gn) (fp:=fn) (Nat.le_refl _) (fun _ _=>rfl) hob' hnd (fun b hb=>hfp b (hsub b hb))
     refine ⟨.value v,v,w,_,_,Z,_,_,hrun,.inl rfl,hK,?_,i2,(GLe.kill id).trans (GLe.more _),?_⟩
     ·simp only[RV]
      refine ⟨trivial,hv1,by simp[←hs.inv.len],fun g' hg'=>?_⟩
      rw[←hs.inv.len,List.getElem?_append_right (by simp)] at hg'
      simp at hg';subst hg'
      exact ⟨by omega,fun _=>hvw⟩
     ·refine ⟨rfl,rfl,rfl,Nat.le_refl _,fun _ _ _=>rfl,fun _ h=>h,fun _ h=>.inl h,fun j b hb=>?_⟩
      split at hb
      ·exact .inr ⟨id,hsub b hb⟩
      ·split at hb
       ·simp at hb
       ·exact .inr ⟨j,hb⟩
    unfold View at hview
    split at hview
    ·rename_i hbn
     obtain ⟨hview,hv1,hv2⟩:=hview
     have hrows:ob.rows=[]:=by
      rcases hOB.at_ with ⟨_,e1,_⟩ | ⟨b,cells,f,e1,_⟩ | ⟨u3,hs3,obj3,f3,e1,e3,_⟩
      ·exact e1
      ·rw[hbn] at e1;cases e1
      ·have:=congrArg List.length e3;simp only[List.length_cons,List.length_nil] at this;omega
     have hl0:len=0:=by rw[hn,hrows];rfl
     have hh0:hh=0:=by omega
     subst hh0
     have hbd:=zBP (P:=P) (isS:=true) (len:=len) (cap:=0) hs (lo:=none) (hi:=some hi) rfl hhh (by simp) hhok (by simp) (by simp) (by simp)
     refine fin (.slice none 0 0) ⟨none,ob.e,ob.sz,0,0⟩ [] ?_ rfl rfl (by unfold View;exact ⟨rfl,rfl,by simp⟩) ⟨rfl,rfl,by simp,by simp,.inl ⟨rfl,by simp,rfl⟩⟩ (by simp) (by simp)
     simp only[execOp,ho,hview,Instr.sliceAt,Instr.slice,Option.map_none,Sem.run_bind,run_underlying hs1,Result.andThen_ok,zT hs2,Sem.run_pure]
     rw[hl0] at hbd
     simp only[Option.map_none] at hbd
     rw[hbd]
     simp[zT hs2]
    ·rename_i b hb
     obtain ⟨ad,hy,hA⟩:=hview
     obtain ⟨b',cells,f,e1,e2,e3,e4,e5,e6,e7⟩:=hOB.cells_ hb
     rw[hb] at e1;cases e1
     obtain ⟨f',hf1,hf2⟩:=zU8 (sz:=ob.sz) ob.rows 0 hh.toNat f e7
     have hnd:=hs.inv.nodup id
     rw[e2] at hnd
     have hbd:=zBP (P:=P) (isS:=true) (len:=len) (cap:=g.cap) hs (lo:=none) (hi:=some hi) rfl hhh (by simp) hhok (by simp) h0 (by omega)
     have had:ad=⟨b,0,none⟩:=by rw[hA (.inr rfl)];simp
     refine fin (.slice (some ⟨b,0,none⟩) hh.toNat g.cap) ⟨some b,ob.e,ob.sz,hh.toNat,g.cap⟩ (b::f') ?_ rfl rfl (by unfold View;exact ⟨⟨b,0,none⟩,by simp,fun _=>by simp⟩)
      ⟨rfl,rfl,by simp;omega,fun r hr=>hOB.len r (List.mem_of_mem_take hr),.inr (.inl ⟨b,cells,f',rfl,rfl,e3,e4,by simp;omega,e6,?_⟩)⟩ (hnd.sublist (List.Sublist.cons_cons b hf2)) (fun z hz=>by rw[e2];exact (List.Sublist.cons_cons b hf2).subset hz)
     ·simp only[execOp,ho,hy,Instr.sliceAt,Instr.slice,Option.map_none,Sem.run_bind,run_underlying hs1,Result.andThen_ok,zT hs2,Sem.run_pure,Nat.sub_zero]
      simp only[Option.map_none] at hbd
      rw[hbd]
      simp only[Result.andThen_ok,zT hs2,Sem.run_pure,Sem.run_bind,had]
      by_cases hc:g.cap=0 <;> simp[hc,zBX]
     ·exact RR.keep (fun _ _=>rfl) (fun _ h=>h) ((GLe.kill id).trans (GLe.more _)) _ _ _ _ rfl (fun _ _=>rfl) hf1
   ·exact h.elim
  ·exact h.elim
 ·exact h.elim
end
end Go.Proofs.YtoknohandclcbaaGreat
namespace Go.Proofs.YtoknohandclcbaaGreat
open Go.RowKit
section
variable {P:Program} {N:Nat} {T:Nat→HV} {H:Heap} {K:KT} {Z:Nat→Prop} {G:List (Option OG)} {FP:Nat→List Nat} {w:World}
theorem zJa (w:World) (t t' ty e:TypeId) (i:TypeInfo) (hu:P.underlying t=some (.slice e)) (hi:P.info? e=some i) (b n cap c:Nat) (cur:Array Value) (hb:w.heap[b]?=some (.cells cur e (0,0))) (a:Addr) (cs:List Value) (hl:cs.length=n*i.size)
  (hsrc:∀j v,cs[j]?=some v→w.cell? (a.add j)=some v) (hfit:cs.length≤cur.size) (h1:∀v∈cs,v.oneCell'=true) :
  (Builtin.copy_ #[t,t'] ty #[.slice (some ⟨b,0,none⟩) n cap,.slice (some a) n c]).run P w=.ok (goInt n) (w.setRow b (cur.toList.take 0++cs++cur.toList.drop (0+cs.length)).toArray):=by
 have hfc:=run_firstCells_some (P:=P) w i.size n a n c cs hl hsrc
 have hst:=run_storeCells_at P b 0 e cs 0 cur w hb (by simpa using hfit) h1
 simp only[Nat.add_zero] at hst
 have hm:Nat.min n n=n:=Nat.min_self n
 simp at hst
 simp[Builtin.copy_,run_underlying hu,Builtin.lenOf,sizeOf,typeInfo,hi,hm,hfc,hst]
theorem zFU (w:World) (t t' ty e:TypeId) (i:TypeInfo) (hu:P.underlying t=some (.slice e)) (hi:P.info? e=some i) (d a:Option Addr) (cap c:Nat) :
  (Builtin.copy_ #[t,t'] ty #[.slice d 0 cap,.slice a 0 c]).run P w=.ok (goInt 0) w:=by
 have hl:∀(x:Addr),(loadCells x 0).run P w=.ok #[] w:=fun x=>by simp[loadCells,loadCellsFrom]
 have hm:Nat.min 0 0=0:=rfl
 cases d <;> cases a <;> simp[Builtin.copy_,run_underlying hu,Builtin.lenOf,Builtin.firstCells,sizeOf,typeInfo,hi,hm,storeCells,hl]
def zZf (P:Program) (H:Heap) (t:TypeId) (d x:HV) (K:KT):Prop :=
 match d with
 | .hd id 0 len =>
  match zL P t 3,zAQ H x,H[id]? with
  | some (_,e,te),some new,some (some ob)=>te.size≠0∧tvs new.flatten=true∧tvs ob.rows.flatten=true∧(∀r∈new,r.length=te.size)∧len=ob.rows.length∧new.length=len∧ob.e=e∧ob.sz=te.size∧K (.v (.int .i64 len)) (H.set id (some { ob with rows:=new }))
  | _,_,_=>False
 | _=>False
theorem z1e {o:Oper} {t t' : TypeId} {s x:Operand} (ho:o.op=.call { callee:=.builtin .copy,args:=#[s,x],argTypes:=#[t,t'] }) (hok:zG N o=true) (h:zZf P H t (hev T s) (hev T x) K):HR P N o T H K:=by
 intro B Z G FP ds a w hs
 have hvs:=hs.hev s (zF hok (by simp[ho,Op.operands,Call.operands]))
 have hvx:=hs.hev x (zF hok (by simp[ho,Op.operands,Call.operands]))
 have hexec:∀v w',(Builtin.copy_ #[t,t'] o.type #[a.eval s,a.eval x]).run P w=.ok v w'→(execOp a.eval o).run P w=.ok (.value v) w':=by
  intro v w' hr
  simp only[execOp,ho,resolve,invoke,builtin,Sem.run_bind,Sem.run_pure,Result.andThen_ok,List.map_toArray,List.map_cons,List.map_nil,hr]
 unfold zZf at h
 split at h
 ·rename_i id len es
  rw[es] at hvs
  split at h
  ·rename_i tx e te new ob helem hsrc hob
   obtain ⟨hsz0,htv,htvo,hnl,hn,hnew,hoe,hosz,hK⟩:=h
   obtain ⟨hs1,hs2⟩:=zAT helem
   obtain ⟨td,inf,htd,hinf,rfl⟩:=zAe hs2
   rw[TI.of_size] at hnl hsz0 hosz
   obtain ⟨news,hnews,hn1,hsy⟩:=zIE hs.inv hsrc hnl htv hvx
   have hnfl:=zAq _ hnl
   have hnll:=zS _ _ _ hnews
   rw[hnfl] at hnll
   obtain ⟨g,hg,hOB,hview⟩:=zEK hs.inv hob (by omega) hvs
   have hlt:=hs.inv.lt hob
   by_cases hl0:len=0
   ·subst hl0
    obtain rfl:new=[]:=List.eq_nil_of_length_eq_zero hnew
    have hrows:ob.rows=[]:=List.eq_nil_of_length_eq_zero hn.symm
    have hset:H.set id (some { ob with rows:=[] })=H:=by rw[←hrows];exact zAI hob
    rw[hset] at hK
    obtain ⟨a',c',hy⟩:∃a' c',a.eval x=.slice a' 0 c':=by
     rcases hsy with ⟨hy,_⟩ | ⟨_,a',c',hy⟩ | ⟨b,q,c,hy,_⟩
     ·exact ⟨none,0,hy⟩
     ·exact ⟨a',c',hy⟩
     ·exact ⟨_,c,hy⟩
    obtain ⟨a0,c0,hys⟩:∃a0 c0,a.eval s=.slice a0 0 c0:=by
     unfold View at hview
     split at hview
     ·exact ⟨none,0,hview.1⟩
     ·obtain ⟨ad,hy,_⟩:=hview
      exact ⟨_,_,hy⟩
    refine ⟨.value (goInt 0),_,w,.v (.int .i64 0),H,Z,G,FP,?_,.inl rfl,hK,by simp[RV,goInt],hs.inv,GLe.refl _,Evo.refl _ _ _⟩
    exact hexec _ _ (by rw[hys,hy];exact zFU w t t' o.type e inf hs1 hinf a0 a' c0 c')
   ·have hnew0:new≠[]:=fun e=>by rw[e] at hnew;exact hl0 hnew.symm
    obtain ⟨b,q,c,hy,hcell⟩:∃b q c,a.eval x=.slice (some ⟨b,q,none⟩) new.length c∧∀(j:Nat) u,news[j]?=some u→w.cell? ⟨b,q+j,none⟩=some u:=by
     rcases hsy with ⟨_,hc⟩ | ⟨hc,_⟩ | h
     ·exact absurd hc hnew0
     ·exact absurd hc hnew0
     ·exact h
    have hcell' : ∀(j:Nat) u,news[j]?=some u→w.cell? ((⟨b,q,none⟩:Addr).add j)=some u:=fun j u hj=>by rw[zBX];exact hcell j u hj
    unfold View at hview
    split at hview
    ·exact absurd hview.2.2 hl0
    ·rename_i b0 hb0
     obtain ⟨ad,hys,hA⟩:=hview
     rw[hA (.inr rfl)] at hys
     simp only[Nat.zero_mul,Nat.sub_zero] at hys
     obtain ⟨b',cells,f,e1,e2,e3,e4,e5,e6,e7⟩:=hOB.cells_ hb0
     rw[hb0] at e1;cases e1
     have holen:=zAq _ hOB.len
     obtain ⟨k1,k2,k3⟩:=(zCV e3 ob.rows 0 f (Nat.zero_le _)).1 e7
     obtain rfl:f=[]:=zDX _ _ _ htvo k2
     have hcs:cells.size=g.cap*inf.size:=by rw[e4,hosz]
     have hcap:len≤g.cap:=by omega
     have hnlen:news.length=len*inf.size:=by rw[hnll,hnew]
     have hfit:news.length≤cells.size:=by rw[hcs,hnlen];exact Nat.mul_le_mul_right _ hcap
     have hrun:=zJa (P:=P) w t t' o.type e inf hs1 hinf b0 len g.cap c cells (by rw[←hoe];exact e3) ⟨b,q,none⟩ news hnlen hcell' hfit hn1
     rw[←hys,←hnew,←hy] at hrun
     have hx:=hexec _ _ hrun
     have hb0FP:b0∈FP id:=by rw[e2];simp
     have hnl' : ∀r∈new,r.length=ob.sz:=by rw[hosz];exact hnl
     have hOB' : OB Z (G.set id (some g)) (w.setRow b0 (cells.toList.take 0++news++cells.toList.drop (0+news.length)).toArray) { ob with rows:=new } g [b0]:=by
      have hsame:G.set id (some g)=G:=zAI hg
      rw[hsame]
      have:=zNO (Z:=Z) (G':=G) (w':=w.setRow b0 (cells.toList.take 0++news++cells.toList.drop (0+news.length)).toArray) (w:=w) (ob:={ ob with rows:=[] }) (g':=g) (new:=new) (olds:=[]) (news:=news) (f:=[]) (b:=b0) (cells:=(cells.toList.take 0++news++cells.toList.drop (0+news.length)).toArray) (G:=G)
       hOB.e hOB.sz (by simp[hOB.n,←hn,hnew]) hb0 (by simp) hnl' (setRow_heap w b0 cells _ ob.e (0,0) e3) (by simp only[List.size_toArray,List.length_append,List.length_take,List.length_drop,Array.length_toList];omega) (by simp[hnew,hcap]) e6
       (by
        simp only[List.nil_append,List.take_zero]
        rw[List.take_left' (by rw[hnlen,hnew,hosz])])
       (by simp[RL]) hnews (by simpa using hn1) (GLe.refl _) (fun z hz=>setRow_other w b0 z _ (fun e=>hs.inv.zfp id z (e▸hb0FP) hz)) (by simp)
      simpa using this
     have hkeep:∀z,z<w.heap.size→z∉FP id→(w.setRow b0 (cells.toList.take 0++news++cells.toList.drop (0+news.length)).toArray).heap[z]?=w.heap[z]?:=fun z _ hz=>setRow_other w b0 z _ (fun e=>hz (e▸hb0FP))
     have hturn:=hs.inv.turn hob hg (g':=g) (.inl rfl) (by simp) hkeep hOB' (by simp) (fun z hz=>by
      obtain rfl:=List.mem_singleton.1 hz
      exact ⟨hs.inv.zfp id z hb0FP,by simpa using hs.inv.flt id z hb0FP,fun j hj hc=>hj (hs.inv.disj j id z hc hb0FP)⟩)
     refine ⟨.value (goInt new.length),_,_,.v (.int .i64 len),_,Z,_,_,hx,.inl rfl,hK,by simp[RV,goInt,hnew],hturn,GLe.set hg (.inl rfl),zBw rfl rfl rfl (by simp) hkeep (fun z hz=>by
      obtain rfl:=List.mem_singleton.1 hz
      exact .inr ⟨_,hb0FP⟩)⟩
  ·exact h.elim
 ·exact h.elim
theorem zIL (w:World) (t ty e:TypeId) (x:TI) (z:Value) (hu:P.underlying t=some (.slice e)) (hx:ti P e=some x) (hz:x.zero=some z) (b o n cap:Nat) (cur:Array Value) (hb:w.heap[b]?=some (.cells cur e (0,0)))
  (hfit:o+n*z.cells.size≤cur.size) (hn:n≠0) (h1:∀v∈(List.replicate n z.cells.toList).flatten,v.oneCell'=true) :
  (Builtin.clear_ #[t] ty #[.slice (some ⟨b,o,none⟩) n cap]).run P w=.ok (.tuple #[]) (w.setRow b (cur.toList.take o++(List.replicate n z.cells.toList).flatten++cur.toList.drop (o+(List.replicate n z.cells.toList).flatten.length)).toArray):=by
 have hl:(List.replicate n z.cells.toList).flatten.length=n*z.cells.size:=by simp
 have hst:=run_storeCells_at P b o e (List.replicate n z.cells.toList).flatten 0 cur w hb (by rw[hl];simpa using hfit) h1
 simp only[Nat.add_zero] at hst
 have hzc:(Builtin.zeroCells z.cells n).toList=(List.replicate n z.cells.toList).flatten:=zHa z.cells n
 unfold Builtin.clear_
 cases n with
 | zero=>exact absurd rfl hn
 | succ n =>
  simp[run_underlying hu,zAi hx hz,hzc,hst]
theorem zE8 (w:World) (t ty e:TypeId) (hu:P.underlying t=some (.slice e)) (a:Option Addr) (cap:Nat) :
  (Builtin.clear_ #[t] ty #[.slice a 0 cap]).run P w=.ok (.tuple #[]) w:=by
 cases a <;> simp[Builtin.clear_,run_underlying hu]
def zSw (P:Program) (H:Heap) (t:TypeId) (d:HV) (K:KT):Prop :=
 match d with
 | .hd id off len =>
  match zL P t 3,H[id]? with
  | some (_,e,te),some (some ob) =>
   match zA te with
   | some cs=>te.size≠0∧tvs ob.rows.flatten=true∧off+len=ob.rows.length∧ob.e=e∧ob.sz=te.size∧K (.tu []) (H.set id (some { ob with rows:=ob.rows.take off++List.replicate len cs }))
   | none=>False
  | _,_=>False
 | _=>False
theorem zYD {o:Oper} {t:TypeId} {s:Operand} (ho:o.op=.call { callee:=.builtin .clear,args:=#[s],argTypes:=#[t] }) (hok:zG N o=true) (h:zSw P H t (hev T s) K):HR P N o T H K:=by
 intro B Z G FP ds a w hs
 have hvs:=hs.hev s (zF hok (by simp[ho,Op.operands,Call.operands]))
 have hexec:∀v w',(Builtin.clear_ #[t] o.type #[a.eval s]).run P w=.ok v w'→(execOp a.eval o).run P w=.ok (.value v) w':=by
  intro v w' hr
  simp only[execOp,ho,resolve,invoke,builtin,Sem.run_bind,Sem.run_pure,Result.andThen_ok,List.map_toArray,List.map_cons,List.map_nil,hr]
 unfold zSw at h
 split at h
 ·rename_i id off len es
  rw[es] at hvs
  split at h
  ·rename_i tx e te ob helem hob
   split at h
   ·rename_i cs hcs
    obtain ⟨hsz0,htvo,hn,hoe,hosz,hK⟩:=h
    obtain ⟨hs1,hs2⟩:=zAT helem
    obtain ⟨z,hz,rfl,hz1,hzs⟩:=zAs hcs
    obtain ⟨g,hg,hOB,hview⟩:=zEK hs.inv hob hn hvs
    have hlt:=hs.inv.lt hob
    by_cases hl0:len=0
    ·subst hl0
     have hset:H.set id (some { ob with rows:=ob.rows.take off++List.replicate 0 (z.cells.toList.map .v) })=H:=by
      have:ob.rows.take off++List.replicate 0 (z.cells.toList.map HV.v)=ob.rows:=by rw[List.replicate_zero,List.append_nil,List.take_of_length_le (by omega)]
      rw[this];exact zAI hob
     rw[hset] at hK
     obtain ⟨a0,c0,hys⟩:∃a0 c0,a.eval s=.slice a0 0 c0:=by
      unfold View at hview
      split at hview
      ·exact ⟨none,0,hview.1⟩
      ·obtain ⟨ad,hy,_⟩:=hview
       exact ⟨_,_,hy⟩
     refine ⟨.value (.tuple #[]),_,w,.tu [],H,Z,G,FP,?_,.inl rfl,hK,by simp[RV,RL],hs.inv,GLe.refl _,Evo.refl _ _ _⟩
     exact hexec _ _ (by rw[hys];exact zE8 w t o.type e hs1 a0 c0)
    ·unfold View at hview
     split at hview
     ·exact absurd hview.2.2 hl0
     ·rename_i b0 hb0
      obtain ⟨ad,hys,hA⟩:=hview
      rw[hA (.inl hl0)] at hys
      obtain ⟨b',cells,f,e1,e2,e3,e4,e5,e6,e7⟩:=hOB.cells_ hb0
      rw[hb0] at e1;cases e1
      have holen:=zAq _ hOB.len
      obtain ⟨k1,k2,k3⟩:=(zCV e3 ob.rows 0 f (Nat.zero_le _)).1 e7
      obtain rfl:f=[]:=zDX _ _ _ htvo k2
      have hgs:g.sz=ob.sz:=hOB.sz
      let news:List Value:=(List.replicate len z.cells.toList).flatten
      have hnl:news.length=len*ob.sz:=by simp[news,hzs,hosz]
      have hoff:off*ob.sz+len*ob.sz≤cells.size:=by
       rw[←Nat.add_mul,hn,e4];exact Nat.mul_le_mul_right _ e5
      have h1:∀v∈news,v.oneCell'=true:=by
       intro v hv
       obtain ⟨l',hl',hy'⟩:=List.mem_flatten.1 hv
       rw[List.eq_of_mem_replicate hl'] at hy'
       exact hz1 v hy'
      have hrun:=zIL (P:=P) w t o.type e te z hs1 hs2 hz b0 (off*g.sz) len (g.cap-off) cells (by rw[←hoe];exact e3) (by rw[hgs,hzs,←hosz];exact hoff) hl0 h1
      rw[←hys] at hrun
      have hx:=hexec _ _ hrun
      rw[hgs] at hx
      have hb0FP:b0∈FP id:=by rw[e2];simp
      have hsame:G.set id (some g)=G:=zAI hg
      obtain ⟨f1,f2,hf,hL1,hL2⟩:=zAr _ _ _ (off*ob.sz) k2
      obtain ⟨rfl,rfl⟩:f1=[]∧f2=[]:=by
       have:=congrArg List.length hf
       simp at this
       exact ⟨List.eq_nil_of_length_eq_zero (by omega),List.eq_nil_of_length_eq_zero (by omega)⟩
      rw[zG0 _ _ hOB.len,List.drop_zero,List.take_take,Nat.min_eq_left (by rw[holen];exact Nat.mul_le_mul_right _ (by omega))] at hL1
      have htl:(ob.rows.take off).length=off:=by simp;omega
      have hOB' : OB Z (G.set id (some g)) (w.setRow b0 (cells.toList.take (off*ob.sz)++news++cells.toList.drop (off*ob.sz+news.length)).toArray) { ob with rows:=ob.rows.take off++List.replicate len (z.cells.toList.map .v) } g [b0]:=by
       rw[hsame]
       have:=zNO (Z:=Z) (G':=G) (w':=w.setRow b0 (cells.toList.take (off*ob.sz)++news++cells.toList.drop (off*ob.sz+news.length)).toArray) (w:=w) (ob:={ ob with rows:=ob.rows.take off }) (g':=g) (new:=List.replicate len (z.cells.toList.map .v)) (olds:=cells.toList.take (off*ob.sz)) (news:=news) (f:=[]) (b:=b0) (cells:=(cells.toList.take (off*ob.sz)++news++cells.toList.drop (off*ob.sz+news.length)).toArray) (G:=G)
        hOB.e hOB.sz (by simp only[List.length_append,htl,List.length_replicate,hn];exact hOB.n) hb0 (fun r hr=>hOB.len r (List.mem_of_mem_take hr)) (fun r hr=>by rw[List.eq_of_mem_replicate hr];simp[hzs,hosz]) (setRow_heap w b0 cells _ ob.e (0,0) e3) (by simp only[List.size_toArray,List.length_append,List.length_take,List.length_drop,Array.length_toList,hnl];omega) (by simp only[List.length_append,htl,List.length_replicate,hn];exact e5) e6
        (by
         simp only[List.length_append,htl,List.length_replicate]
         rw[List.take_left' (by simp only[List.length_append,List.length_take,Array.length_toList,hnl,Nat.add_mul];omega)])
        hL1 (zUc _ _ (by rw[List.map_flatten,List.map_replicate]))
        (fun u hu=>by
         rcases List.mem_append.1 hu with hu | hu
         ·exact k3 u (by
           rw[List.drop_zero,holen]
           exact List.mem_of_mem_take (i:=off*ob.sz) (by rw[List.take_take,Nat.min_eq_left (Nat.mul_le_mul_right _ (by omega))];exact hu))
         ·exact h1 u hu)
        (GLe.refl _) (fun z hz=>setRow_other w b0 z _ (fun e=>hs.inv.zfp id z (e▸hb0FP) hz)) (by simp)
       simpa using this
      have hkeep:∀z,z<w.heap.size→z∉FP id→(w.setRow b0 (cells.toList.take (off*ob.sz)++news++cells.toList.drop (off*ob.sz+news.length)).toArray).heap[z]?=w.heap[z]?:=fun z _ hz=>setRow_other w b0 z _ (fun e=>hz (e▸hb0FP))
      have hturn:=hs.inv.turn hob hg (g':=g) (.inl rfl) (by simp) hkeep hOB' (by simp) (fun z hz=>by
       obtain rfl:=List.mem_singleton.1 hz
       exact ⟨hs.inv.zfp id z hb0FP,by simpa using hs.inv.flt id z hb0FP,fun j hj hc=>hj (hs.inv.disj j id z hc hb0FP)⟩)
      refine ⟨.value (.tuple #[]),_,_,.tu [],_,Z,_,_,hx,.inl rfl,hK,by simp[RV,RL],hturn,GLe.set hg (.inl rfl),zBw rfl rfl rfl (by simp) hkeep (fun z hz=>by
       obtain rfl:=List.mem_singleton.1 hz
       exact .inr ⟨_,hb0FP⟩)⟩
   ·exact h.elim
  ·exact h.elim
 ·exact h.elim
end
end Go.Proofs.YtoknohandclcbaaGreat
namespace Go.Proofs.YtoknohandclcbaaGreat
open Go.RowKit
def zAk (es:Array MapEntry) (c:Nat):HObj:=⟨0,1,[[.ob (.map es c)]]⟩
def zCk (ob:HObj):Option (Array MapEntry×Nat) :=
 match ob with
 | ⟨0,1,[[.ob (.map es c)]]⟩=>some (es,c)
 | _=>none
theorem zSW (es:Array MapEntry) (c:Nat):zCk (zAk es c)=some (es,c):=rfl
theorem zDC {ob:HObj} {es:Array MapEntry} {c:Nat} (h:zCk ob=some (es,c)):ob=zAk es c:=by
 unfold zCk at h
 split at h
 ·cases h;rfl
 ·cases h
def zBh:List Value→Option (List Int)
 | []=>some []
 | .int .i64 n::t=>(zBh t).map (n::·)
 | _=>none
def keq (a b:Value):Option Bool :=
 match a,b with
 | .int .i64 x,.int .i64 y=>some (decide (x=y))
 | .string x,.string y=>some (decide (bl x=bl y))
 | .agg x,.agg y=>(zBh x.toList).bind fun x=>(zBh y.toList).bind fun y=>if x.length=y.length then some (decide (x=y)) else none
 | _,_=>none
def zLF (P:Program) (t:TypeId):Option Nat :=
 match P.underlying t with
 | some (.array n e)=>if zAg P e=some .i64∧zBN P t=some (List.replicate n 8)∧(ti P e).map (·.size)=some 1 then some n else none
 | _=>none
def zCL (P:Program) (t:TypeId) (k:Value):Prop :=
 match k with
 | .int .i64 _=>zAg P t=some .i64
 | .string _=>zH P t 4=true
 | .agg x=>zLF P t=some x.size∧(zBh x.toList).isSome=true
 | _=>False
def zCO (k:Value):List MapEntry→Nat→Option (Option (Nat×Value))
 | [],_=>some none
 | e::es,i=>(keq k e.key).bind fun r=>if r=true then some (some (i,e.val)) else zCO k es (i+1)
def valOf:HV→Option Value
 | .v x=>some x
 | .ag cs=>(vals1 cs).map fun l=>.agg l.toArray
 | _=>none
where vals1:List HV→Option (List Value)
 | []=>some []
 | .v x::t=>(vals1 t).map (x::·)
 | _=>none
section
variable {P:Program} {N:Nat} {T:Nat→HV} {H:Heap} {K:KT} {Z:Nat→Prop} {G:List (Option OG)} {FP:Nat→List Nat} {w:World}
theorem zHQ:∀(cs:List HV) (l:List Value) (ys:List Value),valOf.vals1 cs=some l→RL Z G w cs ys []→ys=l
 | [],l,ys,h,hr=>by
  simp only[valOf.vals1,Option.some.injEq] at h
  simp only[RL] at hr
  rw[hr.1,h]
 | .v x::t,l,ys,h,hr=>by
  simp only[valOf.vals1] at h
  cases ht:valOf.vals1 t with
  | none=>rw[ht] at h;cases h
  | some l' =>
   rw[ht] at h
   obtain rfl:=Option.some.inj h
   simp only[RL] at hr
   obtain ⟨y,ys',f1,f2,rfl,e,h1,h2⟩:=hr
   obtain ⟨rfl,rfl⟩:=List.append_eq_nil_iff.1 e.symm
   rw[RV_v h1,zHQ t l' ys' ht h2]
theorem zCE {h:HV} {x y:Value} (hv:valOf h=some x) (hr:RV Z G w h y []):y=x:=by
 unfold valOf at hv
 split at hv
 ·cases hv;exact RV_v hr
 ·rename_i cs
  cases hc:valOf.vals1 cs with
  | none=>rw[hc] at hv;cases hv
  | some l =>
   rw[hc] at hv
   obtain rfl:=Option.some.inj hv
   simp only[RV] at hr
   obtain ⟨ys,rfl,hl⟩:=hr
   have:=zHQ cs l ys.toList hc hl
   rw[←this]
 ·cases hv
theorem zBg:∀(l:List Value) (n:List Int),zBh l=some n→l=n.map (Value.int .i64)
 | [],n,h=>by simp only[zBh,Option.some.injEq] at h;rw[←h];rfl
 | v::t,n,h=>by
  unfold zBh at h
  split at h
  ·rename_i e;cases e
  ·rename_i k t' e
   cases e
   cases ht:zBh t with
   | none=>rw[ht] at h;cases h
   | some m =>
    rw[ht] at h
    obtain rfl:=Option.some.inj h
    rw[List.map_cons,←zBg t m ht]
  ·cases h
theorem zUf (l:List Int):RL Z G w (l.map fun n=>.v (.int .i64 n)) (l.map (Value.int .i64)) []:=by
 induction l with
 | nil=>simp[RL]
 | cons a l ih=>simp only[List.map_cons,RL];exact ⟨_,_,[],[],rfl,rfl,by simp[RV],ih⟩
theorem zNz:∀(a b:List Int),a.length=b.length→eqK (List.replicate a.length 8) (a.map fun n=>.v (.int .i64 n)) (b.map fun n=>.v (.int .i64 n))=some (decide (a=b))
 | [],[],_=>by simp[eqK]
 | x::a,y::b,h=>by
  have:=zNz a b (by simpa using h)
  simp only[List.length_cons,List.replicate_succ,List.map_cons,eqK,and_self,if_true,this,Option.map_some,List.cons.injEq,Bool.decide_and]
theorem zC8 {t:TypeId} {m:Nat} (h:zLF P t=some m):∃e te,P.underlying t=some (.array m e)∧P.underlying e=some (.int .i64)∧ti P e=some te∧te.size=1∧zBN P t=some (List.replicate m 8):=by
 unfold zLF at h
 split at h
 ·rename_i n e hu
  split at h
  ·rename_i hc
   obtain rfl:=Option.some.inj h
   have hi:=zAj hc.1
   obtain ⟨te,hte,hs⟩:=Option.map_eq_some_iff.1 hc.2.2
   exact ⟨e,te,hu,hi,hte,hs,hc.2.1⟩
  ·cases h
 ·cases h
theorem zWP {e:TypeId} (hi:P.underlying e=some (.int .i64)) {ys:Array Value} {i:Nat} {y:Value} (hy:ys[i]?=some y):(part e ys i).run P w=.ok y w:=by
 simp[part,isAgg,run_underlying hi,hy]
theorem zFs {t:TypeId} {k:Value} (em:Bool) (hk:zCL P t k):(Instr.checkKey em 10000 t k).run P w=.ok () w:=by
 unfold zCL at hk
 split at hk
 ·unfold Instr.checkKey;simp[run_underlying (zAj hk)]
 ·unfold Instr.checkKey;simp[run_underlying (zAF hk)]
 ·rename_i x
  obtain ⟨h1,h2⟩:=hk
  obtain ⟨l,hl⟩:=Option.isSome_iff_exists.1 h2
  have hx:=zBg _ _ hl
  obtain ⟨e,te,hu,hi,hte,hs,_⟩:=zC8 h1
  unfold Instr.checkKey
  simp only[Sem.run_bind,run_underlying hu,Result.andThen_ok]
  simp only[Std.Legacy.Range.forIn_eq_forIn_range',Std.Legacy.Range.size,Nat.sub_zero,Nat.add_one_sub_one,Nat.div_one]
  have key:∀(is:List Nat),(∀i∈is,i<x.size)→∀w,(forIn is PUnit.unit (fun i (_:PUnit)=>do let a ←sizeOf e;let v ←part e x (i*a);Instr.checkKey em 9999 e v;pure (ForInStep.yield PUnit.unit)):Sem PUnit).run P w=.ok () w:=by
   intro is
   induction is with
   | nil=>intro _ w;simp
   | cons i is ih =>
    intro hlt w
    have hi' : i<x.size:=hlt i (by simp)
    have hget:x[i*1]?=some x[i]:=by rw[Nat.mul_one];exact Array.getElem?_eq_getElem hi'
    have hck:(Instr.checkKey em 9999 e x[i]).run P w=.ok () w:=by
     unfold Instr.checkKey
     have:∃n,x[i]=.int .i64 n:=by
      have h3:x[i]∈x.toList:=by simp
      rw[hx] at h3
      obtain ⟨n,_,hn⟩:=List.mem_map.1 h3
      exact ⟨n,hn.symm⟩
     obtain ⟨n,hn⟩:=this
     rw[hn]
     simp[run_underlying hi]
    rw[List.forIn_cons]
    simp only[Sem.run_bind,zT hte,hs,Result.andThen_ok,zWP hi hget,hck,Sem.run_pure]
    exact ih (fun j hj=>hlt j (by simp[hj])) w
  have:=key (List.range' 0 x.size) (fun i hi=>by rw[List.mem_range'_1] at hi;omega) w
  simp only[this,Result.andThen_ok,Sem.run_pure]
 ·exact hk.elim
theorem z3z {a b:ByteArray} (h:bl a=bl b):a=b:=by
 cases a;cases b
 unfold bl at h
 simp only at h
 rw[Array.ext' h]
theorem yBK {a b:ByteArray}:decide (bl a=bl b)=(a == b):=by
 rw[beq_toListBytes,zBA,zBA,lbeq]
theorem zZY {t:TypeId} {k e:Value} {r:Bool} (hk:zCL P t k) (h:keq k e=some r):(Op.equal t k e).run P w=.ok r w:=by
 unfold keq at h
 split at h
 ·rename_i x y
  obtain rfl:=Option.some.inj h
  rw[show Op.equal t (.int .i64 x) (.int .i64 y)=Op.equalIn (9999+1) t (.int .i64 x) (.int .i64 y) from rfl,run_equalIn_int w 9999 t .i64 .i64 x y (zAj hk)]
  by_cases e:x=y <;> simp[e]
 ·rename_i x y
  obtain rfl:=Option.some.inj h
  rw[show Op.equal t (.string x) (.string y)=Op.equalIn (9999+1) t (.string x) (.string y) from rfl,run_equalIn_string w 9999 t x y (zAF hk),zBA,zBA,lbeq]
 ·rename_i x y
  cases hx:zBh x.toList with
  | none=>rw[hx] at h;cases h
  | some a =>
   cases hy:zBh y.toList with
   | none=>rw[hx,hy] at h;cases h
   | some b =>
    rw[hx,hy] at h
    simp only[Option.bind_some] at h
    split at h
    ·rename_i hl
     obtain rfl:=Option.some.inj h
     have e1:=zBg _ _ hx
     have e2:=zBg _ _ hy
     obtain ⟨e,te,hu,hi,hte,hs,hek⟩:=zC8 hk.1
     have hlen:x.size=a.length:=by rw[←Array.length_toList,e1,List.length_map]
     rw[hlen] at hek
     exact (zIK (w:=w) (Z:=fun _=>True) (G:=[]) hek (zNz a b hl) (by rw[e1];exact zUf a) (by rw[e2];exact zUf b)).1
    ·cases h
 ·cases h
theorem zKV {t:TypeId} {k:Value} (hk:zCL P t k):∀(es:List MapEntry) (i:Nat) (r:Option (Nat×Value)),zCO k es i=some r→(Instr.findAsking t k es i).run P w=.ok r w
 | [],i,r,h=>by simp only[zCO,Option.some.injEq] at h;subst h;simp[Instr.findAsking]
 | e::es,i,r,h=>by
  simp only[zCO] at h
  cases hq:keq k e.key with
  | none=>rw[hq] at h;cases h
  | some b =>
   rw[hq] at h
   simp only[Option.bind_some] at h
   simp only[Instr.findAsking,Sem.run_bind,zZY hk hq,Result.andThen_ok]
   cases b with
   | true=>simp only[if_true,Option.some.injEq] at h;subst h;simp
   | false=>simp only[Bool.false_eq_true,if_false] at h⊢;exact zKV hk es (i+1) r h
theorem zG2 {t:TypeId} {d:TypeDesc} {k:Value} (hd:P.underlying t=some d) (hk:zCL P t k):∀(es:List MapEntry) (i:Nat) (r:Option (Nat×Value)),zCO k es i=some r→Instr.findNow d k es i=some r∨∃x,k=.agg x
 | [],i,r,h=>by simp only[zCO,Option.some.injEq] at h;subst h;exact .inl rfl
 | e::es,i,r,h=>by
  simp only[zCO] at h
  cases hq:keq k e.key with
  | none=>rw[hq] at h;cases h
  | some b =>
   rw[hq] at h
   simp only[Option.bind_some] at h
   unfold keq at hq
   split at hq
   ·rename_i x y hy
    obtain rfl:=Option.some.inj hq
    have hu:=zAj hk
    rw[hd] at hu
    obtain rfl:=Option.some.inj hu
    simp only[Instr.findNow,hy,Instr.sameNow,if_true]
    by_cases e:x=y
    ·subst e;simp only[decide_true,if_true] at h;left;simpa using h
    ·have:(x == y)=false:=by simpa using e
     simp only[e,decide_false,Bool.false_eq_true,if_false] at h
     rw[this]
     rcases zG2 hd hk es (i+1) r h with h | ⟨_,h⟩
     ·exact .inl h
     ·cases h
   ·rename_i x y hy
    obtain rfl:=Option.some.inj hq
    have hu:=zAF hk
    rw[hd] at hu
    obtain rfl:=Option.some.inj hu
    simp only[Instr.findNow,hy,Instr.sameNow]
    rw[yBK] at h
    cases e:(x == y) with
    | true=>rw[e] at h;simp only[if_true] at h;left;simpa using h
    | false =>
     rw[e] at h
     simp only[Bool.false_eq_true,if_false] at h
     rcases zG2 hd hk es (i+1) r h with h | ⟨_,h⟩
     ·exact .inl h
     ·cases h
   ·exact .inr ⟨_,rfl⟩
   ·cases hq
theorem zIJ {t:TypeId} {k:Value} {es:List MapEntry} {r:Option (Nat×Value)} (hk:zCL P t k) (h:zCO k es 0=some r):(Instr.findKey t k es).run P w=.ok r w:=by
 obtain ⟨d,hd⟩:∃d,P.underlying t=some d:=by
  unfold zCL at hk
  split at hk
  ·exact ⟨_,zAj hk⟩
  ·exact ⟨_,zAF hk⟩
  ·obtain ⟨e,te,hu,_⟩:=zC8 hk.1;exact ⟨_,hu⟩
  ·exact hk.elim
 rcases zG2 hd hk es 0 r h with h1 | ⟨x,rfl⟩
 ·exact MapKept.run_findKey hd h1
 ·obtain ⟨e,te,hu,_⟩:=zC8 hk.1
  simp only[Instr.findKey,Sem.run_bind,run_underlying hu,Result.andThen_ok]
  cases es with
  | nil =>
   simp only[zCO,Option.some.injEq] at h
   subst h
   simp[Instr.findNow]
  | cons e es =>
   simp only[Instr.findNow,Instr.sameNow]
   exact zKV hk _ 0 r h
theorem zW1 {k e:Value} (h:keq k e=some true):e=k:=by
 unfold keq at h
 split at h
 ·simp at h;rw[h]
 ·rename_i x y
  simp only[Option.some.injEq,decide_eq_true_eq] at h
  rw[z3z h]
 ·rename_i x y
  cases hx:zBh x.toList with
  | none=>rw[hx] at h;cases h
  | some a =>
   cases hy:zBh y.toList with
   | none=>rw[hx,hy] at h;cases h
   | some b =>
    rw[hx,hy] at h
    simp only[Option.bind_some] at h
    split at h
    ·simp only[Option.some.injEq,decide_eq_true_eq] at h
     have e1:=zBg _ _ hx
     have e2:=zBg _ _ hy
     rw[Array.ext' (e2.trans (h▸e1.symm))]
    ·cases h
 ·cases h
theorem zIe {k:Value}:∀(es:List MapEntry) (i j:Nat) (v:Value),zCO k es i=some (some (j,v))→∃m e,j=i+m∧es[m]?=some e∧e.key=k∧e.val=v
 | [],i,j,v,h=>by simp[zCO] at h
 | e::es,i,j,v,h=>by
  simp only[zCO] at h
  cases hq:keq k e.key with
  | none=>rw[hq] at h;cases h
  | some b =>
   rw[hq] at h
   simp only[Option.bind_some] at h
   cases b with
   | true =>
    simp only[if_true,Option.some.injEq,Prod.mk.injEq] at h
    exact ⟨0,e,by omega,rfl,zW1 hq,h.2⟩
   | false =>
    simp only[Bool.false_eq_true,if_false] at h
    obtain ⟨m,e',h1,h2,h3,h4⟩:=zIe es (i+1) j v h
    exact ⟨m+1,e',by omega,h2,h3,h4⟩
theorem zIH (n:Nat) (l:List Int):((l.map (Value.int .i64)).zip (l.map (Value.int .i64))).all (fun p=>Instr.sameBits (n+1) p.1 p.2)=true:=by
 induction l with
 | nil=>rfl
 | cons a l ih=>simp only[List.map_cons,List.zip_cons_cons,List.all_cons,ih,Bool.and_true];simp[Instr.sameBits]
theorem zJ9 {k:Value} (hk:keq k k=some true):(Instr.keyThatStays k k).run P w=.ok k w:=by
 have hs:Instr.sameBits 10000 k k=true:=by
  unfold keq at hk
  split at hk
  ·simp[Instr.sameBits]
  ·rename_i x
   simp only[Instr.sameBits,beq_toListBytes,BEq.rfl]
  ·rename_i x
   cases hx:zBh x.toList with
   | none=>rw[hx] at hk;cases hk
   | some a =>
    have e1:=zBg _ _ hx
    show Instr.sameBits (9999+1) (.agg x) (.agg x)=true
    simp only[Instr.sameBits,BEq.rfl,Bool.true_and,e1]
    exact zIH 9998 a
  ·cases hk
 simp[Instr.keyThatStays,hs]
theorem zH9 {es:Array MapEntry} {c id:Nat} {y:Value} (hi:HInv Z G FP H w) (ho:H[id]?=some (some (zAk es c))) (hv:RV Z G w (.mp id) y []) :
  ∃r,y=.map (some r)∧G[id]?=some (some ⟨none,0,1,1,r⟩)∧FP id=[r]∧w.heap[r]?=some (.map es c):=by
 obtain ⟨g,hg,hob⟩:=hi.live id _ ho
 rcases hob.at_ with ⟨_,e,_⟩ | ⟨b,cells,f,_,_,_,_,_,_,e⟩ | ⟨x,hs,obj,f,e1,e2,e3,e4,e5,e6⟩
 ·simp[zAk] at e
 ·simp only[zAk,RR,RC,RV] at e
  obtain ⟨_,_,_,⟨_,_,_,_,_,_,h,_⟩,_⟩:=e
  exact h.elim
 ·simp only[zAk,List.cons.injEq,HV.ob.injEq,and_true] at e2
  obtain ⟨rfl,rfl⟩:=e2
  have hobj:obj=.map es c:=by
   cases obj <;> simp_all [zNe]
  subst hobj
  have hf:f=[]:=by simpa [zJu,RL] using e6
  subst hf
  have ge:g=⟨none,0,1,1,g.cap⟩:=by
   have h1:=hob.e;have h2:=hob.sz;have h3:=hob.n
   cases g
   simp[zAk] at h1 h2 h3 e1
   simp[h1,h2,h3,e1]
  refine ⟨g.cap,?_,by rw[←ge];exact hg,e3,e4⟩
  simp only[RV] at hv
  exact (hv.2.2.2 g hg).2 (by rw[ge]) e1
def zBY (w:World) (r:Nat) (es:Array MapEntry) (c:Nat):World:={ w with heap:=w.heap.setIfInBounds r (.map es c) }
theorem zI4 {es es' : Array MapEntry} {c c' id r:Nat} (hi:HInv Z G FP H w) (ho:H[id]?=some (some (zAk es c))) (hg:G[id]?=some (some ⟨none,0,1,1,r⟩)) (hf:FP id=[r]) (hr:w.heap[r]?=some (.map es c)) :
  ∃G' FP',HInv Z G' FP' (H.set id (some (zAk es' c'))) (zBY w r es' c')∧GLe G G'∧Evo Z FP w Z FP' (zBY w r es' c'):=by
 have hlt:r<w.heap.size:=(Array.getElem?_eq_some_iff.1 hr).1
 have hrF:r∈FP id:=by rw[hf];simp
 have hkeep:∀b,b<w.heap.size→b∉FP id→(zBY w r es' c').heap[b]?=w.heap[b]?:=fun b _ hb=>by
  have:b≠r:=fun e=>hb (e▸hrF)
  simp[zBY,Ne.symm this]
 refine ⟨_,_,hi.turn ho hg (g':=⟨none,0,1,1,r⟩) (fp':=[r]) (.inl rfl) (by simp[zBY]) hkeep ⟨rfl,rfl,rfl,by simp[zAk],.inr (.inr ⟨_,[],.map es' c',[],rfl,rfl,rfl,by simp[zBY,hlt],rfl,by simp[zJu,RL]⟩)⟩ (by simp) (fun b hb=>by
  obtain rfl:=List.mem_singleton.1 hb
  exact ⟨hi.zfp id b hrF,by simpa [zBY] using hlt,fun j hj hc=>hj (hi.disj j id b hc hrF)⟩),GLe.set hg (.inl rfl),zBw rfl rfl rfl (by simp[zBY]) hkeep (fun b hb=>by
  obtain rfl:=List.mem_singleton.1 hb
  exact .inr ⟨_,hrF⟩)⟩
def zEg (P:Program) (t:TypeId):Option (TypeId×TypeId×Value) :=
 match P.underlying t with
 | some (.map k e)=>(P.info? e).bind fun i=>i.zero.map fun z=>(k,e,z)
 | _=>none
theorem zEf {t k e:TypeId} {z:Value} (h:zEg P t=some (k,e,z)):P.underlying t=some (.map k e)∧∀w,(zeroValue e).run P w=.ok z w:=by
 unfold zEg at h
 split at h
 ·rename_i k' e' hu
  cases hi:P.info? e' with
  | none=>rw[hi] at h;cases h
  | some i =>
   rw[hi] at h
   simp only[Option.bind_some] at h
   cases hz:i.zero with
   | none=>rw[hz] at h;cases h
   | some z' =>
    rw[hz] at h
    simp only[Option.map_some,Option.some.injEq,Prod.mk.injEq] at h
    obtain ⟨rfl,rfl,rfl⟩:=h
    exact ⟨hu,fun w=>by simp[zeroValue,typeInfo,hi,hz]⟩
 ·cases h
def zWg (H:Heap) (K:KT):Prop:=K (.mp H.length) (H++[some (zAk #[] 0)])
def zMW (P:Program) (H:Heap) (t:TypeId) (m k:HV) (ok:Bool) (K:HV→Prop):Prop :=
 match m with
 | .mp id =>
  match H[id]? with
  | some (some ob) =>
   match zCk ob,zEg P t,valOf k with
   | some (es,c),some (kt,e,z),some key=>zCL P kt key∧
    (match zCO key es.toList 0 with
    | some r=>K (if ok=true then .tu [cHV ((r.map (·.2)).getD z),.v (.bool r.isSome)] else cHV ((r.map (·.2)).getD z))
    | none=>False)
   | _,_,_=>False
  | _=>False
 | _=>False
def putE (es:Array MapEntry) (c:Nat) (key val:Value):Option (Nat×Value)→Array MapEntry×Nat
 | some (i,_)=>(es.modify i fun e=>{ e with key:=key,val:=val },c)
 | none=>(es.push ⟨key,val,c⟩,c+1)
def zEn (P:Program) (H:Heap) (t:TypeId) (m k x:HV) (K:KT):Prop :=
 match m with
 | .mp id =>
  match H[id]? with
  | some (some ob) =>
   match zCk ob,zEg P t,valOf k,valOf x with
   | some (es,c),some (kt,e,z),some key,some val=>zCL P kt key∧keq key key=some true∧
    (match zCO key es.toList 0 with
    | some r=>K (.v undef) (H.set id (some (zAk (putE es c key val r).1 (putE es c key val r).2)))
    | none=>False)
   | _,_,_,_=>False
  | _=>False
 | _=>False
theorem zQi {o:Oper} {t:TypeId} (ho:o.op=.makeMap t none) (hok:zG N o=true) (h:zWg H K):HR P N o T H K:=by
 intro B Z G FP ds a w hs
 have hlt:=hs.inv.len
 refine ⟨.value (.map (some w.heap.size)),_,w.alloc (.map #[] 0),.mp H.length,_,Z,G++[some ⟨none,0,1,1,w.heap.size⟩],_,?_,.inl rfl,h,?_,hs.inv.new (o:=zAk #[] 0) (g:=⟨none,0,1,1,w.heap.size⟩) (fp:=[w.heap.size]) (by simp) (fun b hb=>heap_alloc_old w _ hb) ⟨rfl,rfl,rfl,by simp[zAk],.inr (.inr ⟨_,[],.map #[] 0,[],rfl,rfl,rfl,heap_alloc_new w _,rfl,by simp[zJu,RL]⟩)⟩ (by simp) (fun b hb=>by
  obtain rfl:=List.mem_singleton.1 hb
  exact ⟨fun hz=>by have:=hs.inv.zlt _ hz;omega,by simp,fun j hc=>by have:=hs.inv.flt j _ hc;omega⟩),GLe.more _,zG7 (hs.inv.nofp _ (by simp)) rfl rfl rfl (by simp) (fun b hb=>heap_alloc_old w _ hb) (fun b hb=>by
  obtain rfl:=List.mem_singleton.1 hb
  omega)⟩
 ·simp[execOp,ho,Instr.makeMap,newObj];rfl
 ·simp only[RV]
  refine ⟨trivial,rfl,by simp[hlt],fun g hg=>?_⟩
  rw[←hlt] at hg
  simp at hg;subst hg
  exact ⟨Nat.le_refl _,fun _ _=>rfl⟩
theorem zUl {o:Oper} {t:TypeId} {m k:Operand} {ok:Bool} (ho:o.op=.lookup t m k ok) (hok:zG N o=true) (h:zMW P H t (hev T m) (hev T k) ok (fun v=>K v H)):HQ P N o T H K:=by
 intro B Z G FP ds a w hs
 have hm:=hs.hev m (zF hok (by simp[ho,Op.operands]))
 have hk:=hs.hev k (zF hok (by simp[ho,Op.operands]))
 unfold zMW at h
 split at h
 ·rename_i id e1
  rw[e1] at hm
  split at h
  ·rename_i ob hob
   split at h
   ·rename_i es c kt e z key h1 h2 h3
    obtain ⟨hkey,h⟩:=h
    split at h
    ·rename_i r hr
     obtain rfl:=zDC h1
     obtain ⟨hu,hz⟩:=zEf h2
     obtain ⟨b,hy,hg,hf,hb⟩:=zH9 hs.inv hob hm
     have hke:=zCE h3 hk
     refine ⟨if ok=true then .tuple #[(r.map (·.2)).getD z,.bool r.isSome] else (r.map (·.2)).getD z,_,?_,h,?_⟩
     rotate_left
     ·split
      ·simp only[RV,RL]
       exact ⟨_,rfl,_,_,[],[],rfl,rfl,zON _,_,_,[],[],rfl,rfl,by simp,rfl,rfl⟩
      ·exact zON _
     ·simp only[execOp,ho,hy,hke,Instr.lookup,Sem.run_bind,run_underlying hu,Result.andThen_ok,MapKept.run_getObj_map hb,zFs _ hkey,zIJ hkey hr,Sem.run_pure]
      cases r with
      | none=>simp[hz]
      | some r=>simp
    ·exact h.elim
   ·exact h.elim
  ·exact h.elim
 ·exact h.elim
theorem zLQ {o:Oper} {t:TypeId} {m k x:Operand} (ho:o.op=.mapUpdate t m k x) (hok:zG N o=true) (h:zEn P H t (hev T m) (hev T k) (hev T x) K):HR P N o T H K:=by
 intro B Z G FP ds a w hs
 have hm:=hs.hev m (zF hok (by simp[ho,Op.operands]))
 have hk:=hs.hev k (zF hok (by simp[ho,Op.operands]))
 have hx:=hs.hev x (zF hok (by simp[ho,Op.operands]))
 unfold zEn at h
 split at h
 ·rename_i id e1
  rw[e1] at hm
  split at h
  ·rename_i ob hob
   split at h
   ·rename_i es c kt e z key val h1 h2 h3 h4
    obtain ⟨hkey,hkk,h⟩:=h
    split at h
    ·rename_i r hr
     obtain rfl:=zDC h1
     obtain ⟨hu,hz⟩:=zEf h2
     obtain ⟨b,hy,hg,hf,hb⟩:=zH9 hs.inv hob hm
     have hke:=zCE h3 hk
     have hxe:=zCE h4 hx
     obtain ⟨G',FP',i1,i2,i3⟩:=zI4 (es':=(putE es c key val r).1) (c':=(putE es c key val r).2) hs.inv hob hg hf hb
     refine ⟨.skip,undef,zBY w b (putE es c key val r).1 (putE es c key val r).2,_,_,Z,G',FP',?_,.inr ⟨rfl,rfl⟩,h,by simp[RV],i1,i2,i3⟩
     simp only[execOp,ho,hy,hke,hxe,Instr.mapUpdate,Sem.run_bind,run_underlying hu,Result.andThen_ok,MapKept.run_getObj_map hb,zFs _ hkey,zIJ hkey hr,Sem.run_pure]
     cases r with
     | none=>simp[putE,MapKept.run_setObj_map _ hb,zBY]
     | some r =>
      obtain ⟨i,v⟩:=r
      obtain ⟨m',e',q1,q2,q3,q4⟩:=zIe _ _ _ _ hr
      have:es[i]?=some e':=by rw[q1,Nat.zero_add];simpa using q2
      simp[putE,this,q3,zJ9 hkk,MapKept.run_setObj_map _ hb,zBY]
    ·exact h.elim
   ·exact h.elim
  ·exact h.elim
 ·exact h.elim
def entE (es:Array MapEntry) (c:Nat) (key z:Value):Option (Nat×Value)→Array MapEntry×Nat
 | some (i,_)=>(es.modify i fun e=>{ e with key:=key },c)
 | none=>(es.push ⟨key,z,c⟩,c+1)
def entV (es:Array MapEntry) (c:Nat) (z:Value):Option (Nat×Value)→Value×Nat
 | some (i,v)=>(v,((es[i]?).map (·.born)).getD 0)
 | none=>(z,c)
def zGU (P:Program) (H:Heap) (t:TypeId) (m k:HV) (K:KT):Prop :=
 match m with
 | .mp id =>
  match H[id]? with
  | some (some ob) =>
   match zCk ob,zEg P t,valOf k with
   | some (es,c),some (kt,e,z),some key=>zCL P kt key∧keq key key=some true∧
    (match zCO key es.toList 0 with
    | some r=>K (.tu [cHV (entV es c z r).1,.v (.int .i64 (entV es c z r).2)]) (H.set id (some (zAk (entE es c key z r).1 (entE es c key z r).2)))
    | none=>False)
   | _,_,_=>False
  | _=>False
 | _=>False
def zD7 (H:Heap) (m s x:HV) (K:KT):Prop :=
 match m,s with
 | .mp id,.v (.int .i64 b) =>
  match H[id]? with
  | some (some ob) =>
   match zCk ob,valOf x with
   | some (es,c),some val =>
    (match es.findIdx? (fun e=>(e.born:Int) == b) with
    | some i=>K (.v undef) (H.set id (some (zAk (es.modify i fun e=>{ e with val:=val }) c)))
    | none=>False)
   | _,_=>False
  | _=>False
 | _,_=>False
theorem zNP {o:Oper} {t:TypeId} {m k:Operand} (ho:o.op=.mapEntry t m k) (hok:zG N o=true) (h:zGU P H t (hev T m) (hev T k) K):HR P N o T H K:=by
 intro B Z G FP ds a w hs
 have hm:=hs.hev m (zF hok (by simp[ho,Op.operands]))
 have hk:=hs.hev k (zF hok (by simp[ho,Op.operands]))
 unfold zGU at h
 split at h
 ·rename_i id e1
  rw[e1] at hm
  split at h
  ·rename_i ob hob
   split at h
   ·rename_i es c kt e z key h1 h2 h3
    obtain ⟨hkey,hkk,h⟩:=h
    split at h
    ·rename_i r hr
     obtain rfl:=zDC h1
     obtain ⟨hu,hz⟩:=zEf h2
     obtain ⟨b,hy,hg,hf,hb⟩:=zH9 hs.inv hob hm
     have hke:=zCE h3 hk
     obtain ⟨G',FP',i1,i2,i3⟩:=zI4 (es':=(entE es c key z r).1) (c':=(entE es c key z r).2) hs.inv hob hg hf hb
     refine ⟨.value (.tuple #[(entV es c z r).1,goInt (entV es c z r).2]),_,zBY w b (entE es c key z r).1 (entE es c key z r).2,_,_,Z,G',FP',?_,.inl rfl,h,?_,i1,i2,i3⟩
     ·simp only[execOp,ho,hy,hke,Instr.mapEntry,Sem.run_bind,run_underlying hu,Result.andThen_ok,MapKept.run_getObj_map hb,zFs _ hkey,zIJ hkey hr,Sem.run_pure]
      cases r with
      | none=>simp[entE,entV,hz,MapKept.run_setObj_map _ hb,zBY]
      | some r =>
       obtain ⟨i,v⟩:=r
       obtain ⟨m',e',q1,q2,q3,q4⟩:=zIe _ _ _ _ hr
       have:es[i]?=some e':=by rw[q1,Nat.zero_add];simpa using q2
       simp[entE,entV,this,q3,zJ9 hkk,MapKept.run_setObj_map _ hb,zBY]
     ·simp only[RV,RL]
      exact ⟨_,rfl,_,_,[],[],rfl,rfl,zON _,_,_,[],[],rfl,rfl,by simp[goInt],rfl,rfl⟩
    ·exact h.elim
   ·exact h.elim
  ·exact h.elim
 ·exact h.elim
theorem zJB {o:Oper} {t:TypeId} {m s x:Operand} (ho:o.op=.entryStore t m s x) (hok:zG N o=true) (h:zD7 H (hev T m) (hev T s) (hev T x) K):HR P N o T H K:=by
 intro B Z G FP ds a w hs
 have hm:=hs.hev m (zF hok (by simp[ho,Op.operands]))
 have hst:=hs.hev s (zF hok (by simp[ho,Op.operands]))
 have hx:=hs.hev x (zF hok (by simp[ho,Op.operands]))
 unfold zD7 at h
 split at h
 ·rename_i id b0 e1 e2
  rw[e1] at hm
  rw[e2] at hst
  have hst:=RV_v hst
  split at h
  ·rename_i ob hob
   split at h
   ·rename_i es c val h1 h4
    split at h
    ·rename_i i hi
     obtain rfl:=zDC h1
     obtain ⟨b,hy,hg,hf,hb⟩:=zH9 hs.inv hob hm
     have hxe:=zCE h4 hx
     obtain ⟨G',FP',i1,i2,i3⟩:=zI4 (es':=es.modify i fun e=>{ e with val:=val }) (c':=c) hs.inv hob hg hf hb
     refine ⟨.skip,undef,zBY w b (es.modify i fun e=>{ e with val:=val }) c,_,_,Z,G',FP',?_,.inr ⟨rfl,rfl⟩,h,by simp[RV],i1,i2,i3⟩
     simp[execOp,ho,hy,hst,hxe,Instr.entryStore,MapKept.run_getObj_map hb,asInt,asIntOf,hi,MapKept.run_setObj_map _ hb,zBY]
    ·exact h.elim
   ·exact h.elim
  ·exact h.elim
 ·exact h.elim
end
end Go.Proofs.YtoknohandclcbaaGreat
namespace Go.Proofs.YtoknohandclcbaaGreat
open Go.RowKit
mutual
def zAH:HV→Heap→HV×Heap
 | .ow e sz rows,H=>(.hd H.length 0 rows.length,H++[some ⟨e,sz,rows⟩])
 | .bx e sz row,H=>(.pt H.length 1 0 0,H++[some ⟨e,sz,[row]⟩])
 | .ag cs,H=>(.ag (zDN cs H).1,(zDN cs H).2)
 | .tu cs,H=>(.tu (zDN cs H).1,(zDN cs H).2)
 | .fn f cs,H=>(.fn f (zDN cs H).1,(zDN cs H).2)
 | .om x hs,H=>(.mp H.length,H++[some ⟨0,hs.length+1,[.ob x::hs]⟩])
 | x,H=>(x,H)
def zDN:List HV→Heap→List HV×Heap
 | [],H=>([],H)
 | h::t,H=>((zAH h H).1::(zDN t (zAH h H).2).1,(zDN t (zAH h H).2).2)
end
structure Named (Z:Nat→Prop) (G:List (Option OG)) (FP:Nat→List Nat) (w:World) (fr:List Nat) (G' : List (Option OG)) (FP' : Nat→List Nat) (H' : Heap):Prop where
 inv:HInv Z G' FP' H' w
 le:GLe G G'
 fp:∀id b,b∈FP' id→b∈fr∨∃id',b∈FP id'
section
variable {Z:Nat→Prop} {w:World}
theorem Named.none {G:List (Option OG)} {FP:Nat→List Nat} {H:Heap} {fr:List Nat} (hi:HInv Z G FP H w):Named Z G FP w fr G FP H :=
 ⟨hi,GLe.refl _,fun id b hb=>.inr ⟨id,hb⟩⟩
theorem Named.one {G:List (Option OG)} {FP:Nat→List Nat} {H:Heap} {fr:List Nat} (hi:HInv Z G FP H w) {o:HObj} {gn:OG} (hob:∀G',OB Z G' w o gn fr) (hnd:fr.Nodup) (hf:∀b∈fr,¬Z b∧b<w.heap.size∧∀id,b∉FP id) :
  Named Z G FP w fr (G++[some gn]) (fun j=>if j=H.length then fr else FP j) (H++[some o]):=by
 refine ⟨hi.new (Nat.le_refl _) (fun _ _=>rfl) (hob _) hnd hf,GLe.more _,fun id b hb=>?_⟩
 by_cases e:id=H.length
 ·simp only[if_pos e] at hb;exact .inl hb
 ·simp only[if_neg e] at hb;exact .inr ⟨id,hb⟩
mutual
theorem zEe:∀(h:HV) (G:List (Option OG)) (FP:Nat→List Nat) (H:Heap) (y:Value) (fr:List Nat),HInv Z G FP H w→RV Z G w h y fr→fr.Nodup→(∀b∈fr,¬Z b∧b<w.heap.size∧∀id,b∉FP id)→
  ∃G' FP',Named Z G FP w fr G' FP' (zAH h H).2∧RV Z G' w (zAH h H).1 y []
 | .any,G,FP,H,y,fr,hi,hr,hnd,hf=>⟨G,FP,.none hi,by simp[zAH,RV]⟩
 | .v x,G,FP,H,y,fr,hi,hr,hnd,hf=>⟨G,FP,.none hi,by simp only[RV] at hr;simp[zAH,RV,hr.2]⟩
 | .sl rows,G,FP,H,y,fr,hi,hr,hnd,hf=>⟨G,FP,.none hi,by have:=zCt _ y fr rfl hr;subst this;exact hr⟩
 | .hd ..,G,FP,H,y,fr,hi,hr,hnd,hf=>⟨G,FP,.none hi,by have:=zCt _ y fr rfl hr;subst this;exact hr⟩
 | .pt ..,G,FP,H,y,fr,hi,hr,hnd,hf=>⟨G,FP,.none hi,by have:=zCt _ y fr rfl hr;subst this;exact hr⟩
 | .fp ..,G,FP,H,y,fr,hi,hr,hnd,hf=>⟨G,FP,.none hi,by have:=zCt _ y fr rfl hr;subst this;exact hr⟩
 | .ic ..,G,FP,H,y,fr,hi,hr,hnd,hf=>⟨G,FP,.none hi,by have:=zCt _ y fr rfl hr;subst this;exact hr⟩
 | .ob _,G,FP,H,y,fr,hi,hr,hnd,hf=>by simp only[RV] at hr
 | .mp _,G,FP,H,y,fr,hi,hr,hnd,hf=>⟨G,FP,.none hi,by have:=zCt _ y fr rfl hr;subst this;exact hr⟩
 | .yl _,G,FP,H,y,fr,hi,hr,hnd,hf=>⟨G,FP,.none hi,by have:=zCt _ y fr rfl hr;subst this;exact hr⟩
 | .gv _,G,FP,H,y,fr,hi,hr,hnd,hf=>⟨G,FP,.none hi,by have:=zCt _ y fr rfl hr;subst this;exact hr⟩
 | .om x hs,G,FP,H,y,fr,hi,hr,hnd,hf=>by
  obtain ⟨gn,h1,h2⟩:=zYR hr
  rw[hi.len] at h2
  exact ⟨_,_,Named.one hi h1 hnd hf,h2⟩
 | .ow e sz rows,G,FP,H,y,fr,hi,hr,hnd,hf=>by
  obtain ⟨gn,h1,h2⟩:=zYO hr
  rw[hi.len] at h2
  exact ⟨_,_,Named.one hi h1 hnd hf,h2⟩
 | .bx e sz row,G,FP,H,y,fr,hi,hr,hnd,hf=>by
  obtain ⟨gn,h1,h2⟩:=zYZ hr
  rw[hi.len] at h2
  exact ⟨_,_,Named.one hi h1 hnd hf,h2⟩
 | .ag cs,G,FP,H,y,fr,hi,hr,hnd,hf=>by
  simp only[RV] at hr
  obtain ⟨ys,rfl,hl⟩:=hr
  obtain ⟨G',FP',h1,h2⟩:=zDB cs G FP H ys.toList fr hi hl hnd hf
  exact ⟨G',FP',h1,by simp only[zAH,RV];exact ⟨ys,rfl,h2⟩⟩
 | .tu cs,G,FP,H,y,fr,hi,hr,hnd,hf=>by
  simp only[RV] at hr
  obtain ⟨ys,rfl,hl⟩:=hr
  obtain ⟨G',FP',h1,h2⟩:=zDB cs G FP H ys.toList fr hi hl hnd hf
  exact ⟨G',FP',h1,by simp only[zAH,RV];exact ⟨ys,rfl,h2⟩⟩
 | .fn f cs,G,FP,H,y,fr,hi,hr,hnd,hf=>by
  simp only[RV] at hr
  obtain ⟨ys,rfl,hl⟩:=hr
  obtain ⟨G',FP',h1,h2⟩:=zDB cs G FP H ys.toList fr hi hl hnd hf
  exact ⟨G',FP',h1,by simp only[zAH,RV];exact ⟨ys,rfl,h2⟩⟩
theorem zDB:∀(l:List HV) (G:List (Option OG)) (FP:Nat→List Nat) (H:Heap) (ys:List Value) (fr:List Nat),HInv Z G FP H w→RL Z G w l ys fr→fr.Nodup→(∀b∈fr,¬Z b∧b<w.heap.size∧∀id,b∉FP id)→
  ∃G' FP',Named Z G FP w fr G' FP' (zDN l H).2∧RL Z G' w (zDN l H).1 ys []
 | [],G,FP,H,ys,fr,hi,hr,hnd,hf=>by
  simp only[RL] at hr
  exact ⟨G,FP,.none hi,by simp[zDN,RL,hr.1]⟩
 | h::t,G,FP,H,ys,fr,hi,hr,hnd,hf=>by
  simp only[RL] at hr
  obtain ⟨y,ys',f1,f2,rfl,rfl,h1,h2⟩:=hr
  obtain ⟨hn1,hn2,hn3⟩:=List.nodup_append.1 hnd
  obtain ⟨G1,FP1,n1,r1⟩:=zEe h G FP H y f1 hi h1 hn1 (fun b hb=>hf b (by simp[hb]))
  obtain ⟨G2,FP2,n2,r2⟩:=zDB t G1 FP1 (zAH h H).2 ys' f2 n1.inv (RL.keep (fun _ _=>rfl) (fun _ h=>h) n1.le _ _ _ (fun _ _=>rfl) h2) hn2 (fun b hb=>by
   obtain ⟨k1,k2,k3⟩:=hf b (by simp[hb])
   refine ⟨k1,k2,fun id hc=>?_⟩
   rcases n1.fp id b hc with h | ⟨id',h⟩
   ·exact hn3 b h b hb rfl
   ·exact k3 id' h)
  refine ⟨G2,FP2,⟨n2.inv,n1.le.trans n2.le,fun id b hb=>?_⟩,?_⟩
  ·rcases n2.fp id b hb with h | ⟨id',h⟩
   ·exact .inl (by simp[h])
   ·rcases n1.fp id' b h with h | h
    ·exact .inl (by simp[h])
    ·exact .inr h
  ·simp only[zDN,RL]
   exact ⟨y,ys',[],[],rfl,rfl,RV.nil_keep (fun _ _=>rfl) (fun _ h=>h) n2.le r1,r2⟩
end
end
section
variable {P:Program} {N L:Nat} {T:Nat→HV} {H:Heap}
theorem zCT {ro:Option Nat} {n:Nat} {f:FuncId} {args:Array Value} {w:World} {R:Ending→World→Prop} (h:Calls P f args w R):CallsIn (Wd ro) n P f args w R:=by
 cases ro with
 | none=>exact callsIn_wide.2 h
 | some l=>exact CallsIn.inRound (F:=Fence.wide) l (callsIn_wide.2 h)
theorem zY1 {Z:Nat→Prop} {G:List (Option OG)} {w:World} {args caps:List HV} {ya yc:List Value} (fid:Nat) (ha:RL Z G w args ya []) (hc:RL Z G w caps yc []):RL Z G w (fnA fid .any args caps) (fnA fid undef ya yc) []:=by
 unfold fnA
 split
 ·exact (zZ _ _ _ _).2 ⟨_,_,[],[],rfl,rfl,ha,hc⟩
 ·cases caps with
  | nil =>
   simp only[RL] at hc
   obtain ⟨rfl,_⟩:=hc
   simp only[List.headD_nil,List.tail_nil,List.append_nil,RL]
   exact ⟨_,_,[],[],rfl,rfl,by simp[RV],ha⟩
  | cons c cs =>
   simp only[RL] at hc
   obtain ⟨y,ys,f1,f2,rfl,e,h1,h2⟩:=hc
   obtain ⟨rfl,rfl⟩:=List.append_eq_nil_iff.1 e.symm
   simp only[List.headD_cons,List.tail_cons,RL]
   exact ⟨_,_,[],[],rfl,rfl,h1,(zZ _ _ _ _).2 ⟨_,_,[],[],rfl,rfl,ha,h2⟩⟩
theorem zLl {P:Program} {a:Act} {w:World} {o:Oper} {f:Operand} {args:Array Operand} {tys:Array TypeId} {fid:Nat} {cs:Array Value} (ho:o.op=.call { callee:=.value f,args:=args,argTypes:=tys }) (hfe:a.eval f=fnV fid cs)
  (hc:∀vals w,(callFunc (fnF fid) vals).run P w=.ok (.enter (fnF fid) vals) w):(execOp a.eval o).run P w=.ok (.enter (fnF fid) (fnA fid undef (args.toList.map a.eval) cs.toList).toArray) w:=by
 by_cases h:fid<4294967296
 ·rw[zZk h] at hfe
  rw[zFJ h]
  have e:(args.toList.map a.eval++cs.toList).toArray=args.map a.eval++cs:=by
   apply Array.ext';simp
  rw[e]
  simp only[execOp,ho,resolve,hfe,Deferred.ofValue,Sem.run_bind,Sem.run_pure,Result.andThen_ok,invoke]
  simp[hc]
 ·rw[zYX h] at hfe
  rw[zGZ h]
  have e:(cs.toList.headD undef::(args.toList.map a.eval++cs.toList.tail)).toArray = #[cs.toList.headD undef]++(args.map a.eval)++cs.toList.tail.toArray:=by
   apply Array.ext';simp
  rw[e]
  simp only[execOp,ho,resolve,hfe,Deferred.ofValue,Sem.run_bind,Sem.run_pure,Result.andThen_ok,invoke]
  simp[hc]
theorem zNQ {o:Oper} {f:Operand} {args:Array Operand} {tys:Array TypeId} {fid:Nat} {caps:List HV} {K:(Nat→HV)→Heap→Prop} {Q:HV→Heap→Prop}
  (ho:o.op=.call { callee:=.value f,args:=args,argTypes:=tys }) (hok:zG N o=true) (hf:hev T f=.fn fid caps)
  (hc:HCalls P (fnF fid) H (fnA fid .any (args.toList.map (hev T)) caps) Q) (hK:∀r H',Q r H'→H'.length=H.length→K (updO T o.dst (zAH r H').1) (zAH r H').2):HO P N L o T H K:=by
 intro ro n B Z G FP ds a w hB hL hs next QQ hn
 refine ⟨fun _ _=>trivial,?_⟩
 rw[zAY _ _ _ (by rw[ho];intro c;simp)]
 have hfv:=hs.hev f (zF hok (by simp[ho,Op.operands,Call.operands]))
 rw[hf] at hfv
 simp only[RV] at hfv
 obtain ⟨cs,hfe,hcl⟩:=hfv
 have hargs:args.toList.all (zBJ N)=true:=by
  rw[List.all_eq_true]
  intro x hx
  exact zF hok (by simp[ho,Op.operands,Call.operands];exact .inr (by simpa using hx))
 have hal:=zB4 hs args.toList hargs
 have hvals:=zY1 fid hal hcl
 have hrun:(execOp a.eval o).run P w=.ok (.enter (fnF fid) (fnA fid undef (args.toList.map a.eval) cs.toList).toArray) w:=zLl ho hfe hc.1
 rw[hrun,Oper.uponIn_enter]
 refine ⟨fun h=>by cases ro <;> simp[Wd,Fence.wide] at h,zCT (Calls.mono (hc.2 Z G FP w _ hs.inv hvals) ?_)⟩
 rintro e w' ⟨v,r,H',Z',G',FP',fr,rfl,hQ,hlen,hi',hr,hnd,hfr1,hfr2,hG,hE⟩
 obtain ⟨G2,FP2,hnm,hrv⟩:=zEe r G' FP' H' v fr hi' hr hnd hfr1
 have hE2:Evo Z FP w Z' FP2 w':=by
  refine ⟨hE.os,hE.tape,hE.output,hE.size,hE.keep,hE.zle,hE.znew,fun id b hb=>?_⟩
  rcases hnm.fp id b hb with h | ⟨id',h⟩
  ·exact hfr2 b h
  ·exact hE.fnew id' b h
 refine hn _ _ ⟨_,_,Z',G2,FP2,hK r H' hQ hlen,(hs.evo hnm.inv (hG.trans hnm.le) hE2).put hrv o.dst ?_,GLt.of hL (hG.trans hnm.le),hE2⟩
 intro i hi
 have:=hok
 simp only[zG,zBr,hi,Bool.and_eq_true,decide_eq_true_eq] at this
 exact this.1
def HYield (P:Program) (id:Nat) (H:Heap) (args:List HV) (K:Bool→Heap→Prop):Prop :=
 ∀ro m Z G FP w l vals,HInv Z G FP H w→RV Z G w (.yl id) (.func (.yield l) #[] #[]) []→RL Z G w args vals []→
  YieldAt (Wd ro) m P l vals.toArray w (Post Z G FP H w (fun r H'=>∃b,r=.v (.bool b)∧K b H'))
theorem zO2 {o:Oper} {f:Operand} {args:Array Operand} {tys:Array TypeId} {id:Nat} {K:(Nat→HV)→Heap→Prop} {Q:Bool→Heap→Prop}
  (ho:o.op=.call { callee:=.value f,args:=args,argTypes:=tys }) (hok:zG N o=true) (hf:hev T f=.yl id)
  (hc:HYield P id H (args.toList.map (hev T)) Q) (hK:∀b H',Q b H'→H'.length=H.length→K (updO T o.dst (.v (.bool b))) H'):HO P N L o T H K:=by
 intro ro n B Z G FP ds a w hB hL hs next QQ hn
 refine ⟨fun _ _=>trivial,?_⟩
 rw[zAY _ _ _ (by rw[ho];intro c;simp)]
 have hfv:=hs.hev f (zF hok (by simp[ho,Op.operands,Call.operands]))
 rw[hf] at hfv
 have hfv':=hfv
 simp only[RV] at hfv
 obtain ⟨_,_,l,hfe,_⟩:=hfv
 rw[hfe] at hfv'
 have hargs:args.toList.all (zBJ N)=true:=by
  rw[List.all_eq_true]
  intro x hx
  exact zF hok (by simp[ho,Op.operands,Call.operands];exact .inr (by simpa using hx))
 have hal:=zB4 hs args.toList hargs
 obtain ⟨fn,tmps,assign,body,hy,hR⟩:=hc ro (n-1) Z G FP w l _ hs.inv hfv' hal
 have hrun:(execOp a.eval o).run P w=.ok (.round l fn tmps assign body) w:=by
  have e:(args.toList.map a.eval).toArray=args.map a.eval:=by
   apply Array.ext';simp
  rw[e] at hy
  simp only[execOp,ho,resolve,hfe,Deferred.ofValue,Sem.run_bind,Sem.run_pure,Result.andThen_ok,invoke]
  simpa using hy
 rw[hrun,Oper.uponIn_round]
 refine ⟨fun h=>by cases ro <;> simp[Wd,Fence.wide] at h,hR.mono ?_⟩
 rintro e w' ⟨v,r,H',Z',G',FP',fr,rfl,⟨b,rfl,hQ⟩,hlen,hi',hr,hnd,hfr1,hfr2,hG,hE⟩
 simp only[RV] at hr
 obtain ⟨rfl,rfl⟩:=hr
 refine hn _ _ ⟨_,H',Z',G',FP',hK b H' hQ hlen,(hs.evo hi' hG hE).put (by simp[RV]) o.dst ?_,GLt.of hL hG,hE⟩
 intro i hi
 have:=hok
 simp only[zG,zBr,hi,Bool.and_eq_true,decide_eq_true_eq] at this
 exact this.1
end
end Go.Proofs.YtoknohandclcbaaGreat
