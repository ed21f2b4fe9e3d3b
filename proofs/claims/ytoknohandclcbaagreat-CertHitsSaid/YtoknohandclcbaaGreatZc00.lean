/- Parts of the proof: HiA, HiB, HiC, HiD, HiE, HiF, HiG. -/
import Derived.Below
import Derived.WalkKit
import Derived.RangeFuncLeaves
import Derived.RangeFuncNested
import Derived.RangeFuncCalls
import Derived.Laws.AppendOwn
set_option linter.unusedSectionVars false
set_option linter.unusedVariables false
set_option linter.unusedSimpArgs false
namespace Go.Proofs.YtoknohandclcbaaGreat
open Go.RowKit
def z2a (b:Nat):Bool :=
 false && b == 0
def zZg (b:Nat):Bool :=
 false && b == 0
def zHD (b:Nat):Bool :=
 false && b == 0
def zKP:TypeId :=
 0
def zZh (b:Nat):Bool :=
 false && b == 0
def z21:Value :=
 .nilIface
inductive HV where
 | any
 | v (x:Value)
 | sl (rows:List (List HV))
 | ow (e:TypeId) (sz:Nat) (rows:List (List HV))
 | hd (id off len:Nat)
 | pt (id n row off:Nat)
 | fp (rows:List (List HV)) (i off:Nat)
 | ag (cs:List HV)
 | tu (vs:List HV)
 | fn (f:Nat) (caps:List HV)
 | bx (e:TypeId) (sz:Nat) (row:List HV)
 | ic (t:TypeId) (x:HV)
 | ob (x:Obj)
 | mp (id:Nat)
 | om (x:Obj) (hs:List HV)
 | yl (id:Nat)
 | gv (b:Nat)
 deriving Inhabited
def zJu:Obj→List Value
 | .loop r=>r.tmps.toList
 | _=>[]
def zNe:Obj→Obj
 | .loop r=>.loop { r with tmps:=#[] }
 | o=>o
structure OG where
 blk:Option Nat
 e:TypeId
 sz:Nat
 n:Nat
 cap:Nat
structure HObj where
 e:TypeId
 sz:Nat
 rows:List (List HV)
abbrev Heap:=List (Option HObj)
def zFv (rows:List (List HV)):Nat:=(rows.headD []).length
def Uni (rows:List (List HV)):Prop:=∀r∈rows,r.length=zFv rows
def View (g:OG) (off len:Nat) (y:Value):Prop :=
 match g.blk with
 | none=>y=.slice none 0 0∧off=0∧len=0
 | some b=>∃a,y=.slice (some a) len (g.cap-off)∧(len≠0∨off=0→a=⟨b,off*g.sz,none⟩)
def fnF (f:Nat):Nat:=if f<4294967296 then f else f-4294967296
def fnV (f:Nat) (ys:Array Value):Value:=if f<4294967296 then .func (.func (fnF f)) #[] ys else .func (.func (fnF f)) #[ys.toList.headD undef] ys.toList.tail.toArray
def fnA {α:Type} (f:Nat) (d:α) (args caps:List α):List α:=if f<4294967296 then args++caps else caps.headD d::(args++caps.tail)
theorem zZj (f:Nat) (ys:Array Value):(fnV f ys).oneCell'=true:=by unfold fnV;split <;> rfl
theorem zGY {f:Nat} (h:f<4294967296):fnF f=f:=if_pos h
theorem zKT {f:Nat} (h:f<4294967296) (ys:Array Value):fnV f ys=.func (.func f) #[] ys:=by unfold fnV;rw[if_pos h,zGY h]
theorem zZk {f:Nat} (h:f<4294967296) (ys:Array Value):fnV f ys=.func (.func (fnF f)) #[] ys:=if_pos h
theorem zYX {f:Nat} (h:¬f<4294967296) (ys:Array Value):fnV f ys=.func (.func (fnF f)) #[ys.toList.headD undef] ys.toList.tail.toArray:=if_neg h
theorem zFJ {α:Type} {f:Nat} (h:f<4294967296) (d:α) (args caps:List α):fnA f d args caps=args++caps:=if_pos h
theorem zTK {f:Nat} (h:¬f<4294967296):fnF f=f-4294967296:=if_neg h
theorem zGZ {α:Type} {f:Nat} (h:¬f<4294967296) (d:α) (args caps:List α):fnA f d args caps=caps.headD d::(args++caps.tail):=if_neg h
mutual
def RV (Z:Nat→Prop):List (Option OG)→World→HV→Value→List Nat→Prop
 | _,_,.any,_,fp=>fp=[]
 | _,_,.v x,y,fp=>fp=[]∧y=x
 | _,w,.sl rows,y,fp=>fp=[]∧∃a c,y=.slice a rows.length c∧rows.length≤c∧c≤maxLen∧(rows=[]∨∃b o,a=some ⟨b,o,none⟩∧Z b∧Uni rows∧RR Z [] w rows b o [])
 | _,w,.ow e sz rows,y,fp=>(rows=[]∧y=.slice none 0 0∧fp=[])∨
   ∃b cap cells f,y=.slice (some ⟨b,0,none⟩) rows.length cap∧fp=b::f∧w.heap[b]?=some (.cells cells e (0,0))∧cells.size=cap*sz∧rows.length≤cap∧cap≤maxLen∧(∀r∈rows,r.length=sz)∧RR Z [] w rows b 0 f
 | G,_,.hd id off len,y,fp=>fp=[]∧y.oneCell'=true∧id<G.length∧∀g,G[id]?=some (some g)→off+len≤g.n∧(off+len=g.n→View g off len y)
 | G,_,.pt id n row off,y,fp=>fp=[]∧y.oneCell'=true∧id<G.length∧∀g,G[id]?=some (some g)→n≤g.n∧(n=g.n→∃b,g.blk=some b∧y=.pointer (some ⟨b,row*g.sz+off,none⟩))
 | _,w,.fp rows i off,y,fp=>fp=[]∧∃b o,y=.pointer (some ⟨b,o+i*zFv rows+off,none⟩)∧Z b∧Uni rows∧RR Z [] w rows b o []
 | G,w,.ag cs,y,fp=>∃ys,y=.agg ys∧RL Z G w cs ys.toList fp
 | G,w,.tu vs,y,fp=>∃ys,y=.tuple ys∧RL Z G w vs ys.toList fp
 | G,w,.fn f caps,y,fp=>∃ys,y=fnV f ys∧RL Z G w caps ys.toList fp
 | _,w,.bx e sz row,y,fp=>∃b cap cells f,y=.pointer (some ⟨b,0,none⟩)∧fp=b::f∧w.heap[b]?=some (.cells cells e (0,0))∧cells.size=cap*sz∧1≤cap∧cap≤maxLen∧row.length=sz∧RC Z [] w row b 0 f
 | G,w,.ic t x,y,fp=>fp=[]∧∃z,y=.iface t z∧RV Z G w x z []
 | _,_,.ob _,_,_=>False
 | G,_,.mp id,y,fp=>fp=[]∧y.oneCell'=true∧id<G.length∧∀g,G[id]?=some (some g)→1≤g.n∧(1=g.n→g.blk=none→y=.map (some g.cap))
 | _,w,.om x hs,y,fp=>∃b obj f,y=.map (some b)∧fp=b::f∧w.heap[b]?=some obj∧zNe obj=x∧RL Z [] w hs (zJu obj) f
 | G,_,.yl id,y,fp=>fp=[]∧id<G.length∧∃l,y=.func (.yield l) #[] #[]∧∀g,G[id]?=some (some g)→1≤g.n∧(1=g.n→g.blk=none→l=g.cap)
 | _,w,.gv b,y,fp=>fp=[]∧Z b∧y.oneCell'=true∧∃t,w.cell? ⟨b,0,none⟩=some (.iface t y)
def RL (Z:Nat→Prop):List (Option OG)→World→List HV→List Value→List Nat→Prop
 | _,_,[],ys,fp=>ys=[]∧fp=[]
 | G,w,h::t,ys,fp=>∃y ys' f1 f2,ys=y::ys'∧fp=f1++f2∧RV Z G w h y f1∧RL Z G w t ys' f2
def RC (Z:Nat→Prop):List (Option OG)→World→List HV→Nat→Nat→List Nat→Prop
 | _,_,[],_,_,fp=>fp=[]
 | G,w,h::t,b,k,fp=>∃y f1 f2,fp=f1++f2∧w.cell? ⟨b,k,none⟩=some y∧y.oneCell'=true∧RV Z G w h y f1∧RC Z G w t b (k+1) f2
def RR (Z:Nat→Prop):List (Option OG)→World→List (List HV)→Nat→Nat→List Nat→Prop
 | _,_,[],_,_,fp=>fp=[]
 | G,w,r::t,b,k,fp=>∃f1 f2,fp=f1++f2∧RC Z G w r b k f1∧RR Z G w t b (k+r.length) f2
end
structure GLe (G G' : List (Option OG)):Prop where
 len:G.length≤G'.length
 at_:∀id,id<G.length→G'[id]?=some none∨G'[id]?=G[id]?∨∃g g',G[id]?=some (some g)∧G'[id]?=some (some g')∧g.n<g'.n
theorem GLe.refl (G:List (Option OG)):GLe G G:=⟨Nat.le_refl _,fun _ _=>.inr (.inl rfl)⟩
theorem GLe.trans {G G' G'' : List (Option OG)} (h:GLe G G') (k:GLe G' G''):GLe G G'':=by
 refine ⟨Nat.le_trans h.len k.len,fun id hid=>?_⟩
 rcases k.at_ id (Nat.lt_of_lt_of_le hid h.len) with k1 | k1 | ⟨g,g',k1,k2,k3⟩
 ·exact .inl k1
 ·rw[k1];exact h.at_ id hid
 ·rcases h.at_ id hid with h1 | h1 | ⟨g0,g1,h1,h2,h3⟩
  ·rw[k1] at h1;cases h1
  ·exact .inr (.inr ⟨g,g',h1▸k1,k2,k3⟩)
  ·rw[k1] at h2;cases h2;exact .inr (.inr ⟨g0,g',h1,k2,by omega⟩)
section frame
variable {Z Z' : Nat→Prop} {w w' : World}
theorem zZc {G G' : List (Option OG)} (hG:GLe G G') {id off len:Nat} {y:Value} (h:id<G.length∧∀g,G[id]?=some (some g)→off+len≤g.n∧(off+len=g.n→View g off len y)) :
  id<G'.length∧∀g,G'[id]?=some (some g)→off+len≤g.n∧(off+len=g.n→View g off len y):=by
 refine ⟨Nat.lt_of_lt_of_le h.1 hG.len,fun g hg=>?_⟩
 rcases hG.at_ id h.1 with h1 | h1 | ⟨g0,g1,h1,h2,h3⟩
 ·rw[h1] at hg;cases hg
 ·exact h.2 g (h1▸hg)
 ·rw[h2] at hg;cases hg
  have:=h.2 g0 h1
  exact ⟨by omega,fun e=>by omega⟩
theorem zZE {G G' : List (Option OG)} (hG:GLe G G') {id n row off:Nat} {y:Value} (h:id<G.length∧∀g,G[id]?=some (some g)→n≤g.n∧(n=g.n→∃b,g.blk=some b∧y=.pointer (some ⟨b,row*g.sz+off,none⟩))) :
  id<G'.length∧∀g,G'[id]?=some (some g)→n≤g.n∧(n=g.n→∃b,g.blk=some b∧y=.pointer (some ⟨b,row*g.sz+off,none⟩)):=by
 refine ⟨Nat.lt_of_lt_of_le h.1 hG.len,fun g hg=>?_⟩
 rcases hG.at_ id h.1 with h1 | h1 | ⟨g0,g1,h1,h2,h3⟩
 ·rw[h1] at hg;cases hg
 ·exact h.2 g (h1▸hg)
 ·rw[h2] at hg;cases hg
  have:=h.2 g0 h1
  exact ⟨by omega,fun e=>by omega⟩
theorem zSV {G G' : List (Option OG)} (hG:GLe G G') {id:Nat} {p:Nat→Prop} (h:id<G.length∧∀g,G[id]?=some (some g)→1≤g.n∧(1=g.n→g.blk=none→p g.cap)) :
  id<G'.length∧∀g,G'[id]?=some (some g)→1≤g.n∧(1=g.n→g.blk=none→p g.cap):=by
 refine ⟨Nat.lt_of_lt_of_le h.1 hG.len,fun g hg=>?_⟩
 rcases hG.at_ id h.1 with h1 | h1 | ⟨g0,g1,h1,h2,h3⟩
 ·rw[h1] at hg;cases hg
 ·exact h.2 g (h1▸hg)
 ·rw[h2] at hg;cases hg
  have:=h.2 g0 h1
  exact ⟨by omega,fun e=>by omega⟩
mutual
theorem RV.keep0 (hZ:∀b,Z b→w'.heap[b]?=w.heap[b]?) (hZZ:∀b,Z b→Z' b):∀(h:HV) (G G' : List (Option OG)) (y:Value) (fp:List Nat),GLe G G'→(∀b∈fp,w'.heap[b]?=w.heap[b]?)→RV Z G w h y fp→RV Z' G' w' h y fp
 | .any,G,G',y,fp,hG,_,hr=>by simpa only[RV] using hr
 | .v x,G,G',y,fp,hG,_,hr=>by simpa only[RV] using hr
 | .sl rows,G,G',y,fp,hG,_,hr=>by
  simp only[RV] at hr⊢
  obtain ⟨h0,a,c,h1,h2,h3,h4⟩:=hr
  refine ⟨h0,a,c,h1,h2,h3,h4.imp id ?_⟩
  rintro ⟨b,o,e,hz,hu,hrr⟩
  exact ⟨b,o,e,hZZ b hz,hu,RR.keep0 hZ hZZ rows [] [] b o [] (GLe.refl _) (hZ b hz) (by simp) hrr⟩
 | .ow e sz rows,G,G',y,fp,hG,hf,hr=>by
  simp only[RV] at hr⊢
  refine hr.imp id ?_
  rintro ⟨b,cap,cells,f,h1,h2,h3,h4,h5,h6,h7,h8⟩
  subst h2
  exact ⟨b,cap,cells,f,h1,rfl,(hf b (by simp)).trans h3,h4,h5,h6,h7,RR.keep0 hZ hZZ rows [] [] b 0 f (GLe.refl _) (hf b (by simp)) (fun x hx=>hf x (by simp[hx])) h8⟩
 | .hd id off len,G,G',y,fp,hG,_,hr=>by
  simp only[RV] at hr⊢
  exact ⟨hr.1,hr.2.1,zZc hG hr.2.2⟩
 | .pt id n row off,G,G',y,fp,hG,_,hr=>by
  simp only[RV] at hr⊢
  exact ⟨hr.1,hr.2.1,zZE hG hr.2.2⟩
 | .fp rows i off,G,G',y,fp,hG,_,hr=>by
  simp only[RV] at hr⊢
  obtain ⟨h0,b,o,h1,hz,hu,hrr⟩:=hr
  exact ⟨h0,b,o,h1,hZZ b hz,hu,RR.keep0 hZ hZZ rows [] [] b o [] (GLe.refl _) (hZ b hz) (by simp) hrr⟩
 | .ag cs,G,G',y,fp,hG,hf,hr=>by
  simp only[RV] at hr⊢
  obtain ⟨ys,h1,h2⟩:=hr
  exact ⟨ys,h1,RL.keep0 hZ hZZ cs G G' _ fp hG hf h2⟩
 | .tu cs,G,G',y,fp,hG,hf,hr=>by
  simp only[RV] at hr⊢
  obtain ⟨ys,h1,h2⟩:=hr
  exact ⟨ys,h1,RL.keep0 hZ hZZ cs G G' _ fp hG hf h2⟩
 | .fn f caps,G,G',y,fp,hG,hf,hr=>by
  simp only[RV] at hr⊢
  obtain ⟨ys,h1,h2⟩:=hr
  exact ⟨ys,h1,RL.keep0 hZ hZZ caps G G' _ fp hG hf h2⟩
 | .bx e sz row,G,G',y,fp,hG,hf,hr=>by
  simp only[RV] at hr⊢
  obtain ⟨b,cap,cells,f,h1,h2,h3,h4,h7,h8,h5,h6⟩:=hr
  subst h2
  exact ⟨b,cap,cells,f,h1,rfl,(hf b (by simp)).trans h3,h4,h7,h8,h5,RC.keep0 hZ hZZ row [] [] b 0 f (GLe.refl _) (hf b (by simp)) (fun x hx=>hf x (by simp[hx])) h6⟩
 | .ic t x,G,G',y,fp,hG,_,hr=>by
  simp only[RV] at hr⊢
  obtain ⟨h0,z,h1,h2⟩:=hr
  exact ⟨h0,z,h1,RV.keep0 hZ hZZ x G G' z [] hG (by simp) h2⟩
 | .ob x,G,G',y,fp,hG,_,hr=>by simp only[RV] at hr
 | .mp id,G,G',y,fp,hG,_,hr=>by
  simp only[RV] at hr⊢
  exact ⟨hr.1,hr.2.1,zSV (p:=fun n=>y=.map (some n)) hG hr.2.2⟩
 | .om x hs,G,G',y,fp,hG,hf,hr=>by
  simp only[RV] at hr⊢
  obtain ⟨b,obj,f,h1,h2,h3,h4,h5⟩:=hr
  subst h2
  exact ⟨b,obj,f,h1,rfl,(hf b (by simp)).trans h3,h4,RL.keep0 hZ hZZ hs [] [] _ f (GLe.refl _) (fun x hx=>hf x (by simp[hx])) h5⟩
 | .yl id,G,G',y,fp,hG,_,hr=>by
  simp only[RV] at hr⊢
  obtain ⟨h0,h1,l,h2,h3⟩:=hr
  obtain ⟨k1,k2⟩:=zSV (p:=fun n=>l=n) hG ⟨h1,h3⟩
  exact ⟨h0,k1,l,h2,k2⟩
 | .gv b,G,G',y,fp,hG,_,hr=>by
  simp only[RV] at hr⊢
  obtain ⟨h0,h1,h2,t,h3⟩:=hr
  exact ⟨h0,hZZ b h1,h2,t,by rw[World.cell?_of_block (w:=w) (a:=⟨b,0,none⟩) (hZ b h1)];exact h3⟩
theorem RL.keep0 (hZ:∀b,Z b→w'.heap[b]?=w.heap[b]?) (hZZ:∀b,Z b→Z' b):∀(l:List HV) (G G' : List (Option OG)) (ys:List Value) (fp:List Nat),GLe G G'→(∀b∈fp,w'.heap[b]?=w.heap[b]?)→RL Z G w l ys fp→RL Z' G' w' l ys fp
 | [],G,G',ys,fp,hG,_,hr=>by simpa only[RL] using hr
 | h::t,G,G',ys,fp,hG,hf,hr=>by
  simp only[RL] at hr⊢
  obtain ⟨y,ys',f1,f2,h1,h2,h3,h4⟩:=hr
  subst h2
  exact ⟨y,ys',f1,f2,h1,rfl,RV.keep0 hZ hZZ h G G' y f1 hG (fun b hb=>hf b (by simp[hb])) h3,RL.keep0 hZ hZZ t G G' ys' f2 hG (fun b hb=>hf b (by simp[hb])) h4⟩
theorem RC.keep0 (hZ:∀b,Z b→w'.heap[b]?=w.heap[b]?) (hZZ:∀b,Z b→Z' b):∀(l:List HV) (G G' : List (Option OG)) (b k:Nat) (fp:List Nat),GLe G G'→w'.heap[b]?=w.heap[b]?→(∀b∈fp,w'.heap[b]?=w.heap[b]?)→RC Z G w l b k fp→RC Z' G' w' l b k fp
 | [],G,G',b,k,fp,hG,_,_,hr=>by simpa only[RC] using hr
 | h::t,G,G',b,k,fp,hG,hb,hf,hr=>by
  simp only[RC] at hr⊢
  obtain ⟨y,f1,f2,h2,h3,h3',h4,h5⟩:=hr
  subst h2
  exact ⟨y,f1,f2,rfl,by rw[World.cell?_of_block (w:=w) (a:=⟨b,k,none⟩) hb];exact h3,h3',RV.keep0 hZ hZZ h G G' y f1 hG (fun b hb=>hf b (by simp[hb])) h4,RC.keep0 hZ hZZ t G G' b (k+1) f2 hG hb (fun b hb=>hf b (by simp[hb])) h5⟩
theorem RR.keep0 (hZ:∀b,Z b→w'.heap[b]?=w.heap[b]?) (hZZ:∀b,Z b→Z' b):∀(l:List (List HV)) (G G' : List (Option OG)) (b k:Nat) (fp:List Nat),GLe G G'→w'.heap[b]?=w.heap[b]?→(∀b∈fp,w'.heap[b]?=w.heap[b]?)→RR Z G w l b k fp→RR Z' G' w' l b k fp
 | [],G,G',b,k,fp,hG,_,_,hr=>by simpa only[RR] using hr
 | r::t,G,G',b,k,fp,hG,hb,hf,hr=>by
  simp only[RR] at hr⊢
  obtain ⟨f1,f2,h2,h3,h4⟩:=hr
  subst h2
  exact ⟨f1,f2,rfl,RC.keep0 hZ hZZ r G G' b k f1 hG hb (fun b hb=>hf b (by simp[hb])) h3,RR.keep0 hZ hZZ t G G' b (k+r.length) f2 hG hb (fun b hb=>hf b (by simp[hb])) h4⟩
end
section
variable {G G' : List (Option OG)}
theorem RV.keep (hZ:∀b,Z b→w'.heap[b]?=w.heap[b]?) (hZZ:∀b,Z b→Z' b) (hG:GLe G G') (h:HV) (y:Value) (fp:List Nat) (hf:∀b∈fp,w'.heap[b]?=w.heap[b]?) (hr:RV Z G w h y fp):RV Z' G' w' h y fp:=RV.keep0 hZ hZZ h G G' y fp hG hf hr
theorem RL.keep (hZ:∀b,Z b→w'.heap[b]?=w.heap[b]?) (hZZ:∀b,Z b→Z' b) (hG:GLe G G') (l:List HV) (ys:List Value) (fp:List Nat) (hf:∀b∈fp,w'.heap[b]?=w.heap[b]?) (hr:RL Z G w l ys fp):RL Z' G' w' l ys fp:=RL.keep0 hZ hZZ l G G' ys fp hG hf hr
theorem RC.keep (hZ:∀b,Z b→w'.heap[b]?=w.heap[b]?) (hZZ:∀b,Z b→Z' b) (hG:GLe G G') (l:List HV) (b k:Nat) (fp:List Nat) (hb:w'.heap[b]?=w.heap[b]?) (hf:∀b∈fp,w'.heap[b]?=w.heap[b]?) (hr:RC Z G w l b k fp):RC Z' G' w' l b k fp:=RC.keep0 hZ hZZ l G G' b k fp hG hb hf hr
theorem RR.keep (hZ:∀b,Z b→w'.heap[b]?=w.heap[b]?) (hZZ:∀b,Z b→Z' b) (hG:GLe G G') (l:List (List HV)) (b k:Nat) (fp:List Nat) (hb:w'.heap[b]?=w.heap[b]?) (hf:∀b∈fp,w'.heap[b]?=w.heap[b]?) (hr:RR Z G w l b k fp):RR Z' G' w' l b k fp:=RR.keep0 hZ hZZ l G G' b k fp hG hb hf hr
end
end frame
end Go.Proofs.YtoknohandclcbaaGreat
namespace Go.Proofs.YtoknohandclcbaaGreat
open Go.RowKit
structure OB (Z:Nat→Prop) (G:List (Option OG)) (w:World) (o:HObj) (g:OG) (fp:List Nat):Prop where
 e:g.e=o.e
 sz:g.sz=o.sz
 n:g.n=o.rows.length
 len:∀r∈o.rows,r.length=o.sz
 at_:(g.blk=none∧o.rows=[]∧fp=[])∨
  (∃b cells f,g.blk=some b∧fp=b::f∧w.heap[b]?=some (.cells cells o.e (0,0))∧cells.size=g.cap*o.sz∧o.rows.length≤g.cap∧g.cap≤maxLen∧RR Z G w o.rows b 0 f)∨
  ∃x hs obj f,g.blk=none∧o.rows=[.ob x::hs]∧fp=g.cap::f∧w.heap[g.cap]?=some obj∧zNe obj=x∧RL Z G w hs (zJu obj) f
structure Globs (Z:Nat→Prop) (w:World):Prop where
 int:∀b,z2a b=true→Z b∧∃m,w.cell? ⟨b,0,none⟩=some (.int .i64 m)
 ifc:∀b,zZg b=true→Z b∧∃v,w.cell? ⟨b,0,none⟩=some v∧(v=.nilIface∨∃t p,v=.iface t p)
 err:∀b,zHD b=true→Z b∧∃a c t,w.cell? ⟨b,0,none⟩=some (.iface zKP (.pointer (some a)))∧Z a.block∧w.heap[a.block]?=some (.cells c t (0,0))
 apart:∀b b' a,zHD b=true→zHD b'=true→w.cell? ⟨b,0,none⟩=some (.iface zKP (.pointer (some a)))→w.cell? ⟨b',0,none⟩=some (.iface zKP (.pointer (some a)))→b=b'
 han:∀b,zZh b=true→Z b∧w.cell? ⟨b,0,none⟩=some z21
theorem Globs.keep {Z Z' : Nat→Prop} {w w' : World} (h:Globs Z w) (hz:∀b,Z b→Z' b) (hk:∀b,Z b→w'.heap[b]?=w.heap[b]?):Globs Z' w':=by
 refine ⟨fun b hb=>?_,fun b hb=>?_,fun b hb=>?_,fun b b' a hb hb' e1 e2=>?_,fun b hb=>?_⟩
 rotate_left 4
 ·obtain ⟨h1,h2⟩:=h.han b hb
  exact ⟨hz b h1,by rw[World.cell?_of_block (w:=w) (a:=⟨b,0,none⟩) (hk b h1)];exact h2⟩
 ·obtain ⟨h1,m,h2⟩:=h.int b hb
  exact ⟨hz b h1,m,by rw[World.cell?_of_block (w:=w) (a:=⟨b,0,none⟩) (hk b h1)];exact h2⟩
 ·obtain ⟨h1,v,h2,h3⟩:=h.ifc b hb
  exact ⟨hz b h1,v,by rw[World.cell?_of_block (w:=w) (a:=⟨b,0,none⟩) (hk b h1)];exact h2,h3⟩
 ·obtain ⟨h1,a,c,t,h2,h3,h4⟩:=h.err b hb
  exact ⟨hz b h1,a,c,t,by rw[World.cell?_of_block (w:=w) (a:=⟨b,0,none⟩) (hk b h1)];exact h2,hz _ h3,by rw[hk _ h3];exact h4⟩
 ·have k1:=(h.err b hb).1
  have k2:=(h.err b' hb').1
  rw[World.cell?_of_block (w:=w) (a:=⟨b,0,none⟩) (hk b k1)] at e1
  rw[World.cell?_of_block (w:=w) (a:=⟨b',0,none⟩) (hk b' k2)] at e2
  exact h.apart b b' a hb hb' e1 e2
structure HInv (Z:Nat→Prop) (G:List (Option OG)) (FP:Nat→List Nat) (H:Heap) (w:World):Prop where
 len:G.length=H.length
 dead:∀id:Nat,H[id]?=some none→G[id]?=some none
 nofp:∀id:Nat,(∀o,H[id]?≠some (some o))→FP id=[]
 live:∀(id:Nat) o,H[id]?=some (some o)→∃g,G[id]?=some (some g)∧OB Z G w o g (FP id)
 nodup:∀id,(FP id).Nodup
 disj:∀i j b,b∈FP i→b∈FP j→i=j
 zlt:∀b,Z b→b<w.heap.size
 flt:∀id b,b∈FP id→b<w.heap.size
 zfp:∀id b,b∈FP id→¬Z b
 glob:Globs Z w
structure Evo (Z:Nat→Prop) (FP:Nat→List Nat) (w:World) (Z' : Nat→Prop) (FP' : Nat→List Nat) (w' : World):Prop where
 os:w'.os=w.os
 tape:w'.tape=w.tape
 output:w'.output=w.output
 size:w.heap.size≤w'.heap.size
 keep:∀b,b<w.heap.size→(∀id,b∉FP id)→w'.heap[b]?=w.heap[b]?
 zle:∀b,Z b→Z' b
 znew:∀b,Z' b→Z b∨w.heap.size≤b∨∃id,b∈FP id
 fnew:∀id b,b∈FP' id→w.heap.size≤b∨∃id',b∈FP id'
theorem Evo.refl (Z:Nat→Prop) (FP:Nat→List Nat) (w:World):Evo Z FP w Z FP w :=
 ⟨rfl,rfl,rfl,Nat.le_refl _,fun _ _ _=>rfl,fun _ h=>h,fun _ h=>.inl h,fun id _ h=>.inr ⟨id,h⟩⟩
theorem Evo.trans {Z Z' Z'' : Nat→Prop} {FP FP' FP'' : Nat→List Nat} {w w' w'' : World} (h:Evo Z FP w Z' FP' w') (k:Evo Z' FP' w' Z'' FP'' w''):Evo Z FP w Z'' FP'' w'':=by
 refine ⟨k.os.trans h.os,k.tape.trans h.tape,k.output.trans h.output,Nat.le_trans h.size k.size,fun b hb hf=>?_,fun b hz=>k.zle b (h.zle b hz),fun b hz=>?_,fun id b hb=>?_⟩
 ·refine (k.keep b (Nat.lt_of_lt_of_le hb h.size) fun id hid=>?_).trans (h.keep b hb hf)
  rcases h.fnew id b hid with h1 | ⟨id',h1⟩
  ·omega
  ·exact hf id' h1
 ·rcases k.znew b hz with h1 | h1 | ⟨id,h1⟩
  ·exact h.znew b h1
  ·exact .inr (.inl (Nat.le_trans h.size h1))
  ·exact .inr (h.fnew id b h1)
 ·rcases k.fnew id b hb with h1 | ⟨id',h1⟩
  ·exact .inl (Nat.le_trans h.size h1)
  ·exact h.fnew id' b h1
section
variable {Z Z' : Nat→Prop} {G G' : List (Option OG)} {FP FP' : Nat→List Nat} {H H' : Heap} {w w' : World}
theorem RV.nil_keep (hZ:∀b,Z b→w'.heap[b]?=w.heap[b]?) (hZZ:∀b,Z b→Z' b) (hG:GLe G G') {h:HV} {y:Value} (hr:RV Z G w h y []):RV Z' G' w' h y [] :=
 RV.keep hZ hZZ hG h y [] (by simp) hr
theorem OB.keep {o:HObj} {g:OG} {fp:List Nat} (hZ:∀b,Z b→w'.heap[b]?=w.heap[b]?) (hZZ:∀b,Z b→Z' b) (hG:GLe G G') (hf:∀b∈fp,w'.heap[b]?=w.heap[b]?) (h:OB Z G w o g fp):OB Z' G' w' o g fp:=by
 refine ⟨h.e,h.sz,h.n,h.len,h.at_.imp id ?_⟩
 rintro (⟨b,cells,f,h1,h2,h3,h4,h5,h6,h7⟩ | ⟨x,hs,obj,f,h1,h2,h3,h4,h5,h6⟩)
 ·subst h2
  exact .inl ⟨b,cells,f,h1,rfl,(hf b (by simp)).trans h3,h4,h5,h6,RR.keep hZ hZZ hG _ b 0 f (hf b (by simp)) (fun x hx=>hf x (by simp[hx])) h7⟩
 ·subst h3
  exact .inr ⟨x,hs,obj,f,h1,h2,rfl,(hf _ (by simp)).trans h4,h5,RL.keep hZ hZZ hG _ _ f (fun x hx=>hf x (by simp[hx])) h6⟩
theorem HInv.keep (h:HInv Z G FP H w) (hsz:w.heap.size≤w'.heap.size) (hk:∀b,(Z b∨∃id,b∈FP id)→w'.heap[b]?=w.heap[b]?):HInv Z G FP H w':=by
 refine ⟨h.len,h.dead,h.nofp,fun id o ho=>?_,h.nodup,h.disj,fun b hb=>Nat.lt_of_lt_of_le (h.zlt b hb) hsz,fun id b hb=>Nat.lt_of_lt_of_le (h.flt id b hb) hsz,h.zfp,h.glob.keep (fun _ h=>h) (fun b hb=>hk b (.inl hb))⟩
 obtain ⟨g,hg,hob⟩:=h.live id o ho
 exact ⟨g,hg,hob.keep (fun b hb=>hk b (.inl hb)) (fun _ h=>h) (GLe.refl _) (fun b hb=>hk b (.inr ⟨id,hb⟩))⟩
end
def zFV (ds:List Nat):List Deferred:=ds.map fun d=>{ target:=.collected d,args:=#[] }
structure St (N B:Nat) (Z:Nat→Prop) (G:List (Option OG)) (FP:Nat→List Nat) (ds:List Nat) (T:Nat→HV) (H:Heap) (a:Act) (w:World):Prop where
 inv:HInv Z G FP H w
 size:a.tmps.size=N
 tmps:∀i,i<N→RV Z G w (T i) (a.tmps.getD i undef) []
 defers:a.defers=zFV ds
 dsn:ds.Nodup
 dsat:∀d∈ds,B≤d∧w.heap[d]?=some (.deferred (some []))∧¬Z d∧∀id,d∉FP id
def upd (T:Nat→HV) (i:Nat) (h:HV):Nat→HV:=fun j=>if j=i then h else T j
def updO (T:Nat→HV) (d:Option Nat) (h:HV):Nat→HV:=match d with | some i=>upd T i h | none=>T
def cHV:Value→HV
 | .agg cs=>.ag (cs.toList.map .v)
 | x=>.v x
def hev (T:Nat→HV):Operand→HV
 | .tmp t=>T t
 | .const x=>cHV x
 | .global g=>if zHD g=true then .fp [[.ic zKP (.gv g)]] 0 0 else .any
 | .func f=>if f<4294967296 then .fn f [] else .any
def Post (Z:Nat→Prop) (G:List (Option OG)) (FP:Nat→List Nat) (H:Heap) (w:World) (Q:HV→Heap→Prop):Ending→World→Prop :=
 fun e w'=>∃v r H' Z' G' FP' fr,e=.returned v∧Q r H'∧H'.length=H.length∧HInv Z' G' FP' H' w'∧RV Z' G' w' r v fr∧fr.Nodup∧
  (∀b∈fr,¬Z' b∧b<w'.heap.size∧∀id,b∉FP' id)∧(∀b∈fr,w.heap.size≤b∨∃id,b∈FP id)∧GLe G G'∧Evo Z FP w Z' FP' w'
def HCalls (P:Program) (f:FuncId) (H:Heap) (args:List HV) (Q:HV→Heap→Prop):Prop :=
 (∀vals w,(callFunc f vals).run P w=.ok (.enter f vals) w)∧∀Z G FP w vals,HInv Z G FP H w→RL Z G w args vals []→Calls P f vals.toArray w (Post Z G FP H w Q)
theorem HCalls.mono {P:Program} {f:FuncId} {H:Heap} {args:List HV} {Q Q' : HV→Heap→Prop} (h:HCalls P f H args Q) (hq:∀r H',Q r H'→Q' r H'):HCalls P f H args Q':=by
 refine ⟨h.1,fun Z G FP w vals hi ha=>?_⟩
 refine Calls.mono (h.2 Z G FP w vals hi ha) ?_
 rintro e w' ⟨v,r,H',Z',G',FP',fr,he,hQ,rest⟩
 exact ⟨v,r,H',Z',G',FP',fr,he,hq r H' hQ,rest⟩
abbrev Wd (ro:Option Nat):Fence:={ Fence.wide with round:=ro }
structure GLt (L:Nat) (G G' : List (Option OG)):Prop where
 len:L≤G'.length
 at_:∀id:Nat,id<L→G'[id]?=some none∨G'[id]?=G[id]?∨∃g g',G[id]?=some (some g)∧G'[id]?=some (some g')∧g.n<g'.n
theorem GLt.refl {L:Nat} {G:List (Option OG)} (h:L≤G.length):GLt L G G:=⟨h,fun _ _=>.inr (.inl rfl)⟩
theorem GLt.of {L:Nat} {G G' : List (Option OG)} (hL:L≤G.length) (h:GLe G G'):GLt L G G':=⟨Nat.le_trans hL h.len,fun id hid=>h.at_ id (Nat.lt_of_lt_of_le hid hL)⟩
theorem GLt.trans {L:Nat} {G G' G'' : List (Option OG)} (h:GLt L G G') (k:GLt L G' G''):GLt L G G'':=by
 refine ⟨k.len,fun id hid=>?_⟩
 rcases k.at_ id hid with k1 | k1 | ⟨g,g',k1,k2,k3⟩
 ·exact .inl k1
 ·rw[k1];exact h.at_ id hid
 ·rcases h.at_ id hid with h1 | h1 | ⟨g0,g1,h1,h2,h3⟩
  ·rw[k1] at h1;cases h1
  ·exact .inr (.inr ⟨g,g',h1▸k1,k2,k3⟩)
  ·rw[k1] at h2;cases h2;exact .inr (.inr ⟨g0,g',h1,k2,by omega⟩)
def Bo (ro:Option Nat) (B:Nat) (FP:Nat→List Nat) (w:World):Prop:=B≤w.heap.size∧∀l,ro=some l→∃r,w.heap[l]?=some (.loop r)∧∀id,l∉FP id
theorem Bo.evo {ro:Option Nat} {B:Nat} {Z Z' : Nat→Prop} {FP FP' : Nat→List Nat} {w w' : World} (h:Bo ro B FP w) (hE:Evo Z FP w Z' FP' w'):Bo ro B FP' w':=by
 refine ⟨Nat.le_trans h.1 hE.size,fun l hl=>?_⟩
 obtain ⟨r,h1,h2⟩:=h.2 l hl
 have hlt:l<w.heap.size:=(Array.getElem?_eq_some_iff.1 h1).1
 refine ⟨r,(hE.keep l hlt h2).trans h1,fun id hc=>?_⟩
 rcases hE.fnew id l hc with k | ⟨id',k⟩
 ·omega
 ·exact h2 id' k
def HW (P:Program) (N L:Nat) (c:Code) (Q:Exit→(Nat→HV)→Heap→Prop) (T:Nat→HV) (H:Heap):Prop :=
 ∀ro n B Z G FP ds a w,Bo ro B FP w→L≤G.length→St N B Z G FP ds T H a w→c.wpIn (Wd ro) n P (fun e a' w'=>∃T' H' Z' G' FP' ds',Q e T' H'∧St N B Z' G' FP' ds' T' H' a' w'∧GLt L G G'∧Evo Z FP w Z' FP' w') a w
def fin (Qn:(Nat→HV)→Heap→Prop) (Q:Exit→(Nat→HV)→Heap→Prop):Exit→(Nat→HV)→Heap→Prop
 | .normal=>Qn
 | e=>Q e
section rules
variable {P:Program} {N L:Nat} {Q:Exit→(Nat→HV)→Heap→Prop} {T:Nat→HV} {H:Heap}
theorem HW.mono {c:Code} {Q' : Exit→(Nat→HV)→Heap→Prop} (h:HW P N L c Q T H) (hq:∀e T H,Q e T H→Q' e T H):HW P N L c Q' T H:=by
 intro ro n B Z G FP ds a w hB hL hs
 refine wpIn_mono (h ro n B Z G FP ds a w hB hL hs) ?_
 rintro e a' w' ⟨T',H',Z',G',FP',ds',h1,h2⟩
 exact ⟨T',H',Z',G',FP',ds',hq _ _ _ h1,h2⟩
theorem HW.skip (h:Q .normal T H):HW P N L .skip Q T H :=
 fun ro n B Z G FP ds a w _ hL hs=>wpIn_skip ⟨T,H,Z,G,FP,ds,h,hs,GLt.refl hL,Evo.refl _ _ _⟩
theorem HW.label {l:Nat} (h:Q .normal T H):HW P N L (.label l) Q T H :=
 fun ro n B Z G FP ds a w _ hL hs=>wpIn_label ⟨T,H,Z,G,FP,ds,h,hs,GLt.refl hL,Evo.refl _ _ _⟩
theorem HW.exit {l:Nat} (h:Q (.exit l) T H):HW P N L (.exit l) Q T H :=
 fun ro n B Z G FP ds a w _ hL hs=>wpIn_exit ⟨T,H,Z,G,FP,ds,h,hs,GLt.refl hL,Evo.refl _ _ _⟩
theorem HW.goto {l:Nat} (h:Q (.goto l) T H):HW P N L (.goto l) Q T H :=
 fun ro n B Z G FP ds a w _ hL hs=>wpIn_goto ⟨T,H,Z,G,FP,ds,h,hs,GLt.refl hL,Evo.refl _ _ _⟩
theorem HW.ret (h:Q .ret T H):HW P N L .ret Q T H :=
 fun ro n B Z G FP ds a w _ hL hs=>wpIn_ret ⟨T,H,Z,G,FP,ds,h,hs,GLt.refl hL,Evo.refl _ _ _⟩
theorem HW.seq {x y:Code} (h:HW P N L x (fin (HW P N L y Q) Q) T H):HW P N L (.seq x y) Q T H:=by
 intro ro n B Z G FP ds a w hB hL hs
 refine wpIn_seq (wpIn_mono (h ro n B Z G FP ds a w hB hL hs) ?_)
 rintro e a' w' ⟨T',H',Z',G',FP',ds',h1,h2,h3,h4⟩
 cases e with
 | normal =>
  refine wpIn_mono (h1 ro n B Z' G' FP' ds' a' w' (hB.evo h4) h3.len h2) ?_
  rintro e a'' w'' ⟨T'',H'',Z'',G'',FP'',ds'',k1,k2,k3,k4⟩
  exact ⟨T'',H'',Z'',G'',FP'',ds'',k1,k2,h3.trans k3,h4.trans k4⟩
 | exit id=>exact ⟨T',H',Z',G',FP',ds',h1,h2,h3,h4⟩
 | goto l=>exact ⟨T',H',Z',G',FP',ds',h1,h2,h3,h4⟩
 | ret=>exact ⟨T',H',Z',G',FP',ds',h1,h2,h3,h4⟩
 | panic ch=>exact ⟨T',H',Z',G',FP',ds',h1,h2,h3,h4⟩
 | outgrown=>exact ⟨T',H',Z',G',FP',ds',h1,h2,h3,h4⟩
def inB (l:Nat) (Q:Exit→(Nat→HV)→Heap→Prop):Exit→(Nat→HV)→Heap→Prop
 | .exit l',T,H=>if l'=l then Q .normal T H else Q (.exit l') T H
 | e,T,H=>Q e T H
theorem HW.block {l:Nat} {c:Code} (h:HW P N L c (inB l Q) T H):HW P N L (.block l c) Q T H:=by
 intro ro n B Z G FP ds a w hB hL hs
 refine wpIn_block (wpIn_mono (h ro n B Z G FP ds a w hB hL hs) ?_)
 rintro e a' w' ⟨T',H',Z',G',FP',ds',h1,h2,h3,h4⟩
 cases e with
 | normal=>exact ⟨T',H',Z',G',FP',ds',h1,h2,h3,h4⟩
 | exit id =>
  simp only[inB] at h1
  simp only[Exit.inBlock]
  split at h1
  ·rename_i hid;rw[if_pos hid];exact ⟨T',H',Z',G',FP',ds',h1,h2,h3,h4⟩
  ·rename_i hid;rw[if_neg hid];exact ⟨T',H',Z',G',FP',ds',h1,h2,h3,h4⟩
 | goto l=>exact ⟨T',H',Z',G',FP',ds',h1,h2,h3,h4⟩
 | ret=>exact ⟨T',H',Z',G',FP',ds',h1,h2,h3,h4⟩
 | panic ch=>exact ⟨T',H',Z',G',FP',ds',h1,h2,h3,h4⟩
 | outgrown=>exact ⟨T',H',Z',G',FP',ds',h1,h2,h3,h4⟩
end rules
section eval
variable {N B:Nat} {Z:Nat→Prop} {G:List (Option OG)} {FP:Nat→List Nat} {ds:List Nat} {T:Nat→HV} {H:Heap} {a:Act} {w:World}
theorem zQh (Z:Nat→Prop) (G:List (Option OG)) (w:World):∀xs:List Value,RL Z G w (xs.map HV.v) xs []
 | []=>by simp[RL]
 | x::xs=>by
  simp only[List.map_cons,RL]
  exact ⟨x,xs,[],[],rfl,rfl,by simp[RV],zQh Z G w xs⟩
theorem zON (x:Value):RV Z G w (cHV x) x []:=by
 unfold cHV
 split
 ·simp only[RV];exact ⟨_,rfl,zQh Z G w _⟩
 ·simp[RV]
def zBJ (N:Nat):Operand→Bool
 | .tmp t=>decide (t<N)
 | _=>true
theorem St.hev (h:St N B Z G FP ds T H a w) (x:Operand) (hx:zBJ N x=true):RV Z G w (hev T x) (a.eval x) []:=by
 cases x with
 | tmp t=>exact h.tmps t (of_decide_eq_true hx)
 | const v=>exact zON v
 | global g =>
  simp only[Go.Proofs.YtoknohandclcbaaGreat.hev]
  split
  ·rename_i hg
   obtain ⟨h1,a',c,t,h2,h3,h4⟩:=h.inv.glob.err g hg
   simp only[RV]
   refine ⟨trivial,g,0,by simp[Act.eval],h1,fun r hr=>?_,?_⟩
   ·obtain rfl:=List.mem_singleton.1 hr;rfl
   ·simp only[RR,RC,RV]
    refine ⟨[],[],by simp,⟨_,[],[],by simp,h2,rfl,⟨by simp,_,rfl,by simp,h1,rfl,_,h2⟩,by simp⟩,by simp⟩
  ·simp[RV]
 | func f =>
  simp only[Go.Proofs.YtoknohandclcbaaGreat.hev]
  split
  ·rename_i h;simp[RV,Act.eval,RL,zKT h]
  ·simp[RV]
theorem St.cond {c:Operand} {t:Bool} (h:St N B Z G FP ds T H a w) (hx:zBJ N c=true) (hc:Go.Proofs.YtoknohandclcbaaGreat.hev T c=.v (.bool t)):a.eval c=.bool t:=by
 have:=h.hev c hx
 rw[hc] at this
 simpa [RV] using this
theorem St.put (h:St N B Z G FP ds T H a w) {x:HV} {y:Value} (hv:RV Z G w x y []) (d:Option Nat) (hd:∀i,d=some i→i<N):St N B Z G FP ds (updO T d x) H (a.put d y) w:=by
 cases d with
 | none=>exact h
 | some i =>
  have hi:=hd i rfl
  refine ⟨h.inv,by simp[Act.put,h.size],fun j hj=>?_,h.defers,h.dsn,h.dsat⟩
  simp only[updO,upd,Act.put]
  by_cases e:j=i
  ·subst e
   rw[if_pos rfl]
   simpa [Array.getD_eq_getD_getElem?,h.size,hj] using hv
  ·rw[if_neg e]
   have:=h.tmps j hj
   simpa [Array.getD_eq_getD_getElem?,Array.getElem?_setIfInBounds_ne (Ne.symm e)] using this
end eval
section rules2
variable {P:Program} {N L:Nat} {Q:Exit→(Nat→HV)→Heap→Prop} {T:Nat→HV} {H:Heap}
theorem HW.cond {c:Operand} {x y:Code} {t:Bool} (hx:zBJ N c=true) (hc:hev T c=.v (.bool t)) (h1:t=true→HW P N L x Q T H) (h2:t=false→HW P N L y Q T H):HW P N L (.cond c x y) Q T H:=by
 intro ro n B Z G FP ds a w hB hL hs
 have he:=hs.cond hx hc
 cases t with
 | true=>exact wpIn_cond he (h1 rfl ro n B Z G FP ds a w hB hL hs)
 | false=>exact wpIn_cond he (h2 rfl ro n B Z G FP ds a w hB hL hs)
theorem zR {p:Nat→Prop} (h:∃k,p k):∃k,p k∧∀j,p j→k≤j:=by
 obtain ⟨k,hk⟩:=h
 induction k using Nat.strongRecOn with
 | _ k ih =>
  by_cases e:∃j,j<k∧p j
  ·obtain ⟨j,hj,hp⟩:=e
   exact ih j hj hp
  ·refine ⟨k,hk,fun j hj=>?_⟩
   rcases Nat.lt_or_ge j k with h1 | h1
   ·exact absurd ⟨j,h1,hj⟩ e
   ·exact h1
theorem HW.loop {c:Code} (I:Nat→(Nat→HV)→Heap→Prop) (k0:Nat) (h0:I k0 T H)
  (round:∀k T H,I k T H→HW P N L c (fin (fun T' H'=>∃k',k' < k∧I k' T' H') Q) T H):HW P N L (.loop c) Q T H:=by
 intro ro n B Z G FP ds a w hB hL hs
 classical
 let J:Nat→Act→World→Prop:=fun k a' w'=>∃T' H' Z' G' FP' ds',I k T' H'∧St N B Z' G' FP' ds' T' H' a' w'∧GLt L G G'∧Evo Z FP w Z' FP' w'
 let μ:Act→World→Nat:=fun a' w'=>if h:∃k,J k a' w' then Classical.choose (zR h) else 0
 refine wpIn_loop (fun a' w'=>∃k,J k a' w') μ ⟨k0,T,H,Z,G,FP,ds,h0,hs,GLt.refl hL,Evo.refl _ _ _⟩ ?_
 intro a1 w1 hJ
 have hμ:μ a1 w1=Classical.choose (zR hJ):=by simp only[μ];rw[dif_pos hJ]
 obtain ⟨T1,H1,Z1,G1,FP1,ds1,hI,hs1,hG1,hE1⟩:=(Classical.choose_spec (zR hJ)).1
 refine wpIn_mono (round _ T1 H1 hI ro n B Z1 G1 FP1 ds1 a1 w1 (hB.evo hE1) hG1.len hs1) ?_
 rintro e a' w' ⟨T',H',Z',G',FP',ds',h1,h2,h3,h4⟩
 cases e with
 | normal =>
  obtain ⟨k',hk',hI'⟩:=h1
  have hJ' : J k' a' w':=⟨T',H',Z',G',FP',ds',hI',h2,hG1.trans h3,hE1.trans h4⟩
  refine ⟨⟨k',hJ'⟩,?_⟩
  rw[hμ]
  have e:∃k,J k a' w':=⟨k',hJ'⟩
  have:μ a' w'=Classical.choose (zR e):=by simp only[μ];rw[dif_pos e]
  rw[this]
  exact Nat.lt_of_le_of_lt ((Classical.choose_spec (zR e)).2 _ hJ') hk'
 | exit id=>exact ⟨T',H',Z',G',FP',ds',h1,h2,hG1.trans h3,hE1.trans h4⟩
 | goto l=>exact ⟨T',H',Z',G',FP',ds',h1,h2,hG1.trans h3,hE1.trans h4⟩
 | ret=>exact ⟨T',H',Z',G',FP',ds',h1,h2,hG1.trans h3,hE1.trans h4⟩
 | panic ch=>exact ⟨T',H',Z',G',FP',ds',h1,h2,hG1.trans h3,hE1.trans h4⟩
 | outgrown=>exact ⟨T',H',Z',G',FP',ds',h1,h2,hG1.trans h3,hE1.trans h4⟩
end rules2
end Go.Proofs.YtoknohandclcbaaGreat
namespace Go.Proofs.YtoknohandclcbaaGreat
open Go.RowKit
section lists
variable {Z:Nat→Prop} {G:List (Option OG)} {w:World}
theorem zZ:∀(l1 l2:List HV) (ys:List Value) (fp:List Nat),RL Z G w (l1++l2) ys fp↔∃y1 y2 f1 f2,ys=y1++y2∧fp=f1++f2∧RL Z G w l1 y1 f1∧RL Z G w l2 y2 f2
 | [],l2,ys,fp=>by
  simp only[List.nil_append,RL]
  constructor
  ·intro h;exact ⟨[],ys,[],fp,rfl,rfl,⟨rfl,rfl⟩,h⟩
  ·rintro ⟨y1,y2,f1,f2,rfl,rfl,⟨rfl,rfl⟩,h⟩;exact h
 | h::t,l2,ys,fp=>by
  simp only[List.cons_append,RL]
  constructor
  ·rintro ⟨y,ys',f1,f2,rfl,rfl,h1,h2⟩
   obtain ⟨y1,y2,g1,g2,rfl,rfl,h3,h4⟩:=(zZ t l2 ys' f2).1 h2
   exact ⟨y::y1,y2,f1++g1,g2,rfl,by simp,⟨y,y1,f1,g1,rfl,rfl,h1,h3⟩,h4⟩
  ·rintro ⟨y1,y2,f1,f2,rfl,rfl,⟨y,y1',g1,g2,rfl,rfl,h1,h3⟩,h4⟩
   exact ⟨y,y1'++y2,g1,g2++f2,rfl,by simp,h1,(zZ t l2 _ _).2 ⟨y1',y2,g2,f2,rfl,rfl,h3,h4⟩⟩
theorem zS:∀(l:List HV) (ys:List Value) (fp:List Nat),RL Z G w l ys fp→ys.length=l.length
 | [],ys,fp,h=>by simp only[RL] at h;simp[h.1]
 | h::t,ys,fp,hr=>by
  simp only[RL] at hr
  obtain ⟨y,ys',f1,f2,rfl,rfl,h1,h2⟩:=hr
  simp[zS t ys' f2 h2]
theorem zOS:∀(l:List HV) (ys:List Value) (fp:List Nat),RL Z G w l ys fp→∀(i:Nat) (h:HV),l[i]?=some h→∃y f,ys[i]?=some y∧RV Z G w h y f∧f.Sublist fp
 | [],ys,fp,_,i,h,hi=>by simp at hi
 | h::t,ys,fp,hr,i,x,hi=>by
  simp only[RL] at hr
  obtain ⟨y,ys',f1,f2,rfl,rfl,h1,h2⟩:=hr
  cases i with
  | zero=>simp at hi;subst hi;exact ⟨y,f1,rfl,h1,List.sublist_append_left _ _⟩
  | succ i =>
   obtain ⟨z,f,hz,hv,hs⟩:=zOS t ys' f2 h2 i x (by simpa using hi)
   exact ⟨z,f,by simpa using hz,hv,hs.trans (List.sublist_append_right _ _)⟩
theorem zOT {b:Nat} {cells:Array Value} {e:TypeId} {fz:Nat×Nat} (hb:w.heap[b]?=some (.cells cells e fz)):∀(l:List HV) (k:Nat) (fp:List Nat),k≤cells.size→
  (RC Z G w l b k fp↔(k+l.length≤cells.size∧RL Z G w l ((cells.toList.drop k).take l.length) fp∧∀y∈(cells.toList.drop k).take l.length,y.oneCell'=true))
 | [],k,fp,hk=>by simp[RC,RL,hk]
 | h::t,k,fp,hk=>by
  have hc:w.cell? ⟨b,k,none⟩=cells[k]?:=cell_of_row w b k cells e fz hb
  simp only[RC,hc]
  constructor
  ·rintro ⟨y,f1,f2,rfl,hy,h1,h2,h3⟩
   have hlt:k<cells.size:=(Array.getElem?_eq_some_iff.1 hy).1
   obtain ⟨h4,h5,h6⟩:=(zOT hb t (k+1) f2 hlt).1 h3
   have hd:cells.toList.drop k=y::cells.toList.drop (k+1):=by
    rw[List.drop_eq_getElem_cons (by simpa using hlt)]
    congr 1
    have:=(Array.getElem?_eq_some_iff.1 hy).2
    simpa using this
   refine ⟨by simp;omega,?_,?_⟩
   ·rw[hd];simp only[List.length_cons,List.take_succ_cons,RL];exact ⟨y,_,f1,f2,rfl,rfl,h2,h5⟩
   ·rw[hd];simp only[List.length_cons,List.take_succ_cons,List.mem_cons];rintro z (rfl | hz)
    ·exact h1
    ·exact h6 z hz
  ·rintro ⟨h4,h5,h6⟩
   simp only[List.length_cons] at h4 h5 h6
   have hlt:k<cells.size:=by omega
   have hd:cells.toList.drop k=cells[k]::cells.toList.drop (k+1):=by
    rw[List.drop_eq_getElem_cons (by simpa using hlt)]
    simp
   rw[hd] at h5 h6
   simp only[List.take_succ_cons,RL] at h5
   obtain ⟨y,ys',f1,f2,he,rfl,h7,h8⟩:=h5
   simp only[List.cons.injEq] at he
   obtain ⟨rfl,rfl⟩:=he
   refine ⟨_,f1,f2,rfl,by simp[hlt],h6 _ (by simp),h7,(zOT hb t (k+1) f2 hlt).2 ⟨by omega,h8,fun z hz=>h6 z (by simp only[List.take_succ_cons,List.mem_cons];exact .inr hz)⟩⟩
theorem zCV {b:Nat} {cells:Array Value} {e:TypeId} {fz:Nat×Nat} (hb:w.heap[b]?=some (.cells cells e fz)):∀(l:List (List HV)) (k:Nat) (fp:List Nat),k≤cells.size→
  (RR Z G w l b k fp↔(k+l.flatten.length≤cells.size∧RL Z G w l.flatten ((cells.toList.drop k).take l.flatten.length) fp∧∀y∈(cells.toList.drop k).take l.flatten.length,y.oneCell'=true))
 | [],k,fp,hk=>by simp[RR,RL,hk]
 | r::t,k,fp,hk=>by
  simp only[RR]
  constructor
  ·rintro ⟨f1,f2,rfl,h1,h2⟩
   obtain ⟨h3,h4,h5⟩:=(zOT hb r k f1 hk).1 h1
   obtain ⟨h6,h7,h8⟩:=(zCV hb t (k+r.length) f2 h3).1 h2
   have e:(cells.toList.drop k).take (r++t.flatten).length=(cells.toList.drop k).take r.length++(cells.toList.drop (k+r.length)).take t.flatten.length:=by
    rw[List.length_append,List.take_add,List.drop_drop]
   simp only[List.flatten_cons]
   refine ⟨by simp only[List.length_append];omega,?_,?_⟩
   ·rw[e];exact (zZ _ _ _ _).2 ⟨_,_,f1,f2,rfl,rfl,h4,h7⟩
   ·rw[e];intro y hy;rcases List.mem_append.1 hy with hy | hy
    ·exact h5 y hy
    ·exact h8 y hy
  ·rintro ⟨h6,h7,h8⟩
   simp only[List.flatten_cons] at h6 h7 h8
   have e:(cells.toList.drop k).take (r++t.flatten).length=(cells.toList.drop k).take r.length++(cells.toList.drop (k+r.length)).take t.flatten.length:=by
    rw[List.length_append,List.take_add,List.drop_drop]
   rw[List.length_append] at h6
   rw[e] at h7 h8
   obtain ⟨y1,y2,f1,f2,he,rfl,h9,h10⟩:=(zZ _ _ _ _).1 h7
   have hl1:=zS _ _ _ h9
   have hl0:((cells.toList.drop k).take r.length).length=r.length:=by simp;omega
   obtain ⟨rfl,rfl⟩:=List.append_inj he (by rw[hl0,hl1])
   exact ⟨f1,f2,rfl,(zOT hb r k f1 hk).2 ⟨by omega,h9,fun z hz=>h8 z (List.mem_append_left _ hz)⟩,(zCV hb t (k+r.length) f2 (by omega)).2 ⟨by omega,h10,fun z hz=>h8 z (List.mem_append_right _ hz)⟩⟩
mutual
def tv:HV→Bool
 | .ow ..=>false
 | .bx ..=>false
 | .om ..=>false
 | .ag cs=>tvs cs
 | .tu cs=>tvs cs
 | .fn _ cs=>tvs cs
 | _=>true
def tvs:List HV→Bool
 | []=>true
 | h::t=>tv h && tvs t
end
mutual
theorem zCt:∀(h:HV) (y:Value) (fp:List Nat),tv h=true→RV Z G w h y fp→fp=[]
 | .any,y,fp,_,h=>by simpa only[RV] using h
 | .v x,y,fp,_,h=>by simp only[RV] at h;exact h.1
 | .sl rows,y,fp,_,h=>by simp only[RV] at h;exact h.1
 | .ow ..,y,fp,h,_=>by simp[tv] at h
 | .hd ..,y,fp,_,h=>by simp only[RV] at h;exact h.1
 | .pt ..,y,fp,_,h=>by simp only[RV] at h;exact h.1
 | .fp ..,y,fp,_,h=>by simp only[RV] at h;exact h.1
 | .ag cs,y,fp,ht,h=>by simp only[RV] at h;obtain ⟨ys,_,h⟩:=h;exact zDX cs _ fp (by simpa [tv] using ht) h
 | .tu cs,y,fp,ht,h=>by simp only[RV] at h;obtain ⟨ys,_,h⟩:=h;exact zDX cs _ fp (by simpa [tv] using ht) h
 | .fn f cs,y,fp,ht,h=>by simp only[RV] at h;obtain ⟨ys,_,h⟩:=h;exact zDX cs _ fp (by simpa [tv] using ht) h
 | .bx ..,y,fp,h,_=>by simp[tv] at h
 | .ic t x,y,fp,_,h=>by simp only[RV] at h;exact h.1
 | .ob _,y,fp,_,h=>by simp only[RV] at h
 | .mp _,y,fp,_,h=>by simp only[RV] at h;exact h.1
 | .om ..,y,fp,h,_=>by simp[tv] at h
 | .yl _,y,fp,_,h=>by simp only[RV] at h;exact h.1
 | .gv _,y,fp,_,h=>by simp only[RV] at h;exact h.1
theorem zDX:∀(l:List HV) (ys:List Value) (fp:List Nat),tvs l=true→RL Z G w l ys fp→fp=[]
 | [],ys,fp,_,h=>by simp only[RL] at h;exact h.2
 | h::t,ys,fp,ht,hr=>by
  simp only[tvs,Bool.and_eq_true] at ht
  simp only[RL] at hr
  obtain ⟨y,ys',f1,f2,rfl,rfl,h1,h2⟩:=hr
  rw[zCt h y f1 ht.1 h1,zDX t ys' f2 ht.2 h2];rfl
end
theorem zAr:∀(l:List HV) (ys:List Value) (fp:List Nat) (o:Nat),RL Z G w l ys fp→∃f1 f2,fp=f1++f2∧RL Z G w (l.take o) (ys.take o) f1∧RL Z G w (l.drop o) (ys.drop o) f2
 | l,ys,fp,0,h=>⟨[],fp,rfl,by simp[RL],by simpa using h⟩
 | [],ys,fp,o+1,h=>by
  simp only[RL] at h
  obtain ⟨rfl,rfl⟩:=h
  exact ⟨[],[],rfl,by simp[RL],by simp[RL]⟩
 | h::t,ys,fp,o+1,hr=>by
  simp only[RL] at hr
  obtain ⟨y,ys',f1,f2,rfl,rfl,h1,h2⟩:=hr
  obtain ⟨g1,g2,rfl,h3,h4⟩:=zAr t ys' f2 o h2
  refine ⟨f1++g1,g2,by simp,?_,by simpa using h4⟩
  simp only[List.take_succ_cons,RL]
  exact ⟨y,_,f1,g1,rfl,rfl,h1,h3⟩
theorem z4N {l:List HV} {ys:List Value} {fp:List Nat} (h:RL Z G w l ys fp) (o n:Nat) (ht:tvs ((l.drop o).take n)=true):RL Z G w ((l.drop o).take n) ((ys.drop o).take n) []:=by
 obtain ⟨f1,f2,rfl,_,h2⟩:=zAr l ys fp o h
 obtain ⟨f3,f4,rfl,h3,_⟩:=zAr _ _ f2 n h2
 have:f3=[]:=zDX _ _ _ ht h3
 subst this
 exact h3
theorem zAq {sz:Nat}:∀(rows:List (List HV)),(∀r∈rows,r.length=sz)→rows.flatten.length=rows.length*sz
 | [],_=>by simp
 | r::t,h=>by
  simp only[List.flatten_cons,List.length_append,List.length_cons]
  rw[zAq t (fun x hx=>h x (by simp[hx])),h r (by simp),Nat.add_mul]
  omega
theorem zG0 {sz:Nat}:∀(rows:List (List HV)) (i:Nat),(∀r∈rows,r.length=sz)→rows.flatten.take (i*sz)=(rows.take i).flatten
 | [],i,_=>by simp
 | r::t,0,h=>by simp
 | r::t,i+1,h=>by
  simp only[List.flatten_cons,List.take_succ_cons]
  rw[←zG0 t i (fun x hx=>h x (by simp[hx]))]
  have:=h r (by simp)
  rw[List.take_append,this,List.take_of_length_le (by rw[this,Nat.add_mul];omega)]
  congr 2
  rw[Nat.add_mul];omega
theorem zG1 {sz:Nat}:∀(rows:List (List HV)) (i:Nat),(∀r∈rows,r.length=sz)→rows.flatten.drop (i*sz)=(rows.drop i).flatten
 | [],i,_=>by simp
 | r::t,0,h=>by simp
 | r::t,i+1,h=>by
  simp only[List.flatten_cons,List.drop_succ_cons]
  rw[←zG1 t i (fun x hx=>h x (by simp[hx]))]
  have:=h r (by simp)
  rw[List.drop_append,this,List.drop_of_length_le (by rw[this,Nat.add_mul];omega)]
  simp only[List.nil_append]
  congr 1
  rw[Nat.add_mul];omega
theorem zNv {sz:Nat} (rows:List (List HV)) (i:Nat) (row cs:List HV) (o:Nat) (h:∀r∈rows,r.length=sz) (hi:rows[i]?=some row) (ho:o+cs.length≤sz) :
  (rows.set i (row.take o++cs++row.drop (o+cs.length))).flatten=rows.flatten.take (i*sz+o)++cs++rows.flatten.drop (i*sz+o+cs.length):=by
 have hlt:i<rows.length:=(List.getElem?_eq_some_iff.1 hi).1
 have hr:rows[i]=row:=(List.getElem?_eq_some_iff.1 hi).2
 have hl:row.length=sz:=h row (hr▸List.getElem_mem hlt)
 have e1:rows.flatten.take (i*sz+o)=(rows.take i).flatten++row.take o:=by
  rw[List.take_add,zG0 rows i h,zG1 rows i h,List.drop_eq_getElem_cons hlt,hr,List.flatten_cons,List.take_append_of_le_length (by omega)]
 have e2:rows.flatten.drop (i*sz+o+cs.length)=row.drop (o+cs.length)++(rows.drop (i+1)).flatten:=by
  rw[Nat.add_assoc,←List.drop_drop,zG1 rows i h,List.drop_eq_getElem_cons hlt,hr,List.flatten_cons,List.drop_append_of_le_length (by omega)]
 rw[e1,e2,List.set_eq_take_append_cons_drop,if_pos hlt]
 simp[List.append_assoc]
end lists
end Go.Proofs.YtoknohandclcbaaGreat
namespace Go.Proofs.YtoknohandclcbaaGreat
open Go.RowKit
section turn
variable {Z Z' : Nat→Prop} {G G' : List (Option OG)} {FP FP' : Nat→List Nat} {H H' : Heap} {w w' : World} {N B:Nat} {ds:List Nat} {T:Nat→HV} {a:Act}
theorem GLe.set {id:Nat} {g g' : OG} (hg:G[id]?=some (some g)) (h:g'=g∨g.n<g'.n):GLe G (G.set id (some g')):=by
 refine ⟨by simp,fun j hj=>?_⟩
 by_cases e:id=j
 ·subst e
  rcases h with rfl | h
  ·exact .inr (.inl (by rw[List.getElem?_set_self hj,hg]))
  ·exact .inr (.inr ⟨g,g',hg,by simp[hj],h⟩)
 ·exact .inr (.inl (by simp[List.getElem?_set,e]))
theorem GLe.kill (id:Nat):GLe G (G.set id none):=by
 refine ⟨by simp,fun j hj=>?_⟩
 by_cases e:id=j
 ·subst e;exact .inl (by simp[hj])
 ·exact .inr (.inl (by simp[List.getElem?_set,e]))
theorem GLe.more (l:List (Option OG)):GLe G (G++l) :=
 ⟨by simp,fun j hj=>.inr (.inl (by rw[List.getElem?_append_left hj]))⟩
theorem HInv.lt (h:HInv Z G FP H w) {id:Nat} {o:HObj} (ho:H[id]?=some (some o)):id<G.length:=by
 rw[h.len];exact (List.getElem?_eq_some_iff.1 ho).1
theorem HInv.turn (h:HInv Z G FP H w) {id:Nat} {o o' : HObj} {g g' : OG} {fp' : List Nat} (ho:H[id]?=some (some o)) (hg:G[id]?=some (some g)) (hgg:g'=g∨g.n<g'.n)
  (hsz:w.heap.size≤w'.heap.size) (hk:∀b,b<w.heap.size→b∉FP id→w'.heap[b]?=w.heap[b]?) (hob:OB Z (G.set id (some g')) w' o' g' fp') (hnd:fp'.Nodup)
  (hfp:∀b∈fp',¬Z b∧b<w'.heap.size∧∀j,j≠id→b∉FP j) :
  HInv Z (G.set id (some g')) (fun j=>if j=id then fp' else FP j) (H.set id (some o')) w':=by
 have hlt:=h.lt ho
 have hltH:id<H.length:=h.len▸hlt
 refine ⟨by simp[h.len],fun j hj=>?_,fun j hj=>?_,fun j oj hj=>?_,fun j=>?_,fun i j b hi hj=>?_,fun b hb=>Nat.lt_of_lt_of_le (h.zlt b hb) hsz,fun j b hb=>?_,fun j b hb=>?_,h.glob.keep (fun _ h=>h) (fun b hb=>hk b (h.zlt b hb) (fun hc=>h.zfp id b hc hb))⟩
 ·by_cases e:id=j
  ·subst e;simp[hltH] at hj
  ·rw[List.getElem?_set_ne e] at hj⊢;exact h.dead j hj
 ·by_cases e:j=id
  ·subst e;exact absurd (by simp[hltH]) (hj o')
  ·simp only[if_neg e];exact h.nofp j (fun x=>by have:=hj x;rwa [List.getElem?_set_ne (Ne.symm e)] at this)
 ·by_cases e:j=id
  ·subst e
   simp[hltH] at hj
   subst hj
   exact ⟨g',by simp[hlt],by simpa using hob⟩
  ·rw[List.getElem?_set_ne (Ne.symm e)] at hj⊢
   obtain ⟨gj,hgj,hoj⟩:=h.live j oj hj
   refine ⟨gj,hgj,?_⟩
   simp only[if_neg e]
   exact hoj.keep (fun b hb=>hk b (h.zlt b hb) (fun hc=>h.zfp id b hc hb)) (fun _ h=>h) (GLe.set hg hgg) (fun b hb=>hk b (h.flt j b hb) (fun hc=>e (h.disj j id b hb hc)))
 ·by_cases e:j=id
  ·simp only[if_pos e];exact hnd
  ·simp only[if_neg e];exact h.nodup j
 ·by_cases e1:i=id <;> by_cases e2:j=id
  ·rw[e1,e2]
  ·simp only[if_pos e1] at hi;simp only[if_neg e2] at hj;exact absurd hj ((hfp b hi).2.2 j e2)
  ·simp only[if_neg e1] at hi;simp only[if_pos e2] at hj;exact absurd hi ((hfp b hj).2.2 i e1)
  ·simp only[if_neg e1] at hi;simp only[if_neg e2] at hj;exact h.disj i j b hi hj
 ·by_cases e:j=id
  ·simp only[if_pos e] at hb;exact (hfp b hb).2.1
  ·simp only[if_neg e] at hb;exact Nat.lt_of_lt_of_le (h.flt j b hb) hsz
 ·by_cases e:j=id
  ·simp only[if_pos e] at hb;exact (hfp b hb).1
  ·simp only[if_neg e] at hb;exact h.zfp j b hb
theorem zBw {id:Nat} {fp' : List Nat} (ho:w'.os=w.os) (ht:w'.tape=w.tape) (hout:w'.output=w.output) (hsz:w.heap.size≤w'.heap.size) (hk:∀b,b<w.heap.size→b∉FP id→w'.heap[b]?=w.heap[b]?)
  (hfp:∀b∈fp',w.heap.size≤b∨∃j,b∈FP j):Evo Z FP w Z (fun j=>if j=id then fp' else FP j) w':=by
 refine ⟨ho,ht,hout,hsz,fun b hb hf=>hk b hb (hf id),fun _ h=>h,fun _ h=>.inl h,fun j b hb=>?_⟩
 by_cases e:j=id
 ·simp only[if_pos e] at hb;exact hfp b hb
 ·simp only[if_neg e] at hb;exact .inr ⟨j,hb⟩
theorem HInv.new (h:HInv Z G FP H w) {o:HObj} {g:OG} {fp:List Nat} (hsz:w.heap.size≤w'.heap.size) (hk:∀b,b<w.heap.size→w'.heap[b]?=w.heap[b]?)
  (hob:OB Z (G++[some g]) w' o g fp) (hnd:fp.Nodup) (hfp:∀b∈fp,¬Z b∧b<w'.heap.size∧∀j,b∉FP j) :
  HInv Z (G++[some g]) (fun j=>if j=H.length then fp else FP j) (H++[some o]) w':=by
 have hself:FP H.length=[]:=h.nofp _ (by simp)
 refine ⟨by simp[h.len],fun j hj=>?_,fun j hj=>?_,fun j oj hj=>?_,fun j=>?_,fun i j b hi hj=>?_,fun b hb=>Nat.lt_of_lt_of_le (h.zlt b hb) hsz,fun j b hb=>?_,fun j b hb=>?_,h.glob.keep (fun _ h=>h) (fun b hb=>hk b (h.zlt b hb))⟩
 ·rw[List.getElem?_append] at hj
  split at hj
  ·rename_i hlt;rw[List.getElem?_append_left (by rw[h.len];exact hlt)];exact h.dead j hj
  ·rename_i hlt
   cases hc:j-H.length with
   | zero=>rw[hc] at hj;simp at hj
   | succ m=>rw[hc] at hj;simp at hj
 ·by_cases e:j=H.length
  ·subst e;exact absurd (by simp) (hj o)
  ·simp only[if_neg e]
   refine h.nofp j (fun x hx=>hj x ?_)
   rw[List.getElem?_append_left (List.getElem?_eq_some_iff.1 hx).1];exact hx
 ·rw[List.getElem?_append] at hj
  split at hj
  ·rename_i hlt
   have e:j≠H.length:=by omega
   obtain ⟨gj,hgj,hoj⟩:=h.live j oj hj
   refine ⟨gj,by rw[List.getElem?_append_left (by rw[h.len];exact hlt)];exact hgj,?_⟩
   simp only[if_neg e]
   exact hoj.keep (fun b hb=>hk b (h.zlt b hb)) (fun _ h=>h) (GLe.more _) (fun b hb=>hk b (h.flt j b hb))
  ·rename_i hlt
   cases hc:j-H.length with
   | zero =>
    rw[hc] at hj;simp at hj;subst hj
    have e:j=H.length:=by omega
    subst e
    exact ⟨g,by rw[←h.len];simp,by simpa using hob⟩
   | succ m=>rw[hc] at hj;simp at hj
 ·by_cases e:j=H.length
  ·simp only[if_pos e];exact hnd
  ·simp only[if_neg e];exact h.nodup j
 ·by_cases e1:i=H.length <;> by_cases e2:j=H.length
  ·rw[e1,e2]
  ·simp only[if_pos e1] at hi;simp only[if_neg e2] at hj;exact absurd hj ((hfp b hi).2.2 j)
  ·simp only[if_neg e1] at hi;simp only[if_pos e2] at hj;exact absurd hi ((hfp b hj).2.2 i)
  ·simp only[if_neg e1] at hi;simp only[if_neg e2] at hj;exact h.disj i j b hi hj
 ·by_cases e:j=H.length
  ·simp only[if_pos e] at hb;exact (hfp b hb).2.1
  ·simp only[if_neg e] at hb;exact Nat.lt_of_lt_of_le (h.flt j b hb) hsz
 ·by_cases e:j=H.length
  ·simp only[if_pos e] at hb;exact (hfp b hb).1
  ·simp only[if_neg e] at hb;exact h.zfp j b hb
theorem zG7 {id:Nat} {fp:List Nat} (hid:FP id=[]) (ho:w'.os=w.os) (ht:w'.tape=w.tape) (hout:w'.output=w.output) (hsz:w.heap.size≤w'.heap.size) (hk:∀b,b<w.heap.size→w'.heap[b]?=w.heap[b]?)
  (hfp:∀b∈fp,w.heap.size≤b):Evo Z FP w Z (fun j=>if j=id then fp else FP j) w' :=
 zBw ho ht hout hsz (fun b hb _=>hk b hb) (fun b hb=>.inl (hfp b hb))
theorem St.evo (h:St N B Z G FP ds T H a w) (hi:HInv Z' G' FP' H' w') (hG:GLe G G') (hE:Evo Z FP w Z' FP' w'):St N B Z' G' FP' ds T H' a w':=by
 have hZk:∀b,Z b→w'.heap[b]?=w.heap[b]?:=fun b hb=>hE.keep b (h.inv.zlt b hb) (fun id hc=>h.inv.zfp id b hc hb)
 refine ⟨hi,h.size,fun i hi'=>RV.nil_keep hZk hE.zle hG (h.tmps i hi'),h.defers,h.dsn,fun d hd=>?_⟩
 obtain ⟨h1,h2,h3,h4⟩:=h.dsat d hd
 have hlt:d<w.heap.size:=(Array.getElem?_eq_some_iff.1 h2).1
 refine ⟨h1,(hE.keep d hlt h4).trans h2,fun hc=>?_,fun id hc=>?_⟩
 ·rcases hE.znew d hc with k | k | ⟨id,k⟩
  ·exact h3 k
  ·omega
  ·exact h4 id k
 ·rcases hE.fnew id d hc with k | ⟨id',k⟩
  ·omega
  ·exact h4 id' k
end turn
def HR (P:Program) (N:Nat) (o:Oper) (T:Nat→HV) (H:Heap) (K:HV→Heap→Prop):Prop :=
 ∀B Z G FP ds a w,St N B Z G FP ds T H a w→∃r v w' x H' Z' G' FP',(execOp a.eval o).run P w=.ok r w'∧(r=.value v∨(r=.skip∧v=undef))∧K x H'∧RV Z' G' w' x v []∧
  HInv Z' G' FP' H' w'∧GLe G G'∧Evo Z FP w Z' FP' w'
def HO (P:Program) (N L:Nat) (o:Oper) (T:Nat→HV) (H:Heap) (K:(Nat→HV)→Heap→Prop):Prop :=
 ∀ro n B Z G FP ds a w,Bo ro B FP w→L≤G.length→St N B Z G FP ds T H a w→∀(next:Act→World→Prop) (Q:Exit→Act→World→Prop),
  (∀a' w',(∃T' H' Z' G' FP',K T' H'∧St N B Z' G' FP' ds T' H' a' w'∧GLt L G G'∧Evo Z FP w Z' FP' w')→next a' w')→o.wpIn (Wd ro) n P a w next Q
theorem zAY (ro:Option Nat) (ρ:Operand→Value) (o:Oper) (h:∀c,o.op≠.defer c):Oper.semAt ro ρ o=execOp ρ o:=by
 cases ro with
 | none=>exact Oper.semAt_none ρ o
 | some l=>exact Oper.semAt_some l ρ o h
theorem zEY {P:Program} {N L:Nat} {o:Oper} {T:Nat→HV} {H:Heap} {K:(Nat→HV)→Heap→Prop} (hnd:∀c,o.op≠.defer c) (hd:∀i,o.dst=some i→i<N)
  (h:HR P N o T H (fun x H'=>K (updO T o.dst x) H')):HO P N L o T H K:=by
 intro ro n B Z G FP ds a w hB hL hs next Q hn
 obtain ⟨r,v,w',x,H',Z',G',FP',hr,hv,hK,hx,hi,hG,hE⟩:=h B Z G FP ds a w hs
 refine ⟨fun _ _=>trivial,?_⟩
 rw[zAY _ _ _ hnd,hr]
 have hs':=(hs.evo hi hG hE).put hx o.dst hd
 rcases hv with rfl | ⟨rfl,rfl⟩
 ·exact hn _ _ ⟨_,H',Z',G',FP',hK,hs',GLt.of hL hG,hE⟩
 ·exact hn _ _ ⟨_,H',Z',G',FP',hK,hs',GLt.of hL hG,hE⟩
def gval (all:List Oper) (T:Nat→HV) (j:Nat):HV :=
 match (all[j]?).bind (·.dst) with
 | some d=>T d
 | none=>.any
def zBr (N:Nat) (o:Oper):Bool:=match o.dst with | some d=>decide (d<N) | none=>true
def zG (N:Nat) (o:Oper):Bool:=zBr N o && o.op.operands.all (zBJ N)
def zAD:Oper→Bool:=fun o=>match o.op with | .defer _=>false | _=>true
theorem St.yields {N B:Nat} {Z:Nat→Prop} {G:List (Option OG)} {FP:Nat→List Nat} {ds:List Nat} {T:Nat→HV} {H:Heap} {a:Act} {w:World} (hs:St N B Z G FP ds T H a w) {all:List Oper} (hd:all.all (zBr N)=true) {j:Nat} {b:Bool} (h:gval all T j=.v (.bool b)) :
  yielded all.toArray a.tmps j=some b:=by
 unfold gval at h
 unfold yielded
 cases hj:all[j]? with
 | none=>rw[hj] at h;simp at h
 | some o =>
  rw[hj] at h
  simp only[Option.bind_some] at h
  cases hod:o.dst with
  | none=>rw[hod] at h;simp at h
  | some d =>
   rw[hod] at h
   simp only at h
   have hdN:d<N:=by
    have:=List.all_eq_true.1 hd o (List.mem_of_getElem? hj)
    simpa [zBr,hod] using this
   have hv:=hs.tmps d hdN
   rw[h] at hv
   simp only[RV] at hv
   have hsz:d<a.tmps.size:=by rw[hs.size];exact hdN
   have:a.tmps[d]?=some (.bool b):=by
    rw[Array.getElem?_eq_getElem hsz]
    have h2:=hv.2
    simp[Array.getD_eq_getD_getElem?,hsz] at h2
    rw[h2]
   simp[hj,hod,this]
theorem St.yieldsNo {N B:Nat} {Z:Nat→Prop} {G:List (Option OG)} {FP:Nat→List Nat} {ds:List Nat} {T:Nat→HV} {H:Heap} {a:Act} {w:World} (hs:St N B Z G FP ds T H a w) {all:List Oper} (hd:all.all (zBr N)=true) {j:Nat} {ts:Array Value} (h:gval all T j=.v (.tuple ts)) :
  yielded all.toArray a.tmps j=none:=by
 unfold gval at h
 unfold yielded
 cases hj:all[j]? with
 | none=>rw[hj] at h;simp at h
 | some o =>
  rw[hj] at h
  simp only[Option.bind_some] at h
  cases hod:o.dst with
  | none=>rw[hod] at h;simp at h
  | some d =>
   rw[hod] at h
   simp only at h
   have hdN:d<N:=by
    have:=List.all_eq_true.1 hd o (List.mem_of_getElem? hj)
    simpa [zBr,hod] using this
   have hv:=hs.tmps d hdN
   rw[h] at hv
   simp only[RV] at hv
   have hsz:d<a.tmps.size:=by rw[hs.size];exact hdN
   have:a.tmps[d]?=some (.tuple ts):=by
    rw[Array.getElem?_eq_getElem hsz]
    have h2:=hv.2
    simp[Array.getD_eq_getD_getElem?,hsz] at h2
    rw[h2]
   simp[hj,hod,this]
end Go.Proofs.YtoknohandclcbaaGreat
namespace Go.Proofs.YtoknohandclcbaaGreat
open Go.RowKit
structure TI where
 kind:Nat
 size:Nat
 bytes:Nat
 zero:Option Value
 flds:List (Nat×TypeId)
 elem:TypeId
 num:Nat
def TI.of (d:TypeDesc) (i:TypeInfo):TI :=
 match d with
 | .struct fs=>⟨1,i.size,i.bytes,i.zero,fs.toList.map fun f=>(f.offset,f.type),0,0⟩
 | .array n e=>⟨2,i.size,i.bytes,i.zero,[],e,n⟩
 | .slice e=>⟨3,i.size,i.bytes,i.zero,[],e,0⟩
 | .string=>⟨4,i.size,i.bytes,i.zero,[],0,0⟩
 | .map k e=>⟨5,i.size,i.bytes,i.zero,[],e,k⟩
 | .pointer e=>⟨6,i.size,i.bytes,i.zero,[],e,0⟩
 | .bool=>⟨7,i.size,i.bytes,i.zero,[],0,0⟩
 | .int _=>⟨8,i.size,i.bytes,i.zero,[],0,0⟩
 | .interface _=>⟨9,i.size,i.bytes,i.zero,[],0,0⟩
 | .func _ _ _=>⟨10,i.size,i.bytes,i.zero,[],0,0⟩
 | _=>⟨0,i.size,i.bytes,i.zero,[],0,0⟩
def ti (P:Program) (t:TypeId):Option TI :=
 match P.underlying t,P.info? t with
 | some d,some i=>some (TI.of d i)
 | _,_=>none
def TI.agg (x:TI):Bool:=x.kind == 1 || x.kind == 2
theorem zAe {P:Program} {t:TypeId} {x:TI} (h:ti P t=some x):∃d i,P.underlying t=some d∧P.info? t=some i∧x=TI.of d i:=by
 unfold ti at h
 split at h
 ·rename_i d i hd hi
  exact ⟨d,i,hd,hi,(Option.some.inj h).symm⟩
 ·cases h
theorem TI.of_size (d:TypeDesc) (i:TypeInfo):(TI.of d i).size=i.size:=by unfold TI.of;split <;> rfl
theorem TI.of_bytes (d:TypeDesc) (i:TypeInfo):(TI.of d i).bytes=i.bytes:=by unfold TI.of;split <;> rfl
theorem TI.of_zero (d:TypeDesc) (i:TypeInfo):(TI.of d i).zero=i.zero:=by unfold TI.of;split <;> rfl
theorem TI.of_agg (d:TypeDesc) (i:TypeInfo):(TI.of d i).agg=(match d with | .struct _ | .array _ _=>true | _=>false):=by unfold TI.of;split <;> simp[TI.agg]
section runs
variable {P:Program} {t:TypeId} {x:TI} {w:World}
theorem zT (h:ti P t=some x):(sizeOf t).run P w=.ok x.size w:=by
 obtain ⟨d,i,hd,hi,rfl⟩:=zAe h
 simp[sizeOf,typeInfo,hi,TI.of_size]
theorem zFq (h:ti P t=some x):(isAgg t).run P w=.ok x.agg w:=by
 obtain ⟨d,i,hd,hi,rfl⟩:=zAe h
 rw[TI.of_agg]
 unfold isAgg
 simp only[Sem.run_bind,run_underlying hd,Result.andThen_ok]
 cases d <;> rfl
theorem zAi (h:ti P t=some x) {z:Value} (hz:x.zero=some z):(zeroValue t).run P w=.ok z w:=by
 obtain ⟨d,i,hd,hi,rfl⟩:=zAe h
 rw[TI.of_zero] at hz
 simp[zeroValue,typeInfo,hi,hz]
theorem zDQ (h:ti P t=some x) {b o:Nat} {ys:List Value} (hl:ys.length=x.size) (h1:x.agg=false→x.size=1) (hc:∀(j:Nat) u,ys[j]?=some u→w.cell? ⟨b,o+j,none⟩=some u) :
  (loadVar t ⟨b,o,none⟩).run P w=.ok (if x.agg then .agg ys.toArray else ys.headD undef) w:=by
 have ha:∀(j:Nat) u,ys[j]?=some u→w.cell? ((⟨b,o,none⟩:Addr).add j)=some u:=fun j u hu=>by
  have e:(⟨b,o,none⟩:Addr).add j=⟨b,o+j,none⟩:=by unfold Addr.add;split <;> simp_all
  rw[e];exact hc j u hu
 unfold loadVar
 simp only[Sem.run_bind,zFq h,Result.andThen_ok]
 cases hg:x.agg with
 | true =>
  simp only[if_true,Sem.run_bind,zT h,Result.andThen_ok]
  rw[←hl,run_loadCells_list w _ ys ha]
  rfl
 | false =>
  simp only[Bool.false_eq_true,if_false]
  obtain ⟨y,rfl⟩:∃y,ys=[y]:=by
   have:=h1 hg
   rw[this] at hl
   match ys,hl with
   | [y],_=>exact ⟨y,rfl⟩
  have:=ha 0 y rfl
  simp[Addr.add] at this
  simp[load,Sem.run,this]
theorem zFo (h:ti P t=some x) {b o:Nat} {e:TypeId} {cells:Array Value} {v:Value} (hb:w.heap[b]?=some (.cells cells e (0,0))) (hv:v.cells.size=x.size) (h1:∀u∈v.cells.toList,u.oneCell'=true) (hfit:o+x.size≤cells.size) :
  (storeVar t ⟨b,o,none⟩ v).run P w=.ok () (w.setRow b (cells.toList.take o++v.cells.toList++cells.toList.drop (o+v.cells.toList.length)).toArray):=by
 unfold storeVar
 simp only[Sem.run_bind,zT h,Result.andThen_ok]
 rw[if_neg (by simp[hv])]
 have:=run_storeCells_at P b o e v.cells.toList 0 cells w hb (by simp[hv];omega) h1
 simpa using this
end runs
section cells
variable {Z:Nat→Prop} {G:List (Option OG)} {w:World}
theorem zNN {b:Nat}:∀(l:List HV) (k:Nat) (fp:List Nat),RC Z G w l b k fp→∃ys,RL Z G w l ys fp∧(∀(j:Nat) u,ys[j]?=some u→w.cell? ⟨b,k+j,none⟩=some u)∧∀u∈ys,u.oneCell'=true
 | [],k,fp,h=>⟨[],by simpa [RL,RC] using h,by simp,by simp⟩
 | h::t,k,fp,hr=>by
  simp only[RC] at hr
  obtain ⟨y,f1,f2,rfl,hy,h1,h2,h3⟩:=hr
  obtain ⟨ys,h4,h5,h6⟩:=zNN t (k+1) f2 h3
  refine ⟨y::ys,by simp only[RL];exact ⟨y,ys,f1,f2,rfl,rfl,h2,h4⟩,fun j u hj=>?_,fun u hu=>?_⟩
  ·cases j with
   | zero=>simp at hj;subst hj;exact hy
   | succ j=>have:=h5 j u (by simpa using hj);rw[show k+(j+1)=k+1+j by omega];exact this
  ·rcases List.mem_cons.1 hu with rfl | hu
   ·exact h1
   ·exact h6 u hu
theorem zU9 {b sz:Nat}:∀(l:List (List HV)) (k:Nat) (fp:List Nat),RR Z G w l b k fp→(∀r∈l,r.length=sz)→∀(i:Nat) row,l[i]?=some row→∃f,RC Z G w row b (k+i*sz) f∧f.Sublist fp
 | [],k,fp,_,_,i,row,hi=>by simp at hi
 | r::t,k,fp,h,hu,i,row,hi=>by
  simp only[RR] at h
  obtain ⟨f1,f2,rfl,h1,h2⟩:=h
  cases i with
  | zero=>simp at hi;subst hi;exact ⟨f1,by simpa using h1,List.sublist_append_left _ _⟩
  | succ i =>
   obtain ⟨f,h3,h4⟩:=zU9 t (k+r.length) f2 h2 (fun x hx=>hu x (by simp[hx])) i row (by simpa using hi)
   refine ⟨f,?_,h4.trans (List.sublist_append_right _ _)⟩
   rw[hu r (by simp)] at h3
   rw[show k+(i+1)*sz=k+sz+i*sz by rw[Nat.add_mul];omega]
   exact h3
theorem zR5 {b k:Nat} {row:List HV} {fp:List Nat} (h:RC Z G w row b k fp) (o m:Nat) (hm:o+m≤row.length) (ht:tvs ((row.drop o).take m)=true) :
  ∃ys,ys.length=m∧RL Z G w ((row.drop o).take m) ys []∧(∀(j:Nat) u,ys[j]?=some u→w.cell? ⟨b,k+o+j,none⟩=some u)∧∀u∈ys,u.oneCell'=true:=by
 obtain ⟨ys,h1,h2,h3⟩:=zNN row k fp h
 have hl:=zS _ _ _ h1
 refine ⟨(ys.drop o).take m,by simp;omega,z4N h1 o m ht,fun j u hj=>?_,fun u hu=>h3 u (List.mem_of_mem_drop (List.mem_of_mem_take hu))⟩
 rw[List.getElem?_take] at hj
 split at hj
 ·rw[List.getElem?_drop] at hj
  have:=h2 (o+j) u hj
  rw[show k+o+j=k+(o+j) by omega];exact this
 ·cases hj
def c1:HV→Bool
 | .v x=>x.oneCell'
 | .sl _=>true
 | .hd ..=>true
 | .pt ..=>true
 | .fp ..=>true
 | .fn ..=>true
 | .ic ..=>true
 | .mp _=>true
 | .yl _=>true
 | .gv _=>true
 | _=>false
theorem z4I {h:HV} {y:Value} {f:List Nat} (hc:c1 h=true) (hr:RV Z G w h y f):y.oneCell'=true:=by
 cases h <;> simp only[c1,Bool.false_eq_true] at hc <;> simp only[RV] at hr
 ·rw[hr.2];exact hc
 ·obtain ⟨_,a,c,rfl,_⟩:=hr;rfl
 ·exact hr.2.1
 ·exact hr.2.1
 ·obtain ⟨_,b,o,rfl,_⟩:=hr;rfl
 ·obtain ⟨ys,rfl,_⟩:=hr;exact zZj _ _
 ·obtain ⟨_,z,rfl,_⟩:=hr;rfl
 ·exact hr.2.1
 ·obtain ⟨_,_,l,rfl,_⟩:=hr;rfl
 ·exact hr.2.2.1
theorem zUR {y:Value} (h:y.oneCell'=true):y.cells = #[y]:=by cases y <;> simp_all [Value.cells,Value.oneCell']
theorem z4O:∀{l:List HV} {ys:List Value} {f:List Nat},l.all c1=true→RL Z G w l ys f→∀u∈ys,u.oneCell'=true
 | [],ys,f,_,h=>by simp only[RL] at h;rw[h.1];simp
 | h::t,ys,f,hc,hr=>by
  simp only[List.all_cons,Bool.and_eq_true] at hc
  simp only[RL] at hr
  obtain ⟨y,ys',f1,f2,rfl,rfl,h1,h2⟩:=hr
  intro u hu
  rcases List.mem_cons.1 hu with rfl | hu
  ·exact z4I hc.1 h1
  ·exact z4O hc.2 h2 u hu
def zQ:HV→List HV
 | .ag cs=>cs
 | x=>[x]
theorem zBj {x:HV} {y:Value} (hc:(zQ x).all c1=true) (hr:RV Z G w x y []):RL Z G w (zQ x) y.cells.toList []∧∀u∈y.cells.toList,u.oneCell'=true:=by
 by_cases hx:∃cs,x=.ag cs
 ·obtain ⟨cs,rfl⟩:=hx
  simp only[zQ] at hc⊢
  simp only[RV] at hr
  obtain ⟨ys,rfl,h⟩:=hr
  exact ⟨h,z4O hc h⟩
 ·have e:zQ x=[x]:=by cases x <;> first | rfl | exact absurd ⟨_,rfl⟩ hx
  rw[e] at hc⊢
  simp only[List.all_cons,List.all_nil,Bool.and_true] at hc
  have h1:=z4I hc hr
  rw[zUR h1]
  refine ⟨by simp only[RL];exact ⟨y,[],[],[],rfl,rfl,hr,rfl,rfl⟩,fun u hu=>?_⟩
  simp at hu;subst hu;exact h1
end cells
end Go.Proofs.YtoknohandclcbaaGreat
namespace Go.Proofs.YtoknohandclcbaaGreat
open Go.RowKit
section
variable {Z:Nat→Prop} {G:List (Option OG)} {FP:Nat→List Nat} {H:Heap} {w:World}
theorem zPM {id n r o:Nat} {y:Value} {ob:HObj} {row:List HV} (hi:HInv Z G FP H w) (ho:H[id]?=some (some ob)) (hn:n=ob.rows.length) (hr:ob.rows[r]?=some row) (hv:RV Z G w (.pt id n r o) y []) :
  ∃g b cells f,G[id]?=some (some g)∧OB Z G w ob g (FP id)∧g.blk=some b∧FP id=b::f∧w.heap[b]?=some (.cells cells ob.e (0,0))∧cells.size=g.cap*ob.sz∧ob.rows.length≤g.cap∧g.cap≤maxLen∧
   RR Z G w ob.rows b 0 f∧y=.pointer (some ⟨b,r*ob.sz+o,none⟩)∧row.length=ob.sz:=by
 obtain ⟨g,hg,hob⟩:=hi.live id ob ho
 simp only[RV] at hv
 obtain ⟨_,_,_,h⟩:=hv
 obtain ⟨b,hb,rfl⟩:=(h g hg).2 (by rw[hn,hob.n])
 rcases hob.at_ with ⟨h1,h2,h3⟩ | ⟨b',cells,f,h1,h2,h3,h4,h5,h6,h7⟩ | ⟨x,hs,obj,f,h1,_⟩
 ·rw[h2] at hr;simp at hr
 ·rw[hb] at h1
  cases h1
  exact ⟨g,b,cells,f,hg,hob,hb,h2,h3,h4,h5,h6,h7,by rw[hob.sz],hob.len row (List.mem_of_getElem? hr)⟩
 ·rw[hb] at h1;cases h1
theorem OB.cells_ {ob:HObj} {g:OG} {fp:List Nat} {b:Nat} (h:OB Z G w ob g fp) (hb:g.blk=some b) :
  ∃b cells f,g.blk=some b∧fp=b::f∧w.heap[b]?=some (.cells cells ob.e (0,0))∧cells.size=g.cap*ob.sz∧ob.rows.length≤g.cap∧g.cap≤maxLen∧RR Z G w ob.rows b 0 f:=by
 rcases h.at_ with ⟨e1,_⟩ | h | ⟨_,_,_,_,e1,_⟩
 ·rw[hb] at e1;cases e1
 ·exact h
 ·rw[hb] at e1;cases e1
theorem zAI {α:Type} {l:List α} {i:Nat} {x:α} (h:l[i]?=some x):l.set i x=l:=by
 apply List.ext_getElem?
 intro j
 by_cases e:i=j
 ·subst e;rw[List.getElem?_set_self (List.getElem?_eq_some_iff.1 h).1,h]
 ·rw[List.getElem?_set_ne e]
theorem HInv.say (h:HInv Z G FP H w) {id:Nat} {o o' : HObj} {g:OG} {fp' : List Nat} (ho:H[id]?=some (some o)) (hg:G[id]?=some (some g)) (hob:OB Z G w o' g fp') (hnd:fp'.Nodup)
  (hfp:∀b∈fp',¬Z b∧b<w.heap.size∧∀j,j≠id→b∉FP j):HInv Z G (fun j=>if j=id then fp' else FP j) (H.set id (some o')) w:=by
 have:=h.turn (g':=g) ho hg (.inl rfl) (Nat.le_refl _) (fun _ _ _=>rfl) (by rw[zAI hg];exact hob) hnd hfp
 rwa [zAI hg] at this
theorem OB.swap {ob:HObj} {g:OG} {fp:List Nat} {r c:Nat} {row:List HV} {x:HV} (h:OB Z G w ob g fp) (hr:ob.rows[r]?=some row) (hc:row[c]?=some x) (hnb:∀u,x≠.ob u) :
  ∃y fx fa,RV Z G w x y fx∧fp.Perm (fx++fa)∧
   ∀(G' : List (Option OG)) (h' : HV) (fx' : List Nat),GLe G G'→RV Z G' w h' y fx'→
    ∃fp',OB Z G' w { ob with rows:=ob.rows.set r (row.set c h') } g fp'∧fp'.Perm (fx'++fa):=by
 have hrl:=List.getElem?_eq_some_iff.1 hr
 have hcl:=List.getElem?_eq_some_iff.1 hc
 have hlen:row.length=ob.sz:=h.len row (List.mem_of_getElem? hr)
 rcases h.at_ with ⟨h1,h2,h3⟩ | ⟨b,cells,f,h1,h2,h3,h4,h5,h6,h7⟩ | ⟨u,hs,obj,f,h1,h2,h3,h4,h5,h6⟩
 ·rw[h2] at hr;simp at hr
 rotate_left
 ·subst h3
  rw[h2] at hr
  have hr0:r=0:=by
   cases r with
   | zero=>rfl
   | succ r=>simp at hr
  subst hr0
  simp at hr
  subst hr
  cases c with
  | zero=>simp at hc;exact absurd hc.symm (hnb u)
  | succ c =>
   simp only[List.getElem?_cons_succ] at hc
   have hcl':=List.getElem?_eq_some_iff.1 hc
   have e0:∀z:HV,hs.set c z=hs.take c++z::hs.drop (c+1):=fun z=>by
    rw[List.set_eq_take_append_cons_drop,if_pos hcl'.1]
   have ex:hs=hs.take c++x::hs.drop (c+1):=by rw[←e0 x,zAI hc]
   rw[ex] at h6
   obtain ⟨yA,yr,fA,fr,hyA,rfl,hA,hB⟩:=(zZ _ _ _ _).1 h6
   simp only[RL] at hB
   obtain ⟨y,yB,fx,fB,rfl,rfl,hx,hB⟩:=hB
   have hk:∀b,Z b→w.heap[b]?=w.heap[b]?:=fun _ _=>rfl
   refine ⟨y,fx,g.cap::(fA++fB),hx,?_,?_⟩
   ·refine List.Perm.trans (List.Perm.cons _ (?_:(fA++(fx++fB)).Perm (fx++(fA++fB)))) List.perm_middle.symm
    rw[←List.append_assoc,←List.append_assoc]
    exact List.Perm.append_right fB List.perm_append_comm
   ·intro G' h' fx' hG hv
    refine ⟨g.cap::(fA++(fx'++fB)),⟨h.e,h.sz,by rw[h.n];simp,fun q hq=>?_,.inr (.inr ⟨u,hs.set c h',obj,fA++(fx'++fB),h1,?_,rfl,h4,h5,?_⟩)⟩,?_⟩
    ·rcases List.mem_or_eq_of_mem_set hq with hq | rfl
     ·exact h.len q hq
     ·simpa using hlen
    ·simp[h2]
    ·rw[e0,hyA]
     refine (zZ _ _ _ _).2 ⟨_,_,fA,_,rfl,rfl,RL.keep hk (fun _ h=>h) hG _ _ _ (fun _ _=>rfl) hA,?_⟩
     simp only[RL]
     exact ⟨y,_,fx',fB,rfl,rfl,hv,RL.keep hk (fun _ h=>h) hG _ _ _ (fun _ _=>rfl) hB⟩
    ·refine List.Perm.trans (List.Perm.cons _ (?_:(fA++(fx'++fB)).Perm (fx'++(fA++fB)))) List.perm_middle.symm
     rw[←List.append_assoc,←List.append_assoc]
     exact List.Perm.append_right fB List.perm_append_comm
 subst h2
 obtain ⟨k1,k2,k3⟩:=(zCV h3 ob.rows 0 f (Nat.zero_le _)).1 h7
 simp only[List.drop_zero,Nat.zero_add] at k1 k2 k3
 have hcx:row.set c x=row:=zAI hc
 have e0:∀z:HV,row.set c z=row.take c++[z]++row.drop (c+[z].length):=fun z=>by
  rw[List.set_eq_take_append_cons_drop,if_pos hcl.1];simp
 have ef:∀z:HV,(ob.rows.set r (row.set c z)).flatten=ob.rows.flatten.take (r*ob.sz+c)++[z]++ob.rows.flatten.drop (r*ob.sz+c+1):=fun z=>by
  rw[e0 z]
  exact zNv ob.rows r row [z] c h.len hr (by have:=hcl.1;simp;omega)
 have efx:=ef x
 rw[hcx,zAI hr] at efx
 obtain ⟨ys,hys⟩:∃ys,cells.toList.take ob.rows.flatten.length=ys:=⟨_,rfl⟩
 rw[hys] at k2 k3
 rw[efx] at k2
 obtain ⟨ys1,ysr,f1,f2,hy1,rfl,hA,hB⟩:=(zZ _ _ _ _).1 k2
 obtain ⟨ysA,ysX,fA,fX,rfl,rfl,hA1,hA2⟩:=(zZ _ _ _ _).1 hA
 simp only[RL] at hA2
 obtain ⟨y,ys',fx,fe,rfl,rfl,hx,rfl,rfl⟩:=hA2
 refine ⟨y,fx,b::(fA++f2),hx,?_,?_⟩
 ·refine List.Perm.trans (List.Perm.cons b (?_:(fA++(fx++[])++f2).Perm (fx++(fA++f2)))) (List.perm_middle.symm)
  rw[List.append_nil,←List.append_assoc]
  exact List.Perm.append_right f2 List.perm_append_comm
 ·intro G' h' fx' hG hv
  have hk:∀b,Z b→w.heap[b]?=w.heap[b]?:=fun _ _=>rfl
  have hlen' : (ob.rows.set r (row.set c h')).flatten.length=ob.rows.flatten.length:=by
   rw[ef h'];conv=>rhs;rw[efx]
   simp
  refine ⟨b::(fA++fx'++f2),⟨h.e,h.sz,by rw[h.n];simp,fun q hq=>?_,.inr (.inl ⟨b,cells,fA++fx'++f2,h1,rfl,h3,h4,by simpa using h5,h6,?_⟩)⟩,?_⟩
  ·rcases List.mem_or_eq_of_mem_set hq with hq | rfl
   ·exact h.len q hq
   ·simpa using hlen
  ·refine (zCV h3 _ 0 _ (Nat.zero_le _)).2 ⟨by simpa [hlen'] using k1,?_,?_⟩
   ·simp only[List.drop_zero]
    rw[hlen',hys,hy1,ef h']
    refine (zZ _ _ _ _).2 ⟨_,ysr,fA++fx',f2,rfl,rfl,(zZ _ _ _ _).2 ⟨ysA,[y],fA,fx',rfl,rfl,RL.keep hk (fun _ h=>h) hG _ _ _ (fun _ _=>rfl) hA1,?_⟩,RL.keep hk (fun _ h=>h) hG _ _ _ (fun _ _=>rfl) hB⟩
    simp only[RL]
    exact ⟨y,[],fx',[],rfl,by simp,hv,rfl,rfl⟩
   ·simp only[List.drop_zero]
    rw[hlen',hys]
    exact k3
  ·refine List.Perm.trans (List.Perm.cons b (?_:(fA++fx'++f2).Perm (fx'++(fA++f2)))) (List.perm_middle.symm)
   rw[←List.append_assoc]
   exact List.Perm.append_right f2 List.perm_append_comm
def zDP (H:Heap) (id r c:Nat):Heap :=
 match H[id]? with
 | some (some ob) =>
  match ob.rows[r]? with
  | some row =>
   match row[c]? with
   | some (.ow e sz rows)=>H.set id (some { ob with rows:=ob.rows.set r (row.set c (.hd H.length 0 rows.length)) })++[some ⟨e,sz,rows⟩]
   | some (.bx e sz rw)=>H.set id (some { ob with rows:=ob.rows.set r (row.set c (.pt H.length 1 0 0)) })++[some ⟨e,sz,[rw]⟩]
   | some (.om x hs)=>H.set id (some { ob with rows:=ob.rows.set r (row.set c (.mp H.length)) })++[some ⟨0,hs.length+1,[.ob x::hs]⟩]
   | _=>H
  | none=>H
 | _=>H
theorem zEq (hi:HInv Z G FP H w) {id r c:Nat} {ob:HObj} {row:List HV} {x h' : HV} {no:HObj} (ho:H[id]?=some (some ob)) (hr:ob.rows[r]?=some row) (hc:row[c]?=some x) (hnb:∀u,x≠.ob u)
  (hx:∀y fx,RV Z G w x y fx→∃gn,OB Z (G++[some gn]) w no gn fx∧RV Z (G++[some gn]) w h' y []) :
  ∃G' FP',HInv Z G' FP' (H.set id (some { ob with rows:=ob.rows.set r (row.set c h') })++[some no]) w∧GLe G G'∧Evo Z FP w Z FP' w:=by
 obtain ⟨g,hg,hob⟩:=hi.live id ob ho
 obtain ⟨y,fx,fa,hv,hperm,hsw⟩:=hob.swap hr hc hnb
 obtain ⟨gn,hno,hh'⟩:=hx y fx hv
 have hnd:=hi.nodup id
 have hnd' : (fx++fa).Nodup:=hperm.nodup_iff.1 hnd
 have hlt:=hi.lt ho
 have hltH:id<H.length:=hi.len▸hlt
 obtain ⟨fp1,hob1,hp1⟩:=hsw G .any [] (GLe.refl _) (by simp[RV])
 simp only[List.nil_append] at hp1
 have i1:=hi.say ho hg hob1 (hp1.nodup_iff.2 (List.nodup_append.1 hnd').2.1) (fun b hb=>by
  have hb' : b∈FP id:=hperm.mem_iff.2 (List.mem_append_right _ (hp1.mem_iff.1 hb))
  exact ⟨hi.zfp id b hb',hi.flt id b hb',fun j hj hc=>hj (hi.disj j id b hc hb')⟩)
 have i2:=i1.new (w':=w) (o:=no) (g:=gn) (fp:=fx) (Nat.le_refl _) (fun _ _=>rfl) hno (List.nodup_append.1 hnd').1 (fun b hb=>by
  have hb' : b∈FP id:=hperm.mem_iff.2 (List.mem_append_left _ hb)
  refine ⟨hi.zfp id b hb',hi.flt id b hb',fun j hj=>?_⟩
  by_cases e:j=id
  ·simp only[if_pos e] at hj
   exact (List.nodup_append.1 hnd').2.2 b hb b (hp1.mem_iff.1 hj) rfl
  ·simp only[if_neg e] at hj
   exact e (hi.disj j id b hj hb'))
 obtain ⟨fp3,hob3,hp3⟩:=hsw (G++[some gn]) h' [] (GLe.more _) hh'
 simp only[List.nil_append] at hp3
 have hlen1:(H.set id (some { ob with rows:=ob.rows.set r (row.set c .any) })).length=H.length:=by simp
 have ho2:((H.set id (some { ob with rows:=ob.rows.set r (row.set c .any) }))++[some no])[id]?=some (some { ob with rows:=ob.rows.set r (row.set c .any) }):=by
  rw[List.getElem?_append_left (by simpa using hltH)];simp[hltH]
 have hg2:(G++[some gn])[id]?=some (some g):=by rw[List.getElem?_append_left hlt];exact hg
 have i3:=i2.say ho2 hg2 hob3 (hp3.nodup_iff.2 (List.nodup_append.1 hnd').2.1) (fun b hb=>by
  have hb' : b∈FP id:=hperm.mem_iff.2 (List.mem_append_right _ (hp3.mem_iff.1 hb))
  refine ⟨hi.zfp id b hb',hi.flt id b hb',fun j hj hc=>?_⟩
  by_cases e:j=(H.set id (some { ob with rows:=ob.rows.set r (row.set c .any) })).length
  ·simp only[if_pos e] at hc
   exact (List.nodup_append.1 hnd').2.2 b hc b (hp3.mem_iff.1 hb) rfl
  ·simp only[if_neg e,if_neg hj] at hc
   exact hj (hi.disj j id b hc hb'))
 have eH:(H.set id (some { ob with rows:=ob.rows.set r (row.set c .any) })++[some no]).set id (some { ob with rows:=ob.rows.set r (row.set c h') })=H.set id (some { ob with rows:=ob.rows.set r (row.set c h') })++[some no]:=by
  rw[List.set_append_left _ _ (by simpa using hltH)];simp
 rw[eH] at i3
 refine ⟨_,_,i3,GLe.more _,⟨rfl,rfl,rfl,Nat.le_refl _,fun _ _ _=>rfl,fun _ h=>h,fun _ h=>.inl h,fun j b hb=>?_⟩⟩
 refine .inr ?_
 by_cases e:j=id
 ·simp only[if_pos e] at hb;exact ⟨id,hperm.mem_iff.2 (List.mem_append_right _ (hp3.mem_iff.1 hb))⟩
 ·simp only[if_neg e] at hb
  split at hb
  ·exact ⟨id,hperm.mem_iff.2 (List.mem_append_left _ hb)⟩
  ·exact ⟨j,hb⟩
theorem zBD (G:List (Option OG)):GLe [] G:=⟨Nat.zero_le _,fun _ h=>absurd h (Nat.not_lt_zero _)⟩
theorem zYO {e:TypeId} {sz:Nat} {rows:List (List HV)} {y:Value} {fx:List Nat} (h:RV Z G w (.ow e sz rows) y fx) :
  ∃gn,(∀G',OB Z G' w ⟨e,sz,rows⟩ gn fx)∧RV Z (G++[some gn]) w (.hd G.length 0 rows.length) y []:=by
 simp only[RV] at h
 rcases h with ⟨rfl,rfl,rfl⟩ | ⟨b,cap,cells,f,rfl,rfl,h1,h2,h3,h4,h5,h6⟩
 ·refine ⟨⟨none,e,sz,0,0⟩,fun G'=>⟨rfl,rfl,rfl,by simp,.inl ⟨rfl,rfl,rfl⟩⟩,?_⟩
  simp only[RV]
  refine ⟨trivial,rfl,by simp,fun g hg=>?_⟩
  simp at hg;subst hg
  exact ⟨Nat.le_refl _,fun _=>⟨rfl,rfl,rfl⟩⟩
 ·refine ⟨⟨some b,e,sz,rows.length,cap⟩,fun G'=>⟨rfl,rfl,rfl,h5,.inr (.inl ⟨b,cells,f,rfl,rfl,h1,h2,h3,h4,RR.keep (fun _ _=>rfl) (fun _ h=>h) (zBD _) _ _ _ _ rfl (fun _ _=>rfl) h6⟩)⟩,?_⟩
  simp only[RV]
  refine ⟨trivial,rfl,by simp,fun g hg=>?_⟩
  simp at hg;subst hg
  exact ⟨by simp,fun _=>⟨⟨b,0,none⟩,by simp,fun _=>by simp⟩⟩
theorem zYZ {e:TypeId} {sz:Nat} {rw:List HV} {y:Value} {fx:List Nat} (h:RV Z G w (.bx e sz rw) y fx) :
  ∃gn,(∀G',OB Z G' w ⟨e,sz,[rw]⟩ gn fx)∧RV Z (G++[some gn]) w (.pt G.length 1 0 0) y []:=by
 simp only[RV] at h
 obtain ⟨b,cap,cells,f,rfl,rfl,h1,h2,hc1,hc2,h3,h4⟩:=h
 refine ⟨⟨some b,e,sz,1,cap⟩,fun G'=>⟨rfl,rfl,rfl,by simpa using h3,.inr (.inl ⟨b,cells,f,rfl,rfl,h1,h2,by simpa using hc1,hc2,?_⟩)⟩,?_⟩
 ·simp only[RR]
  exact ⟨f,[],by simp,RC.keep (fun _ _=>rfl) (fun _ h=>h) (zBD _) _ _ _ _ rfl (fun _ _=>rfl) h4,rfl⟩
 ·simp only[RV]
  refine ⟨trivial,rfl,by simp,fun g hg=>?_⟩
  simp at hg;subst hg
  exact ⟨by simp,fun _=>⟨b,rfl,by simp⟩⟩
def mapO (x:Obj) (hs:List HV):HObj:=⟨0,hs.length+1,[.ob x::hs]⟩
theorem zYR {x:Obj} {hs:List HV} {y:Value} {fx:List Nat} (h:RV Z G w (.om x hs) y fx) :
  ∃gn,(∀G',OB Z G' w (mapO x hs) gn fx)∧RV Z (G++[some gn]) w (.mp G.length) y []:=by
 simp only[RV] at h
 obtain ⟨b,obj,f,rfl,rfl,h1,h2,h3⟩:=h
 refine ⟨⟨none,0,hs.length+1,1,b⟩,fun G'=>⟨rfl,rfl,rfl,by simp[mapO],.inr (.inr ⟨x,hs,obj,f,rfl,rfl,rfl,h1,h2,RL.keep (fun _ _=>rfl) (fun _ h=>h) (zBD _) _ _ _ (fun _ _=>rfl) h3⟩)⟩,?_⟩
 simp only[RV]
 refine ⟨trivial,rfl,by simp,fun g hg=>?_⟩
 simp at hg;subst hg
 exact ⟨by simp,fun _ _=>rfl⟩
theorem zKO (hi:HInv Z G FP H w) (id r c:Nat):∃G' FP',HInv Z G' FP' (zDP H id r c) w∧GLe G G'∧Evo Z FP w Z FP' w:=by
 unfold zDP
 split
 ·rename_i ob ho
  split
  ·rename_i row hr
   split
   ·rename_i e sz rows hc
    refine zEq hi ho hr hc (by simp) fun y fx hv=>?_
    obtain ⟨gn,h1,h2⟩:=zYO hv
    rw[hi.len] at h2
    exact ⟨gn,h1 _,h2⟩
   ·rename_i e sz rw hc
    refine zEq hi ho hr hc (by simp) fun y fx hv=>?_
    obtain ⟨gn,h1,h2⟩:=zYZ hv
    rw[hi.len] at h2
    exact ⟨gn,h1 _,h2⟩
   ·rename_i x hs hc
    refine zEq hi ho hr hc (by simp) fun y fx hv=>?_
    obtain ⟨gn,h1,h2⟩:=zYR hv
    rw[hi.len] at h2
    exact ⟨gn,h1 _,h2⟩
   ·exact ⟨G,FP,hi,GLe.refl _,Evo.refl _ _ _⟩
  ·exact ⟨G,FP,hi,GLe.refl _,Evo.refl _ _ _⟩
 ·exact ⟨G,FP,hi,GLe.refl _,Evo.refl _ _ _⟩
def zDS (H:Heap) (id r c:Nat):Nat→Heap
 | 0=>H
 | k+1=>zDS (zDP H id r c) id r (c+1) k
theorem zEp {id r:Nat}:∀(k c:Nat) (G:List (Option OG)) (FP:Nat→List Nat) (H:Heap),HInv Z G FP H w→∃G' FP',HInv Z G' FP' (zDS H id r c k) w∧GLe G G'∧Evo Z FP w Z FP' w
 | 0,c,G,FP,H,hi=>⟨G,FP,hi,GLe.refl _,Evo.refl _ _ _⟩
 | k+1,c,G,FP,H,hi=>by
  obtain ⟨G1,FP1,h1,h2,h3⟩:=zKO hi id r c
  obtain ⟨G2,FP2,k1,k2,k3⟩:=zEp k (c+1) G1 FP1 _ h1
  exact ⟨G2,FP2,k1,h2.trans k2,h3.trans k3⟩
end
end Go.Proofs.YtoknohandclcbaaGreat
namespace Go.Proofs.YtoknohandclcbaaGreat
open Go.RowKit
abbrev KT:=HV→Heap→Prop
def mkV (x:TI) (seg:List HV):HV:=if x.agg then .ag seg else seg.headD .any
def okTI (x:TI):Bool:=x.agg || x.size == 1
def zCb (x:TI) (H:Heap) (a:HV) (K:KT):Prop :=
 match a with
 | .pt id n r o =>
  match H[id]? with
  | some (some ob) =>
   match ob.rows[r]? with
   | some row=>n=ob.rows.length∧o+x.size≤ob.sz∧tvs ((row.drop o).take x.size)=true∧K (mkV x ((row.drop o).take x.size)) H
   | none=>False
  | _=>False
 | .fp rows i o =>
  match rows[i]? with
  | some row=>o+x.size≤row.length∧tvs ((row.drop o).take x.size)=true∧K (mkV x ((row.drop o).take x.size)) H
  | none=>False
 | _=>False
def zC6 (x:TI) (H:Heap) (a:HV):Bool :=
 match a with
 | .pt id n r o =>
  match H[id]? with
  | some (some ob) =>
   match ob.rows[r]? with
   | some row=>tvs ((row.drop o).take x.size)
   | none=>true
  | _=>true
 | _=>true
def zGG (x:TI) (H:Heap) (a:HV):Heap :=
 match a with
 | .pt id n r o=>zDS H id r o x.size
 | _=>H
def zMX (P:Program) (H:Heap) (t:TypeId) (a:HV) (K:KT):Prop :=
 match ti P t with
 | some x=>okTI x=true∧(if zC6 x H a=true then zCb x H a K else zCb x (zGG x H a) a K)
 | none=>False
def zSn (P:Program) (H:Heap) (t:TypeId) (a v:HV) (K:KT):Prop :=
 match ti P t with
 | some x =>
  match a with
  | .pt id n r o =>
   match H[id]? with
   | some (some ob) =>
    match ob.rows[r]? with
    | some row=>n=ob.rows.length∧(zQ v).length=x.size∧(zQ v).all c1=true∧o+x.size≤ob.sz∧
      K .any (H.set id (some { ob with rows:=ob.rows.set r (row.take o++zQ v++row.drop (o+x.size)) }))
    | none=>False
   | _=>False
  | _=>False
 | none=>False
section
variable {P:Program} {N:Nat} {T:Nat→HV} {H:Heap} {K:KT} {Z:Nat→Prop} {G:List (Option OG)} {FP:Nat→List Nat} {w:World}
theorem zNh {x:TI} {seg:List HV} {ys:List Value} (hk:okTI x=true) (hl:ys.length=x.size) (h:RL Z G w seg ys []):RV Z G w (mkV x seg) (if x.agg then .agg ys.toArray else ys.headD undef) []:=by
 unfold mkV
 cases hg:x.agg with
 | true=>simp only[if_true,RV];exact ⟨ys.toArray,rfl,by simpa using h⟩
 | false =>
  simp only[okTI,hg,Bool.false_or,beq_iff_eq] at hk
  simp only[Bool.false_eq_true,if_false]
  rw[hk] at hl
  match ys,hl with
  | [y],_ =>
   have hs:=zS _ _ _ h
   match seg,hs with
   | [s],_ =>
    simp only[RL] at h
    obtain ⟨y',ys',f1,f2,he,hf,h1,h2,h3⟩:=h
    simp only[List.cons.injEq] at he
    obtain ⟨rfl,_⟩:=he
    have:f1=[]:=(List.append_eq_nil_iff.1 hf.symm).1
    subst this
    simpa using h1
theorem zIZ {x:TI} (hk:okTI x=true) (hg:x.agg=false):x.size=1:=by
 simpa [okTI,hg] using hk
theorem zCM {t:TypeId} {x:TI} (hx:ti P t=some x) (hk:okTI x=true) (hi:HInv Z G FP H w) {a:HV} {y:Value} (hv:RV Z G w a y []) (h:zCb x H a K) :
  ∃v h',(Instr.loadAt t y).run P w=.ok v w∧K h' H∧RV Z G w h' v []:=by
 unfold zCb at h
 split at h
 ·rename_i id n r o
  split at h
  ·rename_i ob ho
   split at h
   ·rename_i row hr
    obtain ⟨hn,hsz,htv,hK⟩:=h
    obtain ⟨g,b,cells,f,hg,hob,hb,hf,hh,hc,hcap,hml,hrr,rfl,hrl⟩:=zPM hi ho hn hr hv
    obtain ⟨f',hrc,_⟩:=zU9 _ _ _ hrr hob.len r row hr
    rw[Nat.zero_add] at hrc
    obtain ⟨ys,h1,h2,h3,h4⟩:=zR5 hrc o x.size (by omega) htv
    have hrun:=zDQ (P:=P) (w:=w) hx h1 (zIZ hk) h3
    refine ⟨_,_,?_,hK,zNh hk h1 h2⟩
    unfold Instr.loadAt Instr.sureAddr
    simp only[Sem.run_bind,Sem.run_pure,Result.andThen_ok]
    exact hrun
   ·exact h.elim
  ·exact h.elim
 ·rename_i rows i o
  split at h
  ·rename_i row hr
   obtain ⟨hsz,htv,hK⟩:=h
   simp only[RV] at hv
   obtain ⟨_,b,k,rfl,hz,hu,hrr⟩:=hv
   obtain ⟨f',hrc,hsub⟩:=zU9 _ _ _ hrr hu i row hr
   obtain ⟨ys,h1,h2,h3,h4⟩:=zR5 hrc o x.size hsz htv
   have h2' : RL Z G w ((row.drop o).take x.size) ys []:=RL.keep (fun _ _=>rfl) (fun _ h=>h) (zBD _) _ _ _ (fun _ _=>rfl) h2
   have hrun:=zDQ (P:=P) (w:=w) hx h1 (zIZ hk) h3
   refine ⟨_,_,?_,hK,zNh hk h1 h2'⟩
   unfold Instr.loadAt Instr.sureAddr
   simp only[Sem.run_bind,Sem.run_pure,Result.andThen_ok]
   exact hrun
  ·exact h.elim
 ·exact h.elim
theorem zF {o:Oper} (hok:zG N o=true) {x:Operand} (hx:x∈o.op.operands.toList):zBJ N x=true:=by
 simp only[zG,Bool.and_eq_true] at hok
 have:=Array.all_eq_true_iff_forall_mem.1 hok.2 x (by simpa using hx)
 exact this
theorem z1b {o:Oper} {t:TypeId} {a:Operand} (ho:o.op=.load t a) (hok:zG N o=true) (h:zMX P H t (hev T a) K):HR P N o T H K:=by
 intro B Z G FP ds act w hs
 have ha:=hs.hev a (zF hok (by simp[ho,Op.operands]))
 unfold zMX at h
 split at h
 ·rename_i x hx
  obtain ⟨hk,h⟩:=h
  split at h
  ·obtain ⟨v,h',h1,h2,h3⟩:=zCM hx hk hs.inv ha h
   refine ⟨.value v,v,w,h',H,Z,G,FP,?_,.inl rfl,h2,h3,hs.inv,GLe.refl _,Evo.refl _ _ _⟩
   simp only[execOp,ho,Sem.run_bind,h1,Result.andThen_ok,Sem.run_pure]
  ·have:∃G' FP',HInv Z G' FP' (zGG x H (hev T a)) w∧GLe G G'∧Evo Z FP w Z FP' w:=by
    unfold zGG
    split
    ·exact zEp _ _ _ _ _ hs.inv
    ·exact ⟨G,FP,hs.inv,GLe.refl _,Evo.refl _ _ _⟩
   obtain ⟨G',FP',hi',hG,hE⟩:=this
   have ha':=RV.nil_keep (w':=w) (fun _ _=>rfl) (fun _ h=>h) hG ha
   obtain ⟨v,h',h1,h2,h3⟩:=zCM hx hk hi' ha' h
   refine ⟨.value v,v,w,h',_,Z,G',FP',?_,.inl rfl,h2,h3,hi',hG,hE⟩
   simp only[execOp,ho,Sem.run_bind,h1,Result.andThen_ok,Sem.run_pure]
 ·exact h.elim
theorem zYB {o:Oper} {t:TypeId} {a v:Operand} (ho:o.op=.store t a v) (hok:zG N o=true) (h:zSn P H t (hev T a) (hev T v) K):HR P N o T H K:=by
 intro B Z G FP ds act w hs
 have ha:=hs.hev a (zF hok (by simp[ho,Op.operands]))
 have hv:=hs.hev v (zF hok (by simp[ho,Op.operands]))
 unfold zSn at h
 split at h
 ·rename_i x hx
  split at h
  ·rename_i id n r off he
   rw[he] at ha
   split at h
   ·rename_i ob hob
    split at h
    ·rename_i row hr
     obtain ⟨hn,hlen,hc1,hsz,hK⟩:=h
     obtain ⟨g,b,cells,f,hg,hOB,hb,hf,hh,hc,hcap,hml,hrr,hy,hrl⟩:=zPM hs.inv hob hn hr ha
     obtain ⟨hvs,hv1⟩:=zBj hc1 hv
     have hvl:=zS _ _ _ hvs
     have hrlt:=(List.getElem?_eq_some_iff.1 hr).1
     have hfl:ob.rows.flatten.length=ob.rows.length*ob.sz:=zAq _ hOB.len
     have hpos:r*ob.sz+off+x.size≤ob.rows.length*ob.sz:=by
      have h1:(r+1)*ob.sz≤ob.rows.length*ob.sz:=Nat.mul_le_mul_right _ hrlt
      rw[Nat.add_mul] at h1
      omega
     have hcs:ob.rows.length*ob.sz≤cells.size:=by rw[hc];exact Nat.mul_le_mul_right _ hcap
     have hcl:(act.eval v).cells.size=x.size:=by rw[←Array.length_toList,hvl,hlen]
     have hrun:=zFo (P:=P) hx hh hcl hv1 (show r*ob.sz+off+x.size≤cells.size by omega)
     obtain ⟨k1,k2,k3⟩:=(zCV hh ob.rows 0 f (Nat.zero_le _)).1 hrr
     simp only[List.drop_zero,Nat.zero_add] at k1 k2 k3
     obtain ⟨fA,fB,hfAB,hA,hB⟩:=zAr _ _ _ (r*ob.sz+off) k2
     obtain ⟨fS,fC,hfSC,hS,hC⟩:=zAr _ _ _ x.size hB
     have hflat:(ob.rows.set r (row.take off++zQ (hev T v)++row.drop (off+x.size))).flatten=ob.rows.flatten.take (r*ob.sz+off)++zQ (hev T v)++ob.rows.flatten.drop (r*ob.sz+off+x.size):=by
      rw[←hlen];exact zNv ob.rows r row _ off hOB.len hr (by omega)
     have hcell' : (cells.toList.take (r*ob.sz+off)++(act.eval v).cells.toList++cells.toList.drop (r*ob.sz+off+(act.eval v).cells.toList.length)).length=cells.size:=by
      simp only[List.length_append,List.length_take,List.length_drop,Array.length_toList,hcl];omega
     refine ⟨.skip,undef,w.setRow b (cells.toList.take (r*ob.sz+off)++(act.eval v).cells.toList++cells.toList.drop (r*ob.sz+off+(act.eval v).cells.toList.length)).toArray,.any,_,Z,G,fun j=>if j=id then b::(fA++fC) else FP j,?_,.inr ⟨rfl,rfl⟩,hK,by simp[RV],?_,GLe.refl _,?_⟩
     ·simp only[execOp,ho,Instr.storeAt,hy,Instr.sureAddr,Sem.run_bind,Sem.run_pure,Result.andThen_ok,hrun]
     ·have hnd:=hs.inv.nodup id
      rw[hf,hfAB,hfSC] at hnd
      have hsub:(b::(fA++fC)).Sublist (b::(fA++(fS++fC))):=List.Sublist.cons_cons b (List.Sublist.append (List.Sublist.refl _) (List.sublist_append_right _ _))
      have hin:∀z∈b::(fA++fC),z∈FP id:=fun z hz=>by rw[hf,hfAB,hfSC];exact hsub.subset hz
      have:=hs.inv.turn (w':=w.setRow b (cells.toList.take (r*ob.sz+off)++(act.eval v).cells.toList++cells.toList.drop (r*ob.sz+off+(act.eval v).cells.toList.length)).toArray) (g':=g)
       (o':={ ob with rows:=ob.rows.set r (row.take off++zQ (hev T v)++row.drop (off+x.size)) }) (fp':=b::(fA++fC)) hob hg (.inl rfl) (by simp)
       (fun q hq hqf=>setRow_other w b q _ (fun e=>hqf (by rw[hf,e];simp))) ?_ (hnd.sublist hsub)
       (fun z hz=>⟨hs.inv.zfp id z (hin z hz),by simpa using hs.inv.flt id z (hin z hz),fun j hj hc=>hj (hs.inv.disj j id z hc (hin z hz))⟩)
      ·rwa [zAI hg] at this
      ·rw[zAI hg]
       have hh':=setRow_heap w b cells (cells.toList.take (r*ob.sz+off)++(act.eval v).cells.toList++cells.toList.drop (r*ob.sz+off+(act.eval v).cells.toList.length)).toArray ob.e (0,0) hh
       have hkeep:∀z,z≠b→(w.setRow b (cells.toList.take (r*ob.sz+off)++(act.eval v).cells.toList++cells.toList.drop (r*ob.sz+off+(act.eval v).cells.toList.length)).toArray).heap[z]?=w.heap[z]?:=fun z hz=>setRow_other w b z _ hz
       have hbZ:∀z,Z z→z≠b:=fun z hz e=>hs.inv.zfp id b (by rw[hf];simp) (e▸hz)
       have hnd2:∀z∈fA++fC,z≠b:=fun z hz e=>by
        have:=List.nodup_cons.1 (hnd.sublist hsub)
        exact this.1 (e▸hz)
       refine ⟨hOB.e,hOB.sz,by rw[hOB.n];simp,fun q hq=>?_,.inr (.inl ⟨b,_,fA++fC,hb,rfl,hh',?_,by simpa using hcap,hml,?_⟩)⟩
       ·rcases List.mem_or_eq_of_mem_set hq with hq | rfl
        ·exact hOB.len q hq
        ·simp only[List.length_append,List.length_take,List.length_drop,hlen,hrl];omega
       ·simp only[List.size_toArray];rw[hcell',hc]
       ·refine (zCV hh' _ 0 _ (Nat.zero_le _)).2 ?_
        have hl1:(ob.rows.flatten.take (r*ob.sz+off)++zQ (hev T v)++ob.rows.flatten.drop (r*ob.sz+off+x.size)).length=ob.rows.length*ob.sz:=by
         simp only[List.length_append,List.length_take,List.length_drop,hlen,hfl];omega
        simp only[List.drop_zero,Nat.zero_add,hflat,hl1]
        have hvals:(cells.toList.take (r*ob.sz+off)++(act.eval v).cells.toList++cells.toList.drop (r*ob.sz+off+(act.eval v).cells.toList.length)).take (ob.rows.length*ob.sz) =
          (cells.toList.take (ob.rows.length*ob.sz)).take (r*ob.sz+off)++(act.eval v).cells.toList++((cells.toList.take (ob.rows.length*ob.sz)).drop (r*ob.sz+off)).drop x.size:=by
         have e1:(act.eval v).cells.toList.length=x.size:=by rw[hvl,hlen]
         rw[e1,List.append_assoc,List.append_assoc,List.take_append,List.take_append]
         have e2:(cells.toList.take (r*ob.sz+off)).length=r*ob.sz+off:=by simp;omega
         rw[e2,e1]
         congr 1
         ·rw[List.take_take,List.take_take];congr 1;omega
         ·congr 1
          ·rw[List.take_of_length_le];rw[e1];omega
          ·rw[List.drop_drop,List.drop_take];congr 1;omega
        rw[hfl] at k2 hA hB hC k3
        refine ⟨by simp only[List.size_toArray];rw[hcell'];omega,?_,?_⟩
        ·rw[hvals]
         refine (zZ _ _ _ _).2 ⟨_,_,fA,fC,rfl,rfl,(zZ _ _ _ _).2 ⟨_,_,fA,[],rfl,by simp,?_,?_⟩,?_⟩
         ·exact RL.keep (fun z hz=>hkeep z (hbZ z hz)) (fun _ h=>h) (GLe.refl _) _ _ _ (fun z hz=>hkeep z (hnd2 z (List.mem_append_left _ hz))) hA
         ·exact RL.keep (fun z hz=>hkeep z (hbZ z hz)) (fun _ h=>h) (GLe.refl _) _ _ _ (by simp) hvs
         ·rw[show ob.rows.flatten.drop (r*ob.sz+off+x.size)=(ob.rows.flatten.drop (r*ob.sz+off)).drop x.size by rw[List.drop_drop]]
          exact RL.keep (fun z hz=>hkeep z (hbZ z hz)) (fun _ h=>h) (GLe.refl _) _ _ _ (fun z hz=>hkeep z (hnd2 z (List.mem_append_right _ hz))) hC
        ·rw[hvals]
         intro u hu
         rcases List.mem_append.1 hu with hu | hu
         ·rcases List.mem_append.1 hu with hu | hu
          ·exact k3 u (List.mem_of_mem_take hu)
          ·exact hv1 u hu
         ·exact k3 u (List.mem_of_mem_drop (List.mem_of_mem_drop hu))
     ·exact zBw rfl rfl rfl (by simp) (fun q hq hqf=>setRow_other w b q _ (fun e=>hqf (by rw[hf,e];simp))) (fun z hz=>.inr ⟨id,by
       rw[hf,hfAB,hfSC]
       rcases List.mem_cons.1 hz with rfl | hz
       ·simp
       ·rcases List.mem_append.1 hz with hz | hz <;> simp[hz]⟩)
    ·exact h.elim
   ·exact h.elim
  ·exact h.elim
 ·exact h.elim
end
end Go.Proofs.YtoknohandclcbaaGreat
