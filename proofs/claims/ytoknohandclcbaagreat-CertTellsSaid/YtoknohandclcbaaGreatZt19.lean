/- Parts of the proof: Yg, Yo, Yh, Yq. -/
import Derived.Test.YtoknohandclcbaaGreatZt09
import Derived.OpenShut
import Derived.ChangeArms
import Derived.ChangeSlices
import Derived.Test.YtoknohandclcbaaGreatZt06
import Derived.Test.YtoknohandclcbaaGreatProg
import Derived.KernelRfl
import Derived.Test.YtoknohandclcbaaGreatZt18
import Derived.Test.YtoknohandclcbaaGreatZt13
set_option linter.unusedSectionVars false
set_option linter.unusedVariables false
set_option linter.unusedSimpArgs false
namespace Go.Proofs.YtoknohandclcbaaGreat
open Go.ChangeShapes Go.WideShapes Go.RowKit
set_option maxRecDepth 8000
def zHW (ok:TypeId→Bool) (cell:TypeId→Nat):List Field→Nat→Nat→Bool
 | [],o,tot=>o == tot
 | f::fs,o,tot=>f.offset == o && ok f.type && zHW ok cell fs (o+cell f.type) tot
def zFN (P:Program):Nat→TypeId→Bool
 | 0,_=>false
 | n+1,t=>match P.underlying t with
  | some .bool=>true
  | some (.int _)=>true
  | some .string=>true
  | some (.slice e)=>decide (0<P.cellsOf e) && zFN P n e
  | some (.struct fs)=>zHW (zFN P n) P.cellsOf fs.toList 0 (P.cellsOf t)
  | some (.array m e)=>decide (P.cellsOf t=m*P.cellsOf e) && zFN P n e
  | _=>false
def ShpF (S:TypeId→List HV→Prop):List Field→List HV→Prop
 | [],hs=>hs=[]
 | f::fs,hs=>∃a b,hs=a++b∧S f.type a∧ShpF S fs b
def Shp (P:Program):Nat→TypeId→List HV→Prop
 | 0,_,_=>False
 | n+1,t,hs=>match P.underlying t with
  | some .bool=>∃b,hs=[.v (.bool b)]
  | some (.int k)=>∃x,(Lit.int k x).wf=true∧hs=[.v (.int k x)]
  | some .string=>∃s:List UInt8,s.length≤maxLen∧hs=[.v (str s)]
  | some (.slice e)=>∃rows:List (List HV),rows.length≤maxLen∧hs=[.sl rows]∧∀r∈rows,Shp P n e r
  | some (.struct fs)=>ShpF (Shp P n) fs.toList hs
  | some (.array m e)=>∃rows:List (List HV),rows.length=m∧hs=rows.flatten∧∀r∈rows,Shp P n e r
  | _=>False
section
variable {H:Type} {enc:TypeId×Value→H} {P:Program} {w:World} {base:Nat} {sp:Nat→Bool} {held:Bool} {Z:Nat→Prop}
def Ones (cs:List Value):Prop:=∀c∈cs,c.oneCell'=true
theorem z47:∀(hs:List HV) (cs:List Value) (b k:Nat),RL Z [] w hs cs []→Ones cs→(∀i c,cs[i]?=some c→w.cell? ⟨b,k+i,none⟩=some c)→RC Z [] w hs b k []
 | [],cs,b,k,h,_,_=>by simp[RC]
 | x::hs,cs,b,k,h,h1,hc=>by
  simp only[RL] at h
  obtain ⟨y,ys,f1,f2,rfl,hf,hv,ht⟩:=h
  obtain ⟨rfl,rfl⟩:=List.append_eq_nil_iff.1 hf.symm
  simp only[RC]
  refine ⟨y,[],[],rfl,by simpa using hc 0 y rfl,h1 y (by simp),hv,z47 hs ys b (k+1) ht (fun c hc=>h1 c (by simp[hc])) fun i c hi=>?_⟩
  have:=hc (i+1) c (by simpa using hi)
  rw[show k+1+i=k+(i+1) by omega];exact this
theorem z4Y {m:Nat}:∀(rows:List (List HV)) (b k:Nat),(∀r∈rows,r.length=m)→(∀i r,rows[i]?=some r→RC Z [] w r b (k+i*m) [])→RR Z [] w rows b k []
 | [],b,k,_,_=>by simp[RR]
 | r::rows,b,k,hm,h=>by
  simp only[RR]
  refine ⟨[],[],rfl,by simpa using h 0 r rfl,?_⟩
  rw[hm r (by simp)]
  refine z4Y rows b (k+m) (fun r hr=>hm r (by simp[hr])) fun i r hi=>?_
  have:=h (i+1) r (by simpa using hi)
  rw[show k+m+i*m=k+(i+1)*m by rw[Nat.add_mul];omega];exact this
theorem zLV {h:HV} {y:Value} (hv:RV Z [] w h y []):RL Z [] w [h] [y] []:=by
 simp only[RL];exact ⟨y,[],[],[],rfl,rfl,hv,rfl,rfl⟩
theorem cells?_at {a:Addr} {k:Nat} {cs:List Value} (h:w.cells? base a k=some cs):cs.length=k∧∀i c,cs[i]?=some c→w.cell? (a.add i)=some c:=by
 obtain ⟨_,h2,h3⟩:=World.cells?_some h
 refine ⟨h2,fun i c hi=>?_⟩
 have hlt:=(List.getElem?_eq_some_iff.1 hi).1
 have:=h3 i (by omega)
 rw[←hi];exact this
theorem zGm {p:Nat→List HV→Prop}:∀(n:Nat),(∀i,i<n→∃r,p i r)→∃rows:List (List HV),rows.length=n∧∀i r,rows[i]?=some r→p i r
 | 0,_=>⟨[],rfl,by simp⟩
 | n+1,h=>by
  obtain ⟨rows,h1,h2⟩:=zGm n fun i hi=>h i (by omega)
  obtain ⟨r,hr⟩:=h n (by omega)
  refine ⟨rows++[r],by simp[h1],fun i x hx=>?_⟩
  rcases Nat.lt_or_ge i rows.length with hi | hi
  ·rw[List.getElem?_append_left hi] at hx;exact h2 i x hx
  ·rw[List.getElem?_append_right hi] at hx
   have:i-rows.length=0:=by
    have:=(List.getElem?_eq_some_iff.1 hx).1
    simp at this;omega
   rw[this] at hx
   obtain rfl:r=x:=by simpa using hx
   rw[show i=n by omega];exact hr
theorem zKx {ok:TypeId→Bool} {cell:TypeId→Nat}:∀(fs:List Field) (o tot:Nat),zHW ok cell fs o tot=true→o≤tot
 | [],_,_,hc=>by simp only[zHW,beq_iff_eq] at hc;omega
 | f::fs,o,tot,hc=>by
  simp only[zHW,Bool.and_eq_true,beq_iff_eq] at hc
  have:=zKx fs _ tot hc.2
  omega
theorem zOM {ok:TypeId→Bool} {cell:TypeId→Nat}:∀(fs:List Field) (o tot:Nat),zHW ok cell fs o tot=true→∀(i:Nat) (g:Field),fs[i]?=some g→o≤g.offset
 | [],_,_,_,i,g,hg=>by simp at hg
 | f::fs,o,tot,hc,i,g,hg=>by
  simp only[zHW,Bool.and_eq_true,beq_iff_eq] at hc
  obtain ⟨⟨h1,h2⟩,h3⟩:=hc
  cases i with
  | zero=>simp at hg;subst hg;omega
  | succ i =>
   have:=zOM fs _ tot h3 i g (by simpa using hg)
   omega
theorem zFJ {S:TypeId→List HV→Prop} {ok:TypeId→Bool} {cell:TypeId→Nat}:∀(fs:List Field) (o:Nat) (cs:List Value),zHW ok cell fs o (o+cs.length)=true→
  (∀(i:Nat) (f:Field),fs[i]?=some f→ok f.type=true→∃hs,S f.type hs∧RL Z [] w hs ((cs.drop (f.offset-o)).take (cell f.type)) []∧Ones ((cs.drop (f.offset-o)).take (cell f.type)))→
  ∃hs,ShpF S fs hs∧RL Z [] w hs cs []∧Ones cs
 | [],o,cs,hc,_=>by
  simp only[zHW,beq_iff_eq] at hc
  obtain rfl:cs=[]:=List.length_eq_zero_iff.1 (by omega)
  exact ⟨[],rfl,by simp[RL],by simp[Ones]⟩
 | f::fs,o,cs,hc,h=>by
  simp only[zHW,Bool.and_eq_true,beq_iff_eq] at hc
  obtain ⟨⟨h1,h2⟩,h3⟩:=hc
  obtain ⟨a,sa,ra,oa⟩:=h 0 f rfl h2
  rw[h1,Nat.sub_self,List.drop_zero] at ra oa
  have hle:cell f.type≤cs.length:=by
   have:=zKx fs _ _ h3
   omega
  have hlen:o+cs.length=o+cell f.type+(cs.drop (cell f.type)).length:=by rw[List.length_drop];omega
  rw[hlen] at h3
  obtain ⟨b,sb,rb,ob⟩:=zFJ fs (o+cell f.type) (cs.drop (cell f.type)) h3 fun i g hg hok=>by
   have hi:=zOM fs _ _ h3 i g hg
   obtain ⟨hs,k1,k2,k3⟩:=h (i+1) g (by simpa using hg) hok
   have e:(cs.drop (cell f.type)).drop (g.offset-(o+cell f.type))=cs.drop (g.offset-o):=by
    rw[List.drop_drop];congr 1;omega
   rw[e]
   exact ⟨hs,k1,k2,k3⟩
  refine ⟨a++b,⟨a,b,rfl,sa,sb⟩,?_,?_⟩
  ·have:=(z7 (Z:=Z) (G:=[]) (w:=w) a b cs []).2 ⟨cs.take (cell f.type),cs.drop (cell f.type),[],[],by simp,rfl,ra,rb⟩
   exact this
  ·intro c hc
   rw[←List.take_append_drop (cell f.type) cs] at hc
   rcases List.mem_append.1 hc with h | h
   ·exact oa c h
   ·exact ob c h
theorem zGs {S:List HV→Prop} {k:Nat}:∀(m:Nat) (cs:List Value),cs.length=m*k→(∀i,i<m→∃hs,S hs∧RL Z [] w hs ((cs.drop (i*k)).take k) []∧Ones ((cs.drop (i*k)).take k))→
  ∃rows:List (List HV),rows.length=m∧(∀r∈rows,S r)∧RL Z [] w rows.flatten cs []∧Ones cs
 | 0,cs,hl,_=>by
  obtain rfl:cs=[]:=List.length_eq_zero_iff.1 (by omega)
  exact ⟨[],rfl,by simp,by simp[RL],by simp[Ones]⟩
 | m+1,cs,hl,h=>by
  obtain ⟨a,sa,ra,oa⟩:=h 0 (by omega)
  simp only[Nat.zero_mul,List.drop_zero] at ra oa
  have hk:k≤cs.length:=by rw[hl,Nat.add_mul];omega
  obtain ⟨rows,h1,h2,h3,h4⟩:=zGs (k:=k) m (cs.drop k) (by rw[List.length_drop,hl,Nat.add_mul];omega) fun i hi=>by
   obtain ⟨hs,k1,k2,k3⟩:=h (i+1) (by omega)
   have e:(cs.drop k).drop (i*k)=cs.drop ((i+1)*k):=by
    rw[List.drop_drop];congr 1;rw[Nat.add_mul];omega
   rw[e];exact ⟨hs,k1,k2,k3⟩
  refine ⟨a::rows,by simp[h1],?_,?_,?_⟩
  ·intro r hr
   rcases List.mem_cons.1 hr with rfl | hr
   ·exact sa
   ·exact h2 r hr
  ·have:=(z7 (Z:=Z) (G:=[]) (w:=w) a rows.flatten cs []).2 ⟨cs.take k,cs.drop k,[],[],by simp,rfl,ra,h3⟩
   simpa using this
  ·intro c hc
   rw[←List.take_append_drop k cs] at hc
   rcases List.mem_append.1 hc with h | h
   ·exact oa c h
   ·exact h4 c h
theorem zHf (hZ:∀b,b<w.heap.size→Z b):∀(n:Nat) (t:TypeId) (cs:List Value) (x:DataW H×List MemPlace) (fuel:Nat),zFN P n t=true→DataW.trod enc P w base sp held fuel t cs=some x→
  ∃hs,Shp P n t hs∧RL Z [] w hs cs []∧Ones cs:=by
 intro n
 induction n with
 | zero=>intro t cs x fuel h;simp[zFN] at h
 | succ n ih =>
  intro t cs x fuel hp hx
  unfold zFN at hp
  unfold Shp
  cases ht:P.underlying t with
  | none=>rw[ht] at hp;simp at hp
  | some T =>
   rw[ht] at hp
   cases T with
   | bool =>
    obtain ⟨b,rfl,_⟩:=DataW.trod_bool ht hx
    exact ⟨_,⟨b,rfl⟩,zLV (by simp[RV]),by simp[Ones,Value.oneCell']⟩
   | int k =>
    obtain ⟨m,rfl,_,hw⟩:=DataW.trod_int ht hx
    exact ⟨_,⟨m,hw,rfl⟩,zLV (by simp[RV]),by simp[Ones,Value.oneCell']⟩
   | string =>
    obtain ⟨s,rfl,_,hw⟩:=DataW.trod_string ht hx
    refine ⟨_,⟨s.data.toList,by rw[Array.length_toList];exact hw,rfl⟩,zLV (by simp[RV,str]),by simp[Ones,Value.oneCell']⟩
   | slice e =>
    simp only[Bool.and_eq_true,decide_eq_true_eq] at hp
    rcases DataW.trod_slice ht hx with ⟨rfl,_⟩ | ⟨a,len,cap,elems,rest,m,_,rfl,_,hb,hl,hm,hlen,hel,_,_⟩
    ·refine ⟨_,⟨[],Nat.zero_le _,rfl,by simp⟩,zLV ?_,by simp[Ones,Value.oneCell']⟩
     simp only[RV]
     exact ⟨trivial,none,0,rfl,Nat.zero_le _,Nat.zero_le _,.inl trivial⟩
    ·have each:∀i,i<len→∃r,Shp P n e r∧r.length=P.cellsOf e∧RC Z [] w r a.block (a.off+i*P.cellsOf e) []∧(i=0→a.spot=none)∧a.block<w.heap.size:=by
      intro i hi
      have h1:=hel i hi
      have hel' : i<elems.length:=by omega
      rw[List.getElem?_eq_getElem hel',Option.bind_eq_some_iff] at h1
      obtain ⟨ci,hci,hti⟩:=h1
      obtain ⟨r,sr,rr,o1⟩:=ih e ci _ m hp.2 hti
      obtain ⟨lc,hcell⟩:=cells?_at hci
      have cb:∀j c,ci[j]?=some c→w.cell? ((a.add (i*P.cellsOf e)).add j)=some c:=hcell
      have h0:∃c,w.cell? (a.add (i*P.cellsOf e))=some c:=by
       have:0<ci.length:=by omega
       refine ⟨ci[0],?_⟩
       have:=hcell 0 ci[0] (List.getElem?_eq_getElem this)
       simpa [Addr.add] using this
      obtain ⟨c0,h0⟩:=h0
      have hsp:(a.add (i*P.cellsOf e)).spot=none∧a.block<w.heap.size:=by
       unfold World.cell? at h0
       have hblk0:(a.add (i*P.cellsOf e)).block=a.block:=by simp only[Addr.add];split <;> rfl
       rw[hblk0] at h0
       cases hh:w.heap[a.block]? with
       | none=>rw[hh] at h0;simp at h0
       | some ob =>
        rw[hh] at h0
        refine ⟨?_,(Array.getElem?_eq_some_iff.1 hh).1⟩
        cases ob <;> simp at h0
        exact h0.1
      have hadd:∀j,(a.add (i*P.cellsOf e)).add j=⟨a.block,a.off+i*P.cellsOf e+j,none⟩:=by
       intro j
       have e1:a.add (i*P.cellsOf e)=⟨a.block,a.off+i*P.cellsOf e,none⟩:=by
        have h2:=hsp.1
        unfold Addr.add at h2⊢
        split
        ·rename_i h3
         rw[if_pos h3] at h2
         rw[h3]
         cases a;simp at h2⊢;exact h2
        ·rfl
       rw[e1]
       unfold Addr.add
       split
       ·rename_i h3;rw[h3];rfl
       ·rfl
      refine ⟨r,sr,by have:=zX (Z:=Z) (G:=[]) (w:=w) r ci [] rr;omega,z47 r ci _ _ rr o1 (fun j c hj=>by rw[←hadd];exact cb j c hj),?_,hsp.2⟩
      rintro rfl
      have:=hsp.1
      rw[Nat.zero_mul] at this
      simpa [Addr.add] using this
     obtain ⟨rows,r1,r2⟩:=zGm len each
     refine ⟨_,⟨rows,by omega,rfl,?_⟩,zLV ?_,by simp[Ones,Value.oneCell']⟩
     ·intro r hr
      obtain ⟨i,hi⟩:=List.getElem?_of_mem hr
      exact (r2 i r hi).1
     ·simp only[RV]
      refine ⟨trivial,some a,cap,by rw[r1],by omega,hm,?_⟩
      by_cases h0:rows=[]
      ·exact .inl h0
      ·right
       obtain ⟨r,hi⟩:∃r,rows[0]?=some r:=by
        cases rows with
        | nil=>exact absurd rfl h0
        | cons r _=>exact ⟨r,rfl⟩
       obtain ⟨_,_,_,q1,q2⟩:=r2 0 r hi
       replace q1:=q1 rfl
       have hlen' : ∀r∈rows,r.length=P.cellsOf e:=by
        intro r hr
        obtain ⟨i,hi⟩:=List.getElem?_of_mem hr
        exact (r2 i r hi).2.1
       refine ⟨a.block,a.off,by cases a;simp at q1⊢;exact q1,hZ _ q2,?_,z4Y rows _ _ hlen' fun i r hi=>(r2 i r hi).2.2.1⟩
       intro r hr
       rw[hlen' r hr]
       unfold zFy
       cases rows with
       | nil=>simp at hr
       | cons r0 _=>exact (hlen' r0 (by simp)).symm
   | struct fs =>
    obtain ⟨xs,m,_,_,hl,hlen,hf⟩:=DataW.trod_struct ht hx
    simp only at hp
    refine zFJ (Z:=Z) (w:=w) fs.toList 0 cs (by rw[hl,Nat.zero_add];exact hp) fun i f hi hok=>?_
    have h1:=hf i f (by simpa using hi)
    have hlt:i<xs.length:=by
     have:=(List.getElem?_eq_some_iff.1 hi).1
     simp at this;omega
    rw[List.getElem?_eq_getElem hlt] at h1
    obtain ⟨hs,k1,k2,k3⟩:=ih f.type _ _ m hok h1
    rw[Nat.sub_zero]
    exact ⟨hs,k1,k2,k3⟩
   | array m e =>
    simp only[Bool.and_eq_true,decide_eq_true_eq] at hp
    obtain ⟨xs,k,_,_,hl,hlen,hf⟩:=DataW.trod_array ht hx
    obtain ⟨rows,h1,h2,h3,h4⟩:=zGs (Z:=Z) (w:=w) (S:=Shp P n e) m cs (by rw[hl];exact hp.1) fun i hi=>by
     have:=hf i hi
     rw[List.getElem?_eq_getElem (show i<xs.length by omega)] at this
     exact ih e _ _ k hp.2 this
    exact ⟨_,⟨rows,h1,rfl,h2⟩,h3,h4⟩
   | _=>simp at hp
theorem zAZ {α:Type} {p:α→List HV}:∀(rows:List (List HV)),(∀r∈rows,∃a,r=p a)→∃l:List α,rows=l.map p
 | [],_=>⟨[],rfl⟩
 | r::rows,h=>by
  obtain ⟨a,rfl⟩:=h r (by simp)
  obtain ⟨l,rfl⟩:=zAZ rows fun r hr=>h r (by simp[hr])
  exact ⟨a::l,rfl⟩
theorem zZX (hZ:∀b,b<w.heap.size→Z b) {n:Nat} {r:Reach} {b0:Nat} {t e:TypeId} {v:Value} {d:DataW H} {ps:List MemPlace} (ht:P.underlying t=some (.slice e)) (hp:zFN P (n+1) t=true) (hval:Value.okWide P w r b0 t v) (hd:DataW.Trod enc P w base sp held t v d ps) :
  ∃rows:List (List HV),rows.length≤maxLen∧RV Z [] w (.sl rows) v []∧∀r∈rows,Shp P n e r:=by
 obtain ⟨a,len,cap,rfl⟩:=okWide_slice ht hval
 obtain ⟨fuel,hf⟩:=hd
 obtain ⟨hs,h1,h2,_⟩:=zHf (Z:=Z) hZ (n+1) t _ _ fuel hp hf
 unfold Shp at h1
 rw[ht] at h1
 obtain ⟨rows,k1,rfl,k2⟩:=h1
 refine ⟨rows,k1,?_,k2⟩
 have h3:RL Z [] w [.sl rows] [.slice a len cap] []:=h2
 simp only[RL] at h3
 obtain ⟨y,ys,f1,f2,e1,e2,hv,_⟩:=h3
 obtain ⟨rfl,_⟩:=List.append_eq_nil_iff.1 e2.symm
 cases e1;exact hv
theorem zSV (hZ:∀b,b<w.heap.size→Z b) {n:Nat} {r:Reach} {b0:Nat} {t:TypeId} {fs:Array Field} {v:Value} {d:DataW H} {ps:List MemPlace} (ht:P.underlying t=some (.struct fs)) (hp:zFN P (n+1) t=true) (hval:Value.okWide P w r b0 t v) (hd:DataW.Trod enc P w base sp held t v d ps) :
  ∃hs:List HV,RV Z [] w (.ag hs) v []∧ShpF (Shp P n) fs.toList hs:=by
 obtain ⟨cs,rfl,_⟩:=okWide_struct ht hval
 obtain ⟨fuel,hf⟩:=hd
 obtain ⟨hs,h1,h2,_⟩:=zHf (Z:=Z) hZ (n+1) t _ _ fuel hp hf
 unfold Shp at h1
 rw[ht] at h1
 refine ⟨hs,?_,h1⟩
 simp only[RV]
 exact ⟨cs,rfl,h2⟩
theorem zAg {n:Nat} {t:TypeId} {k:IntKind} {hs:List HV} (ht:P.underlying t=some (.int k)) (h:Shp P (n+1) t hs):∃x,(Lit.int k x).wf=true∧hs=[.v (.int k x)]:=by
 unfold Shp at h;rw[ht] at h;exact h
theorem zV4 {n:Nat} {t:TypeId} {hs:List HV} (ht:P.underlying t=some .bool) (h:Shp P (n+1) t hs):∃b,hs=[.v (.bool b)]:=by
 unfold Shp at h;rw[ht] at h;exact h
theorem zBj {n:Nat} {t e:TypeId} {hs:List HV} (ht:P.underlying t=some (.slice e)) (h:Shp P (n+1) t hs):∃rows:List (List HV),rows.length≤maxLen∧hs=[.sl rows]∧∀r∈rows,Shp P n e r:=by
 unfold Shp at h;rw[ht] at h;exact h
theorem zH4 {n:Nat} {t:TypeId} {fs:Array Field} {hs:List HV} (ht:P.underlying t=some (.struct fs)) (h:Shp P (n+1) t hs):ShpF (Shp P n) fs.toList hs:=by
 unfold Shp at h;rw[ht] at h;exact h
end
end Go.Proofs.YtoknohandclcbaaGreat
namespace Go.Proofs.YtoknohandclcbaaGreat
open Go.ChangeShapes Go.WideShapes Go.RowKit
set_option maxRecDepth 8000
section
variable {H:Type} {enc:TypeId×Value→H} {w:World} {base:Nat} {sp:Nat→Bool} {held:Bool} {Z:Nat→Prop}
theorem zSU (hZ:∀b,b<w.heap.size→Z b) {r:Reach} {b0:Nat} {v:Value} {d:DataW H} {ps:List MemPlace} (hval:Value.okWide Tryz.prog w r b0 22 v) (hd:DataW.Trod enc Tryz.prog w base sp held 22 v d ps) :
  ∃l:List Int,RV Z [] w (.sl (ints l)) v []:=by
 obtain ⟨rows,_,h1,h2⟩:=zZX (Z:=Z) (n:=1) hZ Tryz.underlying22 (by kernel_rfl) hval hd
 obtain ⟨l,rfl⟩:=zAZ (p:=irow) rows fun r hr=>by
  obtain ⟨x,_,rfl⟩:=zAg Tryz.underlying3 (h2 r hr)
  exact ⟨x,rfl⟩
 exact ⟨l,h1⟩
theorem zW0 (hZ:∀b,b<w.heap.size→Z b) {r:Reach} {b0:Nat} {v:Value} {d:DataW H} {ps:List MemPlace} (hval:Value.okWide Tryz.prog w r b0 25 v) (hd:DataW.Trod enc Tryz.prog w base sp held 25 v d ps) :
  ∃p:Prg,RV Z [] w (prgH p) v []:=by
 obtain ⟨hs,h1,a,b,rfl,ha,c,d,rfl,hc,rfl⟩:=zSV (Z:=Z) (n:=4) hZ Tryz.underlying25 (by kernel_rfl) hval hd
 obtain ⟨rows,_,rfl,hr⟩:=zBj Tryz.underlying22 ha
 obtain ⟨l,rfl⟩:=zAZ (p:=irow) rows fun r h=>by
  obtain ⟨x,_,rfl⟩:=zAg Tryz.underlying3 (hr r h)
  exact ⟨x,rfl⟩
 obtain ⟨rows,_,rfl,hq⟩:=zBj Tryz.underlying23 hc
 obtain ⟨m,rfl⟩:=zAZ (p:=trow) rows fun r h=>by
  obtain ⟨rs,_,rfl,hs⟩:=zBj Tryz.underlying84 (hq r h)
  obtain ⟨m,rfl⟩:=zAZ (p:=zOl) rs fun r h=>by
   obtain ⟨a1,_,rfl,h1,a2,_,rfl,h2,a3,_,rfl,h3,a4,_,rfl,h4,a5,_,rfl,h5,rfl⟩:=zH4 Tryz.underlying87 (hs r h)
   obtain ⟨x1,_,rfl⟩:=zAg Tryz.underlying3 h1
   obtain ⟨x2,_,rfl⟩:=zAg Tryz.underlying3 h2
   obtain ⟨x3,_,rfl⟩:=zAg Tryz.underlying3 h3
   obtain ⟨x4,_,rfl⟩:=zAg Tryz.underlying3 h4
   obtain ⟨x5,_,rfl⟩:=zAg Tryz.underlying3 h5
   exact ⟨⟨x1,x2,x3,x4,x5⟩,rfl⟩
  exact ⟨m,rfl⟩
 exact ⟨⟨l,m⟩,h1⟩
end
end Go.Proofs.YtoknohandclcbaaGreat
namespace Go.Proofs.YtoknohandclcbaaGreat
open Go.ChangeShapes Go.WideShapes Go.RowKit
set_option maxRecDepth 8000
theorem zMT:laidOutB Tryz.prog=true:=by kernel_rfl
theorem zJJ {Z:Nat→Prop} {G:List (Option OG)} {w:World} {a:HV} {y:Value} {bs:List HV} {ys:List Value} (h:RV Z G w a y []) (t:RL Z G w bs ys []):RL Z G w (a::bs) (y::ys) []:=by
 simp only[RL];exact ⟨y,ys,[],[],rfl,rfl,h,t⟩
theorem z1g {Z:Nat→Prop} {G:List (Option OG)} {w:World}:RL Z G w [] [] []:=by simp[RL]
end Go.Proofs.YtoknohandclcbaaGreat
namespace Go.Proofs.YtoknohandclcbaaGreat
open Go.ChangeShapes Go.WideShapes Go.RowKit
set_option maxRecDepth 8000
section
variable {H:Type} {enc:TypeId×Value→H} {w:World} {base:Nat} {sp:Nat→Bool} {held:Bool} {Z:Nat→Prop}
theorem zW1 (hZ:∀b,b<w.heap.size→Z b) {r:Reach} {b0:Nat} {v:Value} {d:DataW H} {ps:List MemPlace} (hval:Value.okWide Tryz.prog w r b0 29 v) (hd:DataW.Trod enc Tryz.prog w base sp held 29 v d ps) :
  ∃a:Ans,RV Z [] w (ansH a) v []:=by
 obtain ⟨hs,h1,a1,_,rfl,g1,a2,_,rfl,g2,a3,_,rfl,g3,a4,_,rfl,g4,a5,_,rfl,g5,rfl⟩:=zSV (Z:=Z) (n:=6) hZ Tryz.underlying29 (by kernel_rfl) hval hd
 obtain ⟨rs,_,rfl,hs⟩:=zBj Tryz.underlying22 g1
 obtain ⟨f,rfl⟩:=zAZ (p:=irow) rs fun r h=>by
  obtain ⟨x,_,rfl⟩:=zAg Tryz.underlying3 (hs r h)
  exact ⟨x,rfl⟩
 obtain ⟨rows,_,rfl,hp⟩:=zBj Tryz.underlying26 g2
 obtain ⟨ps,rfl⟩:=zAZ (p:=zPU) rows fun r hr=>by
  obtain ⟨b1,_,rfl,k1,b2,_,rfl,k2,b3,_,rfl,k3,rfl⟩:=zH4 Tryz.underlying50 (hp r hr)
  obtain ⟨rs,_,rfl,hq⟩:=zBj Tryz.underlying32 k1
  obtain ⟨l,rfl⟩:=zAZ (p:=prow) rs fun r hr=>by
   obtain ⟨a,b,rfl,ha,c,d,rfl,hc,rfl⟩:=zH4 Tryz.underlying74 (hq r hr)
   obtain ⟨x,_,rfl⟩:=zAg Tryz.underlying3 ha
   obtain ⟨y,rfl⟩:=zV4 Tryz.underlying4 hc
   exact ⟨⟨x,y⟩,rfl⟩
  obtain ⟨a,b,rfl,ha,c,d,rfl,hc,rfl⟩:=zH4 Tryz.underlying44 k2
  obtain ⟨rs,_,rfl,hs⟩:=zBj Tryz.underlying22 ha
  obtain ⟨x1,rfl⟩:=zAZ (p:=irow) rs fun r h=>by
   obtain ⟨x,_,rfl⟩:=zAg Tryz.underlying3 (hs r h)
   exact ⟨x,rfl⟩
  obtain ⟨rs,_,rfl,hs⟩:=zBj Tryz.underlying22 hc
  obtain ⟨x2,rfl⟩:=zAZ (p:=irow) rs fun r h=>by
   obtain ⟨x,_,rfl⟩:=zAg Tryz.underlying3 (hs r h)
   exact ⟨x,rfl⟩
  obtain ⟨rs,_,rfl,hs⟩:=zBj Tryz.underlying22 k3
  obtain ⟨x3,rfl⟩:=zAZ (p:=irow) rs fun r h=>by
   obtain ⟨x,_,rfl⟩:=zAg Tryz.underlying3 (hs r h)
   exact ⟨x,rfl⟩
  exact ⟨⟨l,⟨x1,x2⟩,x3⟩,rfl⟩
 obtain ⟨rows,_,rfl,hp⟩:=zBj Tryz.underlying27 g3
 obtain ⟨e1,rfl⟩:=zAZ (p:=orow) rows fun r hr=>by
  obtain ⟨a,b,rfl,ha,c,d,rfl,hc,rfl⟩:=zH4 Tryz.underlying44 (hp r hr)
  obtain ⟨rs,_,rfl,hs⟩:=zBj Tryz.underlying22 ha
  obtain ⟨x1,rfl⟩:=zAZ (p:=irow) rs fun r h=>by
   obtain ⟨x,_,rfl⟩:=zAg Tryz.underlying3 (hs r h)
   exact ⟨x,rfl⟩
  obtain ⟨rs,_,rfl,hs⟩:=zBj Tryz.underlying22 hc
  obtain ⟨x2,rfl⟩:=zAZ (p:=irow) rs fun r h=>by
   obtain ⟨x,_,rfl⟩:=zAg Tryz.underlying3 (hs r h)
   exact ⟨x,rfl⟩
  exact ⟨⟨x1,x2⟩,rfl⟩
 obtain ⟨rows,_,rfl,hp⟩:=zBj Tryz.underlying27 g4
 obtain ⟨e2,rfl⟩:=zAZ (p:=orow) rows fun r hr=>by
  obtain ⟨a,b,rfl,ha,c,d,rfl,hc,rfl⟩:=zH4 Tryz.underlying44 (hp r hr)
  obtain ⟨rs,_,rfl,hs⟩:=zBj Tryz.underlying22 ha
  obtain ⟨x1,rfl⟩:=zAZ (p:=irow) rs fun r h=>by
   obtain ⟨x,_,rfl⟩:=zAg Tryz.underlying3 (hs r h)
   exact ⟨x,rfl⟩
  obtain ⟨rs,_,rfl,hs⟩:=zBj Tryz.underlying22 hc
  obtain ⟨x2,rfl⟩:=zAZ (p:=irow) rs fun r h=>by
   obtain ⟨x,_,rfl⟩:=zAg Tryz.underlying3 (hs r h)
   exact ⟨x,rfl⟩
  exact ⟨⟨x1,x2⟩,rfl⟩
 obtain ⟨n,_,rfl⟩:=zAg Tryz.underlying3 g5
 exact ⟨⟨f,ps,e1,e2,n⟩,h1⟩
end
end Go.Proofs.YtoknohandclcbaaGreat
